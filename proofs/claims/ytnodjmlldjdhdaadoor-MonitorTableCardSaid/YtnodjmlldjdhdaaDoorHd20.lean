/- A part of the library of this claim: rules of an abstract machine (values in place of addresses), proved against the model, and contracts of the functions. -/
import Derived.Test.YtnodjmlldjdhdaaDoorRows
import Derived.Test.YtnodjmlldjdhdaaDoorQaC
import Derived.WalkKit
import Derived.ProofKit
namespace Go.Proofs.YtnodjmlldjdhdaaDoor
open Go Go.Qd
theorem own : ownKnob Tryd.prog.godebug = none := by kernel_rfl
theorem laidOut : laidOutB Tryd.prog = true := by kernel_rfl
/-- A world for the witness: the settled one, the table (block 0) holding what its initialiser lays. -/
noncomputable def laidWorld (os : Os) : World :=
  { World.holding Tryd.prog os ⟨#[], #[], []⟩ with heap := (World.holding Tryd.prog os ⟨#[], #[], []⟩).heap.modify 0 fun
      | .cells _ t frozen => .cells #[.bool false, .bool true, .bool true, .bool false, .bool false] t frozen
      | o => o }
end Go.Proofs.YtnodjmlldjdhdaaDoor
