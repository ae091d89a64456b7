/- All who wait for a board are told what is written next, in their order: the law BoardTells returns true for every input, and leaves its arguments as they were. Conditions: none beyond the given statement. -/
import Derived.Test.YtfbmgodfpjeanaaLW13b
import Derived.Test.YtfbmgodfpjeanaaQsF
import Derived.Test.YtfbmgodfpjeanaaQsH
import Derived.Test.YtfbmgodfpjeanaaRows
import Derived.JoinedOf
import Derived.Handed
set_option linter.unusedVariables false
namespace Go.Proofs.Ytfbmgodfpjeanaa.boardTells
open Go Go.Qd Go.RowKit
theorem shapes : shOkL Try.prog [.slice sW, sI] Try.f10.params.toList = true := by kernel_rfl
theorem con {N : Nat} (l : List AV) (h : shAs N [.slice sW, sI] l) : ICall Try.prog 10 l (.bool true) [] := by
  obtain ⟨b0, l0, rfl, h0, r0⟩ := shAs_cons h
  obtain ⟨x0, rfl⟩ := aWl h0
  obtain ⟨b1, l1, rfl, h1, r1⟩ := shAs_cons r0
  obtain ⟨x1, rfl⟩ := aI h1
  have e := shAs_nil r1
  subst e
  exact (law10 x0 x1).2
set_option maxRecDepth 100000 in
theorem lifted (os : Os) (started : os.Started) (H : Type) (enc : TypeId × Value → H) :
    ReturnsInHanded {} Try.checked os 10 .any (Rows.boardTellsSpec.pre6 enc Try.prog Try.f10 Rows.boardTellsRow.domain false) (Rows.boardTellsSpec.post enc Try.prog Try.f10 false true false false) := by
  refine returnsInHanded_of_change (C := Try.checked) own started (by kernel_rfl) Try.func10
    (ChangeSpec.witness6 (enc := enc) (C := Try.checked) false ⟨#[], #[.slice none 0 0, .int .i64 0], []⟩ 8 (by kernel_rfl) (by kernel_rfl) (by kernel_rfl) (by kernel_rfl)) ?_
  intro W base args ds gs before hval hW _ _
  exact law_contract (Bnd.all H) laidOut shapes (tb := 4) (by kernel_rfl) Try.underlying4 rfl (fun ds h => by match ds, h with | [_, _], _ => rfl) (by kernel_rfl) con hval hW (fun _ _ => trivial)
theorem over : Rows.boardTellsRow.holds Try.pinned (OpenSpec.ofChange Rows.boardTellsSpec) :=
  OpenClaim.holds_of_wide 10 Try.f10 rfl rfl rfl rfl rfl rfl rfl ⟨rfl, rfl, rfl, rfl, rfl⟩ rfl rfl rfl rfl rfl (by kernel_rfl) Try.func10
    (joined_of headIs mayEnter_ok rfl rfl (by kernel_rfl) (by kernel_rfl) (by kernel_rfl) (by kernel_rfl))
    (of_decide_eq_true (by kernel_rfl)) (by unfold Func.isWrapper; first | (rw [if_pos (by decide +kernel)]; kernel_rfl) | (rw [if_neg (by decide +kernel)]; exact ⟨rfl, rfl⟩))
    (fun os started H enc _ => lifted os started H enc)
theorem proved : Rows.BoardTellsSaid := over
#print axioms proved
end Go.Proofs.Ytfbmgodfpjeanaa.boardTells
