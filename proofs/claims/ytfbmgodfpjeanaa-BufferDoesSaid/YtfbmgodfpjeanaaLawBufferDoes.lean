/- What any buffer becomes when it is sent to or taken from is what the reference says: the law BufferDoes returns true for every input, and leaves its arguments as they were. Conditions: none beyond the given statement. -/
import Derived.Test.YtfbmgodfpjeanaaLW14a
import Derived.Test.YtfbmgodfpjeanaaQsF
import Derived.Test.YtfbmgodfpjeanaaQsH
import Derived.Test.YtfbmgodfpjeanaaRows
import Derived.JoinedOf
import Derived.Handed
set_option linter.unusedVariables false
namespace Go.Proofs.Ytfbmgodfpjeanaa.bufferDoes
open Go Go.Qd Go.RowKit
theorem shapes : shOkL Try.prog [sBu, sW, .bool] Try.f23.params.toList = true := by kernel_rfl
theorem con {N : Nat} (l : List AV) (h : shAs N [sBu, sW, .bool] l) : ICall Try.prog 23 l (.bool true) [] := by
  obtain ⟨b0, l0, rfl, h0, r0⟩ := shAs_cons h
  obtain ⟨x0a, x0b, x0c, x0d, rfl⟩ := aBu h0
  obtain ⟨b1, l1, rfl, h1, r1⟩ := shAs_cons r0
  obtain ⟨x1, rfl⟩ := aW h1
  obtain ⟨b2, l2, rfl, h2, r2⟩ := shAs_cons r1
  obtain ⟨x2, rfl⟩ := aB h2
  have e := shAs_nil r2
  subst e
  exact (law23 x0a x0b x0c x0d x1 x2).2
set_option maxRecDepth 100000 in
theorem lifted (os : Os) (started : os.Started) (H : Type) (enc : TypeId × Value → H) :
    ReturnsInHanded {} Try.checked os 23 .any (Rows.bufferDoesSpec.pre6 enc Try.prog Try.f23 Rows.bufferDoesRow.domain false) (Rows.bufferDoesSpec.post enc Try.prog Try.f23 false true false false) := by
  refine returnsInHanded_of_change (C := Try.checked) own started (by kernel_rfl) Try.func23
    (ChangeSpec.witness6 (enc := enc) (C := Try.checked) false ⟨#[], #[.agg #[.int .i64 0, .bool false, .slice none 0 0, .slice none 0 0], .agg #[.int .i64 0, .int .i64 0, .int .i64 0], .bool false], []⟩ 8 (by kernel_rfl) (by kernel_rfl) (by kernel_rfl) (by kernel_rfl)) ?_
  intro W base args ds gs before hval hW _ _
  exact law_contract (Bnd.all H) laidOut shapes (tb := 4) (by kernel_rfl) Try.underlying4 rfl (fun ds h => by match ds, h with | [_, _, _], _ => rfl) (by kernel_rfl) con hval hW (fun _ _ => trivial)
theorem over : Rows.bufferDoesRow.holds Try.pinned (OpenSpec.ofChange Rows.bufferDoesSpec) :=
  OpenClaim.holds_of_wide 23 Try.f23 rfl rfl rfl rfl rfl rfl rfl ⟨rfl, rfl, rfl, rfl, rfl⟩ rfl rfl rfl rfl rfl (by kernel_rfl) Try.func23
    (joined_of headIs mayEnter_ok rfl rfl (by kernel_rfl) (by kernel_rfl) (by kernel_rfl) (by kernel_rfl))
    (of_decide_eq_true (by kernel_rfl)) (by unfold Func.isWrapper; first | (rw [if_pos (by decide +kernel)]; kernel_rfl) | (rw [if_neg (by decide +kernel)]; exact ⟨rfl, rfl⟩))
    (fun os started H enc _ => lifted os started H enc)
theorem proved : Rows.BufferDoesSaid := over
#print axioms proved
end Go.Proofs.Ytfbmgodfpjeanaa.bufferDoes
