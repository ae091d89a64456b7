/- A buffer is full at its depth, and no further: the law BufferFull returns true for every input, and leaves its arguments as they were. Conditions: none beyond the given statement. -/
import Derived.Test.YtfbmgodfpjeanaaLW14b
import Derived.Test.YtfbmgodfpjeanaaQsF
import Derived.Test.YtfbmgodfpjeanaaQsH
import Derived.Test.YtfbmgodfpjeanaaRows
import Derived.JoinedOf
import Derived.Handed
set_option linter.unusedVariables false
namespace Go.Proofs.Ytfbmgodfpjeanaa.bufferFull
open Go Go.Qd Go.RowKit
theorem shapes : shOkL Try.prog [sI, sW] Try.f25.params.toList = true := by kernel_rfl
theorem con {N : Nat} (l : List AV) (h : shAs N [sI, sW] l) : ICall Try.prog 25 l (.bool true) [] := by
  obtain ⟨b0, l0, rfl, h0, r0⟩ := shAs_cons h
  obtain ⟨x0, rfl⟩ := aI h0
  obtain ⟨b1, l1, rfl, h1, r1⟩ := shAs_cons r0
  obtain ⟨x1, rfl⟩ := aW h1
  have e := shAs_nil r1
  subst e
  exact (law25 x0 x1).2
set_option maxRecDepth 100000 in
theorem lifted (os : Os) (started : os.Started) (H : Type) (enc : TypeId × Value → H) :
    ReturnsInHanded {} Try.checked os 25 .any (Rows.bufferFullSpec.pre6 enc Try.prog Try.f25 Rows.bufferFullRow.domain false) (Rows.bufferFullSpec.post enc Try.prog Try.f25 false true false false) := by
  refine returnsInHanded_of_change (C := Try.checked) own started (by kernel_rfl) Try.func25
    (ChangeSpec.witness6 (enc := enc) (C := Try.checked) false ⟨#[], #[.int .i64 0, .agg #[.int .i64 0, .int .i64 0, .int .i64 0]], []⟩ 8 (by kernel_rfl) (by kernel_rfl) (by kernel_rfl) (by kernel_rfl)) ?_
  intro W base args ds gs before hval hW _ _
  exact law_contract (Bnd.all H) laidOut shapes (tb := 4) (by kernel_rfl) Try.underlying4 rfl (fun ds h => by match ds, h with | [_, _], _ => rfl) (by kernel_rfl) con hval hW (fun _ _ => trivial)
theorem over : Rows.bufferFullRow.holds Try.pinned (OpenSpec.ofChange Rows.bufferFullSpec) :=
  OpenClaim.holds_of_wide 25 Try.f25 rfl rfl rfl rfl rfl rfl rfl ⟨rfl, rfl, rfl, rfl, rfl⟩ rfl rfl rfl rfl rfl (by kernel_rfl) Try.func25
    (joined_of headIs mayEnter_ok rfl rfl (by kernel_rfl) (by kernel_rfl) (by kernel_rfl) (by kernel_rfl))
    (of_decide_eq_true (by kernel_rfl)) (by unfold Func.isWrapper; first | (rw [if_pos (by decide +kernel)]; kernel_rfl) | (rw [if_neg (by decide +kernel)]; exact ⟨rfl, rfl⟩))
    (fun os started H enc _ => lifted os started H enc)
theorem proved : Rows.BufferFullSaid := over
#print axioms proved
end Go.Proofs.Ytfbmgodfpjeanaa.bufferFull
