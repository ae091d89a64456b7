/- What a semaphore counts is what was put less what was got: the law SemaCounts returns true for every input, and leaves its arguments as they were. Conditions: none beyond the given statement. -/
import Derived.Test.YtfbmgodfpjeanaaLW15a
import Derived.Test.YtfbmgodfpjeanaaQsF
import Derived.Test.YtfbmgodfpjeanaaQsH
import Derived.Test.YtfbmgodfpjeanaaRows
import Derived.JoinedOf
import Derived.Handed
set_option linter.unusedVariables false
namespace Go.Proofs.Ytfbmgodfpjeanaa.semaCounts
open Go Go.Qd Go.RowKit
theorem shapes : shOkL Try.prog [sI, sI, .bool, .slice sOs] Try.f19.params.toList = true := by kernel_rfl
theorem con {N : Nat} (l : List AV) (h : shAs N [sI, sI, .bool, .slice sOs] l) : ICall Try.prog 19 l (.bool true) [] := by
  obtain ⟨b0, l0, rfl, h0, r0⟩ := shAs_cons h
  obtain ⟨x0, rfl⟩ := aI h0
  obtain ⟨b1, l1, rfl, h1, r1⟩ := shAs_cons r0
  obtain ⟨x1, rfl⟩ := aI h1
  obtain ⟨b2, l2, rfl, h2, r2⟩ := shAs_cons r1
  obtain ⟨x2, rfl⟩ := aB h2
  obtain ⟨b3, l3, rfl, h3, r3⟩ := shAs_cons r2
  obtain ⟨x3, rfl⟩ := aOs h3
  have e := shAs_nil r3
  subst e
  exact (law19 x0 x1 x2 x3).2
set_option maxRecDepth 100000 in
theorem lifted (os : Os) (started : os.Started) (H : Type) (enc : TypeId × Value → H) :
    ReturnsInHanded {} Try.checked os 19 .any (Rows.semaCountsSpec.pre6 enc Try.prog Try.f19 Rows.semaCountsRow.domain false) (Rows.semaCountsSpec.post enc Try.prog Try.f19 false true false false) := by
  refine returnsInHanded_of_change (C := Try.checked) own started (by kernel_rfl) Try.func19
    (ChangeSpec.witness6 (enc := enc) (C := Try.checked) false ⟨#[], #[.int .i64 0, .int .i64 0, .bool false, .slice none 0 0], []⟩ 8 (by kernel_rfl) (by kernel_rfl) (by kernel_rfl) (by kernel_rfl)) ?_
  intro W base args ds gs before hval hW _ _
  exact law_contract (Bnd.all H) laidOut shapes (tb := 4) (by kernel_rfl) Try.underlying4 rfl (fun ds h => by match ds, h with | [_, _, _, _], _ => rfl) (by kernel_rfl) con hval hW (fun _ _ => trivial)
theorem over : Rows.semaCountsRow.holds Try.pinned (OpenSpec.ofChange Rows.semaCountsSpec) :=
  OpenClaim.holds_of_wide 19 Try.f19 rfl rfl rfl rfl rfl rfl rfl ⟨rfl, rfl, rfl, rfl, rfl⟩ rfl rfl rfl rfl rfl (by kernel_rfl) Try.func19
    (joined_of headIs mayEnter_ok rfl rfl (by kernel_rfl) (by kernel_rfl) (by kernel_rfl) (by kernel_rfl))
    (of_decide_eq_true (by kernel_rfl)) (by unfold Func.isWrapper; first | (rw [if_pos (by decide +kernel)]; kernel_rfl) | (rw [if_neg (by decide +kernel)]; exact ⟨rfl, rfl⟩))
    (fun os started H enc _ => lifted os started H enc)
theorem proved : Rows.SemaCountsSaid := over
#print axioms proved
end Go.Proofs.Ytfbmgodfpjeanaa.semaCounts
