/- To set an event twice is to set it once; reset, it is down: the law EventTwice returns true for every input, and leaves its arguments as they were. Conditions: none beyond the given statement. -/
import Derived.Test.YtfbmgodfpjeanaaLW16a
import Derived.Test.YtfbmgodfpjeanaaQsF
import Derived.Test.YtfbmgodfpjeanaaQsH
import Derived.Test.YtfbmgodfpjeanaaRows
import Derived.JoinedOf
import Derived.Handed
set_option linter.unusedVariables false
namespace Go.Proofs.Ytfbmgodfpjeanaa.eventTwice
open Go Go.Qd Go.RowKit
theorem shapes : shOkL Try.prog [sEv] Try.f16.params.toList = true := by kernel_rfl
theorem con {N : Nat} (l : List AV) (h : shAs N [sEv] l) : ICall Try.prog 16 l (.bool true) [] := by
  obtain ⟨b0, l0, rfl, h0, r0⟩ := shAs_cons h
  obtain ⟨x0a, x0b, rfl⟩ := aEv h0
  have e := shAs_nil r0
  subst e
  exact (law16 x0a x0b).2
set_option maxRecDepth 100000 in
theorem lifted (os : Os) (started : os.Started) (H : Type) (enc : TypeId × Value → H) :
    ReturnsInHanded {} Try.checked os 16 .any (Rows.eventTwiceSpec.pre6 enc Try.prog Try.f16 Rows.eventTwiceRow.domain false) (Rows.eventTwiceSpec.post enc Try.prog Try.f16 false true false false) := by
  refine returnsInHanded_of_change (C := Try.checked) own started (by kernel_rfl) Try.func16
    (ChangeSpec.witness6 (enc := enc) (C := Try.checked) false ⟨#[], #[.agg #[.bool false, .slice none 0 0]], []⟩ 8 (by kernel_rfl) (by kernel_rfl) (by kernel_rfl) (by kernel_rfl)) ?_
  intro W base args ds gs before hval hW _ _
  exact law_contract (Bnd.all H) laidOut shapes (tb := 4) (by kernel_rfl) Try.underlying4 rfl (fun ds h => by match ds, h with | [_], _ => rfl) (by kernel_rfl) con hval hW (fun _ _ => trivial)
theorem over : Rows.eventTwiceRow.holds Try.pinned (OpenSpec.ofChange Rows.eventTwiceSpec) :=
  OpenClaim.holds_of_wide 16 Try.f16 rfl rfl rfl rfl rfl rfl rfl ⟨rfl, rfl, rfl, rfl, rfl⟩ rfl rfl rfl rfl rfl (by kernel_rfl) Try.func16
    (joined_of headIs mayEnter_ok rfl rfl (by kernel_rfl) (by kernel_rfl) (by kernel_rfl) (by kernel_rfl))
    (of_decide_eq_true (by kernel_rfl)) (by unfold Func.isWrapper; first | (rw [if_pos (by decide +kernel)]; kernel_rfl) | (rw [if_neg (by decide +kernel)]; exact ⟨rfl, rfl⟩))
    (fun os started H enc _ => lifted os started H enc)
theorem proved : Rows.EventTwiceSaid := over
#print axioms proved
end Go.Proofs.Ytfbmgodfpjeanaa.eventTwice
