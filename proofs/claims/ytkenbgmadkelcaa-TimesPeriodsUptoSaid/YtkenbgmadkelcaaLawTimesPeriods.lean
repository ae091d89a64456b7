/- A process that waits for its release is released in time, with its limit and its next release: the law TimesPeriods returns true for every input that is not of too great a bulk, and leaves its arguments as they were. Conditions: what comes in is of bulk at most 1048576, as the given statement says; none beyond it. -/
import Derived.Test.YtkenbgmadkelcaaLP11
import Derived.Test.YtkenbgmadkelcaaQsF
import Derived.Test.YtkenbgmadkelcaaQsG
import Derived.Test.YtkenbgmadkelcaaQsH
import Derived.Test.YtkenbgmadkelcaaRows
import Derived.JoinedOf
import Derived.JoinedCond
import Derived.Handed
set_option linter.unusedVariables false
namespace Go.Proofs.Ytkenbgmadkelcaa.timesPeriods
open Go Go.Qd Go.RowKit
theorem shapes : shOkL Try.prog [sCf, sPa, sI, sI] Try.f11.params.toList = true := by kernel_rfl
theorem con (l : List AV) (h : shAs 1048576 [sCf, sPa, sI, sI] l) : ICall Try.prog 11 l (.bool true) [] := by
  obtain ⟨b0, l0, rfl, h0, r0⟩ := shAs_cons h
  obtain ⟨x0, rfl⟩ := aCf h0
  obtain ⟨b1, l1, rfl, h1, r1⟩ := shAs_cons r0
  obtain ⟨x1, rfl, f1⟩ := aPa h1
  obtain ⟨b2, l2, rfl, h2, r2⟩ := shAs_cons r1
  obtain ⟨x2, rfl⟩ := aI h2
  obtain ⟨b3, l3, rfl, h3, r3⟩ := shAs_cons r2
  obtain ⟨x3, rfl⟩ := aI h3
  have e := shAs_nil r3
  subst e
  exact (law11 x0 x1 x2 x3 f1).2
set_option maxRecDepth 100000 in
theorem lifted (os : Os) (started : os.Started) (H : Type) (enc : TypeId × Value → H) (F : Stop.Interp) :
    ReturnsInHanded {} Try.checked os 11 .any ((Rows.OpenSpec.upto Rows.timesPeriodsSpec).pre6 enc Try.prog Try.f11 Rows.timesPeriodsUptoRow.domain false) (((Rows.OpenSpec.upto Rows.timesPeriodsSpec).at F).post enc Try.prog Try.f11 false true false false) := by
  have hw : (DataW.whole enc Try.prog (World.plainHolding Try.prog os ⟨#[], #[.agg #[.int .i64 0, .slice none 0 0, .slice none 0 0, .int .i64 0, .slice none 0 0, .slice none 0 0, .int .i64 0, .slice none 0 0, .slice none 0 0, .int .i64 0, .slice none 0 0], .agg #[.int .i64 0, .int .i64 0, .int .i64 0, .slice none 0 0, .slice none 0 0, .slice none 0 0, .slice none 0 0, .slice none 0 0, .slice none 0 0, .slice none 0 0, .slice none 0 0, .int .i64 0, .slice none 0 0, .int .i64 0, .slice none 0 0], .int .i64 0, .int .i64 0], []⟩).memory Try.f11.params.toList (Rows.OpenSpec.upto Rows.timesPeriodsSpec).vars false [.agg #[.int .i64 0, .slice none 0 0, .slice none 0 0, .int .i64 0, .slice none 0 0, .slice none 0 0, .int .i64 0, .slice none 0 0, .slice none 0 0, .int .i64 0, .slice none 0 0], .agg #[.int .i64 0, .int .i64 0, .int .i64 0, .slice none 0 0, .slice none 0 0, .slice none 0 0, .slice none 0 0, .slice none 0 0, .slice none 0 0, .slice none 0 0, .slice none 0 0, .int .i64 0, .slice none 0 0, .int .i64 0, .slice none 0 0], .int .i64 0, .int .i64 0] 8).isSome = true := by kernel_rfl
  refine returnsInHanded_of_cond (C := Try.checked) (s := Rows.OpenSpec.upto Rows.timesPeriodsSpec) (k := Rows.uptoSmall) rfl own started (by kernel_rfl) Try.func11
    (OpenSpec.witness (enc := enc) (C := Try.checked) (s := Rows.OpenSpec.upto Rows.timesPeriodsSpec) (k := Rows.uptoSmall) rfl false ⟨#[], #[.agg #[.int .i64 0, .slice none 0 0, .slice none 0 0, .int .i64 0, .slice none 0 0, .slice none 0 0, .int .i64 0, .slice none 0 0, .slice none 0 0, .int .i64 0, .slice none 0 0], .agg #[.int .i64 0, .int .i64 0, .int .i64 0, .slice none 0 0, .slice none 0 0, .slice none 0 0, .slice none 0 0, .slice none 0 0, .slice none 0 0, .slice none 0 0, .slice none 0 0, .int .i64 0, .slice none 0 0, .int .i64 0, .slice none 0 0], .int .i64 0, .int .i64 0], []⟩ 8 (by kernel_rfl) (by kernel_rfl) (by kernel_rfl)
      (x := (DataW.whole enc Try.prog (World.plainHolding Try.prog os ⟨#[], #[.agg #[.int .i64 0, .slice none 0 0, .slice none 0 0, .int .i64 0, .slice none 0 0, .slice none 0 0, .int .i64 0, .slice none 0 0, .slice none 0 0, .int .i64 0, .slice none 0 0], .agg #[.int .i64 0, .int .i64 0, .int .i64 0, .slice none 0 0, .slice none 0 0, .slice none 0 0, .slice none 0 0, .slice none 0 0, .slice none 0 0, .slice none 0 0, .slice none 0 0, .int .i64 0, .slice none 0 0, .int .i64 0, .slice none 0 0], .int .i64 0, .int .i64 0], []⟩).memory Try.f11.params.toList (Rows.OpenSpec.upto Rows.timesPeriodsSpec).vars false [.agg #[.int .i64 0, .slice none 0 0, .slice none 0 0, .int .i64 0, .slice none 0 0, .slice none 0 0, .int .i64 0, .slice none 0 0, .slice none 0 0, .int .i64 0, .slice none 0 0], .agg #[.int .i64 0, .int .i64 0, .int .i64 0, .slice none 0 0, .slice none 0 0, .slice none 0 0, .slice none 0 0, .slice none 0 0, .slice none 0 0, .slice none 0 0, .slice none 0 0, .int .i64 0, .slice none 0 0, .int .i64 0, .slice none 0 0], .int .i64 0, .int .i64 0] 8).get hw) (Option.some_get hw).symm rfl (by kernel_rfl)) ?_
  intro W base args ds gs before hval hW _ hk _
  exact law_contract (bnd H) laidOut shapes (tb := 4) (by kernel_rfl) Try.underlying4 rfl (fun ds h => by match ds, h with | [_, _, _, _], _ => rfl) (by kernel_rfl) con hval hW (bulk_all hk)
theorem over : Rows.timesPeriodsUptoRow.holds Try.pinned (Rows.OpenSpec.upto Rows.timesPeriodsSpec) :=
  OpenClaim.holds_of_cond 11 Try.f11 rfl rfl rfl rfl rfl rfl rfl ⟨rfl, rfl, rfl, rfl, rfl⟩ rfl rfl rfl rfl rfl (by kernel_rfl) Try.func11
    (joined_of headIs mayEnter_ok rfl rfl (by kernel_rfl) (by kernel_rfl) (by kernel_rfl) (by kernel_rfl))
    (of_decide_eq_true (by kernel_rfl)) (by unfold Func.isWrapper; first | (rw [if_pos (by decide +kernel)]; kernel_rfl) | (rw [if_neg (by decide +kernel)]; exact ⟨rfl, rfl⟩))
    (fun os started H enc _ F => lifted os started H enc F)
theorem proved : Rows.TimesPeriodsUptoSaid := over
#print axioms proved
end Go.Proofs.Ytkenbgmadkelcaa.timesPeriods
