/- A process delayed by no ticks is ready, behind all others; by some it waits for just so many: the law TimesDelays returns true for every input that is not of too great a bulk, and leaves its arguments as they were. Conditions: what comes in is of bulk at most 1048576, as the given statement says; none beyond it. -/
import Derived.Test.YtkenbgmadkelcaaLP10
import Derived.Test.YtkenbgmadkelcaaQsF
import Derived.Test.YtkenbgmadkelcaaQsG
import Derived.Test.YtkenbgmadkelcaaQsH
import Derived.Test.YtkenbgmadkelcaaRows
import Derived.JoinedOf
import Derived.JoinedCond
import Derived.Handed
set_option linter.unusedVariables false
namespace Go.Proofs.Ytkenbgmadkelcaa.timesDelays
open Go Go.Qd Go.RowKit
theorem shapes : shOkL Try.prog [sCf, sPa, sI, sI, sI] Try.f10.params.toList = true := by kernel_rfl
theorem con (l : List AV) (h : shAs 1048576 [sCf, sPa, sI, sI, sI] l) : ICall Try.prog 10 l (.bool true) [] := by
  obtain ⟨b0, l0, rfl, h0, r0⟩ := shAs_cons h
  obtain ⟨x0, rfl⟩ := aCf h0
  obtain ⟨b1, l1, rfl, h1, r1⟩ := shAs_cons r0
  obtain ⟨x1, rfl, f1⟩ := aPa h1
  obtain ⟨b2, l2, rfl, h2, r2⟩ := shAs_cons r1
  obtain ⟨x2, rfl⟩ := aI h2
  obtain ⟨b3, l3, rfl, h3, r3⟩ := shAs_cons r2
  obtain ⟨x3, rfl⟩ := aI h3
  obtain ⟨b4, l4, rfl, h4, r4⟩ := shAs_cons r3
  obtain ⟨x4, rfl⟩ := aI h4
  have e := shAs_nil r4
  subst e
  exact (law10 x0 x1 x2 x3 x4 f1).2
set_option maxRecDepth 100000 in
theorem lifted (os : Os) (started : os.Started) (H : Type) (enc : TypeId × Value → H) (F : Stop.Interp) :
    ReturnsInHanded {} Try.checked os 10 .any ((Rows.OpenSpec.upto Rows.timesDelaysSpec).pre6 enc Try.prog Try.f10 Rows.timesDelaysUptoRow.domain false) (((Rows.OpenSpec.upto Rows.timesDelaysSpec).at F).post enc Try.prog Try.f10 false true false false) := by
  have hw : (DataW.whole enc Try.prog (World.plainHolding Try.prog os ⟨#[], #[.agg #[.int .i64 0, .slice none 0 0, .slice none 0 0, .int .i64 0, .slice none 0 0, .slice none 0 0, .int .i64 0, .slice none 0 0, .slice none 0 0, .int .i64 0, .slice none 0 0], .agg #[.int .i64 0, .int .i64 0, .int .i64 0, .slice none 0 0, .slice none 0 0, .slice none 0 0, .slice none 0 0, .slice none 0 0, .slice none 0 0, .slice none 0 0, .slice none 0 0, .int .i64 0, .slice none 0 0, .int .i64 0, .slice none 0 0], .int .i64 0, .int .i64 0, .int .i64 0], []⟩).memory Try.f10.params.toList (Rows.OpenSpec.upto Rows.timesDelaysSpec).vars false [.agg #[.int .i64 0, .slice none 0 0, .slice none 0 0, .int .i64 0, .slice none 0 0, .slice none 0 0, .int .i64 0, .slice none 0 0, .slice none 0 0, .int .i64 0, .slice none 0 0], .agg #[.int .i64 0, .int .i64 0, .int .i64 0, .slice none 0 0, .slice none 0 0, .slice none 0 0, .slice none 0 0, .slice none 0 0, .slice none 0 0, .slice none 0 0, .slice none 0 0, .int .i64 0, .slice none 0 0, .int .i64 0, .slice none 0 0], .int .i64 0, .int .i64 0, .int .i64 0] 8).isSome = true := by kernel_rfl
  refine returnsInHanded_of_cond (C := Try.checked) (s := Rows.OpenSpec.upto Rows.timesDelaysSpec) (k := Rows.uptoSmall) rfl own started (by kernel_rfl) Try.func10
    (OpenSpec.witness (enc := enc) (C := Try.checked) (s := Rows.OpenSpec.upto Rows.timesDelaysSpec) (k := Rows.uptoSmall) rfl false ⟨#[], #[.agg #[.int .i64 0, .slice none 0 0, .slice none 0 0, .int .i64 0, .slice none 0 0, .slice none 0 0, .int .i64 0, .slice none 0 0, .slice none 0 0, .int .i64 0, .slice none 0 0], .agg #[.int .i64 0, .int .i64 0, .int .i64 0, .slice none 0 0, .slice none 0 0, .slice none 0 0, .slice none 0 0, .slice none 0 0, .slice none 0 0, .slice none 0 0, .slice none 0 0, .int .i64 0, .slice none 0 0, .int .i64 0, .slice none 0 0], .int .i64 0, .int .i64 0, .int .i64 0], []⟩ 8 (by kernel_rfl) (by kernel_rfl) (by kernel_rfl)
      (x := (DataW.whole enc Try.prog (World.plainHolding Try.prog os ⟨#[], #[.agg #[.int .i64 0, .slice none 0 0, .slice none 0 0, .int .i64 0, .slice none 0 0, .slice none 0 0, .int .i64 0, .slice none 0 0, .slice none 0 0, .int .i64 0, .slice none 0 0], .agg #[.int .i64 0, .int .i64 0, .int .i64 0, .slice none 0 0, .slice none 0 0, .slice none 0 0, .slice none 0 0, .slice none 0 0, .slice none 0 0, .slice none 0 0, .slice none 0 0, .int .i64 0, .slice none 0 0, .int .i64 0, .slice none 0 0], .int .i64 0, .int .i64 0, .int .i64 0], []⟩).memory Try.f10.params.toList (Rows.OpenSpec.upto Rows.timesDelaysSpec).vars false [.agg #[.int .i64 0, .slice none 0 0, .slice none 0 0, .int .i64 0, .slice none 0 0, .slice none 0 0, .int .i64 0, .slice none 0 0, .slice none 0 0, .int .i64 0, .slice none 0 0], .agg #[.int .i64 0, .int .i64 0, .int .i64 0, .slice none 0 0, .slice none 0 0, .slice none 0 0, .slice none 0 0, .slice none 0 0, .slice none 0 0, .slice none 0 0, .slice none 0 0, .int .i64 0, .slice none 0 0, .int .i64 0, .slice none 0 0], .int .i64 0, .int .i64 0, .int .i64 0] 8).get hw) (Option.some_get hw).symm rfl (by kernel_rfl)) ?_
  intro W base args ds gs before hval hW _ hk _
  exact law_contract (bnd H) laidOut shapes (tb := 4) (by kernel_rfl) Try.underlying4 rfl (fun ds h => by match ds, h with | [_, _, _, _, _], _ => rfl) (by kernel_rfl) con hval hW (bulk_all hk)
theorem over : Rows.timesDelaysUptoRow.holds Try.pinned (Rows.OpenSpec.upto Rows.timesDelaysSpec) :=
  OpenClaim.holds_of_cond 10 Try.f10 rfl rfl rfl rfl rfl rfl rfl ⟨rfl, rfl, rfl, rfl, rfl⟩ rfl rfl rfl rfl rfl (by kernel_rfl) Try.func10
    (joined_of headIs mayEnter_ok rfl rfl (by kernel_rfl) (by kernel_rfl) (by kernel_rfl) (by kernel_rfl))
    (of_decide_eq_true (by kernel_rfl)) (by unfold Func.isWrapper; first | (rw [if_pos (by decide +kernel)]; kernel_rfl) | (rw [if_neg (by decide +kernel)]; exact ⟨rfl, rfl⟩))
    (fun os started H enc _ F => lifted os started H enc F)
theorem proved : Rows.TimesDelaysUptoSaid := over
#print axioms proved
end Go.Proofs.Ytkenbgmadkelcaa.timesDelays
