/- What the monitor does for any table and error, and whom an error concerns, is what the reference says: the law MonitorActs returns true for every input, and leaves its arguments as they were. Conditions: none beyond the given statement. -/
import Derived.Test.YtnodjmlldjdhdaaDoorW3
import Derived.Test.YtnodjmlldjdhdaaDoorQsF
import Derived.Test.YtnodjmlldjdhdaaDoorHd20
import Derived.Test.YtnodjmlldjdhdaaDoorRows
import Derived.Test.YtnodjmlldjdhdaaDoorCards
import Derived.Test.YtnodjmlldjdhdaaDoorTie
import Derived.ProofKit
import Derived.OpenShut
import Derived.Deep.DeepHandedRow
set_option linter.unusedVariables false
namespace Go.Proofs.YtnodjmlldjdhdaaDoor.monitorActs
open Go Go.Qd Go.RowKit
theorem shapes : shOkL Tryd.prog [.slice sI, sI, sI] Tryd.f3.params.toList = true := by kernel_rfl
theorem con {N : Nat} (l : List AV) (h : shAs N [.slice sI, sI, sI] l) : ICall Tryd.prog 3 l (.bool true) [] := by
  obtain ⟨b0, l0, rfl, h0, r0⟩ := shAs_cons h
  obtain ⟨x0, rfl⟩ := aIl h0
  obtain ⟨b1, l1, rfl, h1, r1⟩ := shAs_cons r0
  obtain ⟨x1, rfl⟩ := aI h1
  obtain ⟨b2, l2, rfl, h2, r2⟩ := shAs_cons r1
  obtain ⟨x2, rfl⟩ := aI h2
  have e := shAs_nil r2
  subst e
  exact (law3 x0 x1 x2).2
theorem laid_met (os : Os) : laidMet Tryd.prog Rows.monitorActsRow.laid ((laidWorld os).forCall (fun _ _ => 0) ⟨#[], #[.slice none 0 0, .int .i64 0, .int .i64 0], []⟩).memory :=
  laidMet_of_run' 8 (by kernel_rfl) (by kernel_rfl)
theorem reads (os : Os) {H : Type} (enc : TypeId × Value → H) : ∃ places, DataW.whole enc Tryd.prog ((laidWorld os).forCall (fun _ _ => 0) ⟨#[], #[.slice none 0 0, .int .i64 0, .int .i64 0], []⟩).memory Tryd.f3.params.toList Rows.monitorActsSpec.vars false (#[.slice none 0 0, .int .i64 0, .int .i64 0] : Array Value).toList 8 = some ([.nil, .lit (.int .i64 0), .lit (.int .i64 0)], [], places) :=
  ⟨[], by kernel_rfl⟩
set_option maxRecDepth 100000 in
theorem lifted (os : Os) (started : os.Started) (H : Type) (enc : TypeId × Value → H) (F : Stop.Interp) :
    ReturnsInHanded {} Tryd.checked os 3 .any ((OpenSpec.ofChange Rows.monitorActsSpec).preRow enc Tryd.prog Tryd.f3 Rows.monitorActsRow.domain false Rows.monitorActsRow.laid) (((OpenSpec.ofChange Rows.monitorActsSpec).at F).post enc Tryd.prog Tryd.f3 false true false false) := by
  obtain ⟨places, hx⟩ := reads os enc
  refine returnsInHanded_of_row (C := Tryd.checked) (s := OpenSpec.ofChange Rows.monitorActsSpec) own started (by kernel_rfl) Tryd.func3
    (witness_row_at (enc := enc) (C := Tryd.checked) false (laidWorld os) #[.slice none 0 0, .int .i64 0, .int .i64 0] rfl (by kernel_rfl) (by kernel_rfl) (by kernel_rfl)
      (OpenSpec.preRow_of_cond 8 hx (by kernel_rfl) (fun k hk => by cases hk) (by kernel_rfl) (laid_met os))) ?_
  intro W base args ds gs before hval hW _ _ _ hL _ _
  exact law_contract (Bnd.all H) laidOut shapes (tb := 4) (by kernel_rfl) Tryd.underlying4 rfl (fun ds h => by match ds, h with | [_, _, _], _ => rfl) (by kernel_rfl) con (okB_of hL) hval hW (fun _ _ => trivial)
theorem said : Rows.MonitorActsSaid :=
  OpenClaim.holds_of_cond 3 Tryd.f3 rfl rfl rfl rfl rfl rfl rfl ⟨rfl, rfl, rfl, rfl, rfl⟩ rfl rfl rfl rfl rfl (by kernel_rfl) Tryd.func3 (by kernel_rfl)
    (of_decide_eq_true (by kernel_rfl)) (by unfold Func.isWrapper; first | (rw [if_pos (by decide +kernel)]; kernel_rfl) | (rw [if_neg (by decide +kernel)]; exact ⟨rfl, rfl⟩))
    (fun os started H enc _ F => by rw [OpenClaim.pre_eq_preRow]; exact lifted os started H enc F)
theorem plain (f : FuncId) (fn : Func) (hf : Tryd.pinned.checked.prog.funcNamed "quarterdeck/quarterdecklaw20.MonitorActs" = some f) (hfn : Tryd.pinned.checked.prog.funcs[f]? = some fn) :
    false = Tryd.pinned.checked.prog.looks [] ∧ ∀ (j : Nat) t, fn.params[j]? = some t → Tryd.pinned.checked.prog.wantsStandIn t = false := by
  obtain rfl : f = 3 := Option.some.inj ((show Tryd.prog.funcNamed "quarterdeck/quarterdecklaw20.MonitorActs" = some 3 by kernel_rfl).symm.trans hf) |>.symm
  obtain rfl : fn = Tryd.f3 := (Option.some.inj (Tryd.func3.symm.trans hfn)).symm
  refine ⟨by kernel_rfl, fun j t ht => ?_⟩
  have hm := Array.mem_of_getElem? ht
  rw [Tryd.params3] at hm
  have : t = 22 ∨ t = 3 := by simp at hm; first | omega | (subst hm; simp)
  rcases this with rfl | rfl
  · exact (show Tryd.prog.wantsStandIn 22 = false by kernel_rfl)
  · exact (show Tryd.prog.wantsStandIn 3 = false by kernel_rfl)
theorem proved : Rows.MonitorActsCardSaid :=
  Claim7.holds_tied_plain_at .later [] _ _ _ _ said (fun _ h => by cases h) (by kernel_rfl) (fun _ h => by cases h) monitorActs_row_tie rfl ⟨rfl, rfl⟩ (by kernel_rfl) rfl plain (by kernel_rfl)
#print axioms proved
end Go.Proofs.YtnodjmlldjdhdaaDoor.monitorActs
