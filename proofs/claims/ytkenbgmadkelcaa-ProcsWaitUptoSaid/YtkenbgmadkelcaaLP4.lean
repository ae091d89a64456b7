/- A part of the library of this claim: rules of an abstract machine (values in place of addresses), proved against the model, and contracts of the functions. -/
import Derived.Test.YtkenbgmadkelcaaW27
import Derived.Test.YtkenbgmadkelcaaW26
import Derived.Test.YtkenbgmadkelcaaW25
set_option linter.unusedVariables false
set_option linter.unusedSimpArgs false
set_option maxHeartbeats 8000000
set_option maxRecDepth 10000
namespace Go.Qd
open Go Go.Proofs
def partOf (l : List Proc) : Part := ⟨0, 0, 0, [], l, [], [], [], [], [], [], 0, [], 0, []⟩
theorem small_partOf {m : Nat} {l : List Proc} (h : l.length ≤ m) : Small m (partOf l) := by
  constructor <;> simp [partOf] <;> exact h
/-- law10.ProcsWait -/
theorem law4 (c : Conf) (p : Part) (wa wb wc kind obj till : Int) (hf : Fits10 p) : Con Try.prog 4 [Cf c, Pa p, .agg [iv wa, iv wb, iv wc], iv kind, iv obj, iv till] (.bool true) [] := by
  refine ⟨⟨_, _, Try.func4, rfl, by decide⟩, ICall.of_body' T10_ok ⟨Try.func4, rfl, by decide⟩ (by simp [Try.f4]) ?_⟩
  have c17 := few17 p hf
  by_cases hfew : fewP p
  rotate_left
  · rw [decide_eq_false hfew] at c17
    refine AWP.goC (And.intro awake16 c17) ?_
    refine AWP.condA ?_ ?_ <;> intro hz
    · refine AWP.goA ?_
      refine AWP.ret ?_
      exact ⟨trivial, [], by simp, .bool true, rfl, rfl, rfl, rfl⟩
    · cases hz
  rw [decide_eq_true hfew] at c17
  have hs := hfew.small
  refine AWP.goC (And.intro awake16 c17) ?_
  refine AWP.condA ?_ ?_ <;> intro hz
  · refine AWP.goA ?_
    refine AWP.ret ?_
    exact ⟨trivial, [], by simp, .bool true, rfl, rfl, rfl, rfl⟩
  have q0 : ¬ ((c.procs.length : Int) > 20) := by simpa using hz
  have hcp : c.procs.length ≤ 1000000 := by omega
  have hself : ∀ a : Int, (a != a) = false := fun a => by simp
  have hself2 : ∀ a : Int, (a == a) = true := fun a => by simp
  have k1 := block21 p wa kind obj till 7 hs
  have k2 := rblock22 p wa kind obj till 7 hs.procs
  have s1 : Small 1000000 (opQ (fun n => blockP p n kind obj till 7) p wa) := small_opQ _ _ hs fun n => small_blockP hs n _ _ _ _
  obtain ⟨b, hb⟩ : ∃ b, opQ (fun n => blockP p n kind obj till 7) p wa = b := ⟨_, rfl⟩
  rw [hb] at k1 k2 s1
  have k3 := same19 b b s1
  rw [decide_eq_true rfl] at k3
  refine AWP.goA ?_
  apply AWP.anyR Zz_mixed
  focus
    (repeat (apply Trace.cons; (focus (first | exact Loc.opF hself | exact Loc.opYesF hself | exact Loc.opNoA | exact Loc.conA k1 | exact Loc.conA k2 | exact Loc.conA k3)); (focus exact applyF hself)))
    exact Trace.nil _
  focus kernel_rfl
  simp only [Then, InBlock]
  have g1 := go23 p wa wb wc hs
  have g2 := rgo24 p wa wb wc hs.procs
  have s2 : Small 1000000 (opQ (fun n => (goP p n wb wc).1) p wa) := small_opQ _ _ hs fun n => small_goP hs n _ _
  obtain ⟨g, hg⟩ : ∃ g, opQ (fun n => (goP p n wb wc).1) p wa = g := ⟨_, rfl⟩
  rw [hg] at g1 g2 s2
  have g3 := same19 g g s2
  rw [decide_eq_true rfl] at g3
  refine AWP.goA ?_
  apply AWP.anyR Zz_mixed
  focus
    (repeat (apply Trace.cons; (focus (first | exact Loc.opF hself | exact Loc.opYesF hself | exact Loc.opNoA | exact Loc.conA g1 | exact Loc.conA g2 | exact Loc.conA g3)); (focus exact applyF hself)))
    exact Trace.nil _
  focus kernel_rfl
  simp only [Then, InBlock]
  have l1 := leave25 p wa hs
  have l2 := leave26 p wa hs
  have s3 := small_leaveP hs wa
  obtain ⟨l, hl⟩ : ∃ l, leaveP wa p = l := ⟨_, rfl⟩
  rw [hl] at l1 l2 s3
  have l3 := same19 l l s3
  rw [decide_eq_true rfl] at l3
  refine AWP.goA ?_
  apply AWP.anyR Zz_mixed
  focus
    (repeat (apply Trace.cons; (focus (first | exact Loc.opF hself | exact Loc.opYesF hself | exact Loc.opNoA | exact Loc.conA l1 | exact Loc.conA l2 | exact Loc.conA l3)); (focus exact applyF hself)))
    exact Trace.nil _
  focus kernel_rfl
  simp only [Then, InBlock]
  have n1 := new27 c hcp
  have n2 := new28 c hcp
  obtain ⟨m, hm⟩ : ∃ m, newP c.procs = m := ⟨_, rfl⟩
  have hml : m.length ≤ 1000000 := by rw [← hm, newP_len]; exact hcp
  rw [hm] at n1 n2
  have n3 := same19 (partOf m) (partOf m) (small_partOf hml)
  rw [decide_eq_true rfl] at n3
  refine AWP.goA ?_
  apply AWP.anyR Zz_mixed
  focus
    (repeat (apply Trace.cons; (focus (first | exact Loc.opF hself | exact Loc.opYesF hself | exact Loc.opNoA | exact Loc.conA n1 | exact Loc.conA n2 | exact Loc.conA n3)); (focus exact applyF hself)))
    exact Trace.nil _
  focus kernel_rfl
  simp only [Then, InBlock]
  have o1 := own29 p hs
  have o3 := same19 p p hs
  rw [decide_eq_true rfl] at o3
  refine AWP.goA ?_
  apply AWP.anyR Zz_mixed
  focus
    (repeat (apply Trace.cons; (focus (first | exact Loc.opF hself | exact Loc.opYesF hself | exact Loc.opNoA | exact Loc.conA o1 | exact Loc.conA o3)); (focus exact applyF hself)))
    exact Trace.nil _
  focus kernel_rfl
  simp only [Then, InBlock]
  refine AWP.goA ?_
  refine AWP.ret ?_
  exact ⟨trivial, [], by simp, .bool true, rfl, rfl, rfl, rfl⟩
end Go.Qd
