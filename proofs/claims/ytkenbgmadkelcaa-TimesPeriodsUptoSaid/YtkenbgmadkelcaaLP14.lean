/- A part of the library of this claim: rules of an abstract machine (values in place of addresses), proved against the model, and contracts of the functions. -/
import Derived.Test.YtkenbgmadkelcaaLP12
set_option linter.unusedVariables false
set_option linter.unusedSimpArgs false
set_option maxHeartbeats 8000000
set_option maxRecDepth 10000
namespace Go.Qd
open Go Go.Proofs
theorem delay_small {p : Part} (h : Small 1000000 p) (i ticks now : Int) : Small 1000000 (delayP p i ticks now).1 := by
  unfold delayP
  cases (!(thereB p i) || (decide (ticks < 0) || decide (ticks > 4096)))
  · simp only [cond_false]
    split
    · exact h
    · split
      · exact h
      · split
        · exact small_blockP h _ _ _ _ _
        · exact small_queueP h _ _
  · exact h
theorem period_small {p : Part} (h : Small 1000000 p) (c : Conf) (i : Int) : Small 1000000 (periodP c p i).1 := by
  unfold periodP
  cases (!(thereB p i) || decide (i ≥ (c.procs.length : Int)))
  · simp only [cond_false]
    split
    · split
      · exact h
      · exact small_setP h _ _
    · exact h
  · exact h
theorem repl_small {p : Part} (h : Small 1000000 p) (c : Conf) (i ticks now : Int) : Small 1000000 (replP c p i ticks now).1 := by
  unfold replP
  cases (!(thereB p i) || (decide (i ≥ (c.procs.length : Int)) || (decide (ticks < 1) || decide (ticks > 4096))))
  · simp only [cond_false]
    split
    · split
      · exact h
      · exact small_setP h _ _
    · exact h
  · exact h
/-- law11.TimesAsk -/
theorem law14 (c : Conf) (p : Part) (i ticks now : Int) (hf : Fits10 p) : Con Try.prog 14 [Cf c, Pa p, iv i, iv ticks, iv now] (.bool true) [] := by
  refine ⟨⟨_, _, Try.func14, rfl, by decide⟩, ICall.of_body' T10_ok ⟨Try.func14, rfl, by decide⟩ (by simp [Try.f14]) ?_⟩
  have c17 := few17 p hf
  by_cases hfew : fewP p
  rotate_left
  · rw [decide_eq_false hfew] at c17
    refine AWP.goC (And.intro awake34 c17) ?_
    refine AWP.condA ?_ ?_ <;> intro hz
    · refine AWP.goA ?_
      refine AWP.ret ?_
      exact ⟨trivial, [], by simp, .bool true, rfl, rfl, rfl, rfl⟩
    · cases hz
  rw [decide_eq_true hfew] at c17
  have hs := hfew.small
  refine AWP.goC (And.intro awake34 c17) ?_
  refine AWP.condA ?_ ?_ <;> intro hz
  · refine AWP.goA ?_
    refine AWP.ret ?_
    exact ⟨trivial, [], by simp, .bool true, rfl, rfl, rfl, rfl⟩
  have q0 : ¬ ((c.procs.length : Int) > 20) := by simpa using hz
  have ca := period37 c p i hs
  have cb := rperiod42 c p i hs
  have cd := delay35 p i ticks now hs
  have ce := rdelay43 p i ticks now hs
  have cg := repl44 c p i ticks now hs
  have ch := rrepl45 c p i ticks now hs
  have c1 := same19 (periodP c p i).1 (periodP c p i).1 (period_small hs c i)
  have c2 := same19 (delayP p i ticks now).1 (delayP p i ticks now).1 (delay_small hs i ticks now)
  have c3 := same19 (replP c p i ticks now).1 (replP c p i ticks now).1 (repl_small hs c i ticks now)
  rw [decide_eq_true rfl] at c1 c2 c3
  obtain ⟨u, hu⟩ : ∃ u, periodP c p i = u := ⟨_, rfl⟩
  obtain ⟨v, hv⟩ : ∃ v, delayP p i ticks now = v := ⟨_, rfl⟩
  obtain ⟨w, hw⟩ : ∃ w, replP c p i ticks now = w := ⟨_, rfl⟩
  rw [hu] at ca cb c1
  rw [hv] at cd ce c2
  rw [hw] at cg ch c3
  refine AWP.goC (And.intro ca (And.intro cb (And.intro cd (And.intro ce (And.intro cg ch))))) ?_
  try simp only [List.take_succ_cons, List.take_zero, List.drop_succ_cons, List.drop_zero, keysL, keysA, List.append_nil, List.nil_append, splice_zero_cons, splice_zero_nil, splice_succ, AV.closedAll, AV.closed, Bool.and_true, Bool.and_self]
  refine AWP.goC (And.intro ca (And.intro cb (And.intro cd (And.intro ce (And.intro cg ch))))) ?_
  try simp only [List.take_succ_cons, List.take_zero, List.drop_succ_cons, List.drop_zero, keysL, keysA, List.append_nil, List.nil_append, splice_zero_cons, splice_zero_nil, splice_succ, AV.closedAll, AV.closed, Bool.and_true, Bool.and_self]
  refine AWP.goC (And.intro c1 (And.intro c2 c3)) ?_
  refine AWP.ret ?_
  exact ⟨trivial, [], by simp, .bool true, rfl, rfl, rfl, rfl⟩
end Go.Qd
