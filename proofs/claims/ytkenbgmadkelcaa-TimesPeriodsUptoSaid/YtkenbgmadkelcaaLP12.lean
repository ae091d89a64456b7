/- A part of the library of this claim: rules of an abstract machine (values in place of addresses), proved against the model, and contracts of the functions. -/
import Derived.Test.YtkenbgmadkelcaaW37
import Derived.Test.YtkenbgmadkelcaaW24
set_option linter.unusedVariables false
set_option linter.unusedSimpArgs false
set_option maxHeartbeats 8000000
set_option maxRecDepth 10000
namespace Go.Qd
open Go Go.Proofs
theorem lateK_len (now : Int) (p : Part) : (lateK now p).length ≤ p.procs.length := by
  rw [← lateJ_all]; exact lateJ_len _ _ _
theorem small_lateP {p : Part} (h : Small 1000000 p) (now : Int) : Small 1000000 (lateP now p) :=
  ⟨h.mem, by simpa [lateP, lateAll_len] using h.procs, h.boards, h.bufs, h.semas, h.events, h.samples, h.queues, h.lines, h.given, h.boardL, h.bufL, h.bufV, h.semaL, h.eventL, h.queueV⟩
/-- law11.TimesWake -/
theorem law12 (c : Conf) (p : Part) (now : Int) (hf : Fits10 p) : Con Try.prog 12 [Cf c, Pa p, iv now] (.bool true) [] := by
  refine ⟨⟨_, _, Try.func12, rfl, by decide⟩, ICall.of_body' T10_ok ⟨Try.func12, rfl, by decide⟩ (by simp [Try.f12]) ?_⟩
  have c17 := few17 p hf
  by_cases hfew : fewP p
  rotate_left
  · rw [decide_eq_false hfew] at c17
    refine AWP.goC (And.intro awake34 c17) ?_
    refine AWP.condA ?_ ?_ <;> intro hz
    · refine AWP.goA ?_
      refine AWP.ret ?_
      exact ⟨trivial, [], by simp, .bool true, rfl, rfl, rfl, rfl⟩
    · cases hz
  rw [decide_eq_true hfew] at c17
  have hs := hfew.small
  refine AWP.goC (And.intro awake34 c17) ?_
  refine AWP.condA ?_ ?_ <;> intro hz
  · refine AWP.goA ?_
    refine AWP.ret ?_
    exact ⟨trivial, [], by simp, .bool true, rfl, rfl, rfl, rfl⟩
  have q0 : ¬ ((c.procs.length : Int) > 20) := by simpa using hz
  have cw := wake36 c p now hs
  have cr := rwake38 c p now hs
  have cl := late39 p now hs
  have cm := rlate40 p now hs
  have c1 := same19 (wakeP c now p) (wakeP c now p) (wakeSt_small hs c now _)
  have c2 := same19 (lateP now p) (lateP now p) (small_lateP hs now)
  have c3 := ints41 (lateL now p) (lateL now p) (by have := lateK_len now p; have := hs.procs; simp [lateL]; omega)
  rw [decide_eq_true rfl] at c1 c2 c3
  obtain ⟨w, hw⟩ : ∃ w, wakeP c now p = w := ⟨_, rfl⟩
  obtain ⟨q, hq⟩ : ∃ q, lateP now p = q := ⟨_, rfl⟩
  obtain ⟨l, hl⟩ : ∃ l, lateL now p = l := ⟨_, rfl⟩
  rw [hw] at cw cr c1
  rw [hq, hl] at cl cm
  rw [hq] at c2
  rw [hl] at c3
  refine AWP.goC (And.intro cw (And.intro cr (And.intro cl (And.intro cm (And.intro c1 c2))))) ?_
  try simp only [List.take_succ_cons, List.take_zero, List.drop_succ_cons, List.drop_zero, keysL, keysA, List.append_nil, List.nil_append, splice_zero_cons, splice_zero_nil, splice_succ, AV.closedAll, AV.closed, Bool.and_true, Bool.and_self]
  refine AWP.goC (And.intro cl (And.intro cm (And.intro c2 c3))) ?_
  try simp only [List.take_succ_cons, List.take_zero, List.drop_succ_cons, List.drop_zero, keysL, keysA, List.append_nil, List.nil_append, splice_zero_cons, splice_zero_nil, splice_succ, AV.closedAll, AV.closed, Bool.and_true, Bool.and_self]
  refine AWP.goC (And.intro cl (And.intro cm (And.intro c2 c3))) ?_
  try simp only [List.take_succ_cons, List.take_zero, List.drop_succ_cons, List.drop_zero, keysL, keysA, List.append_nil, List.nil_append, splice_zero_cons, splice_zero_nil, splice_succ, AV.closedAll, AV.closed, Bool.and_true, Bool.and_self]
  refine AWP.goC (And.intro c2 c3) ?_
  refine AWP.ret ?_
  exact ⟨trivial, [], by simp, .bool true, rfl, rfl, rfl, rfl⟩
end Go.Qd
