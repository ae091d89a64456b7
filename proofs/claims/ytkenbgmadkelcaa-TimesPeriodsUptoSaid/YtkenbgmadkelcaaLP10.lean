/- A part of the library of this claim: rules of an abstract machine (values in place of addresses), proved against the model, and contracts of the functions. -/
import Derived.Test.YtkenbgmadkelcaaLP14
import Derived.Test.YtkenbgmadkelcaaW38
set_option linter.unusedVariables false
set_option linter.unusedSimpArgs false
set_option maxHeartbeats 8000000
set_option maxRecDepth 10000
namespace Go.Qd
open Go Go.Proofs
theorem wokeB_no {now : Int} {x : Proc} (h : now < x.till) : wokeB now x = false := by
  have b : decide (x.till ≤ now) = false := decide_eq_false (by omega)
  simp [wokeB, b]
theorem wokeB_yes {now : Int} {x : Proc} (h : x.state = 2) (h0 : 0 ≤ x.till) (h1 : x.till ≤ now) : wokeB now x = true := by
  have b : decide (x.till ≤ now) = true := decide_eq_true h1
  have b0 : decide (x.till ≥ 0) = true := decide_eq_true h0
  simp [wokeB, h, b, b0]
/-- law11.TimesDelays -/
theorem law10 (c : Conf) (p : Part) (i ticks now : Int) (hf : Fits10 p) : Con Try.prog 10 [Cf c, Pa p, iv i, iv ticks, iv now] (.bool true) [] := by
  refine ⟨⟨_, _, Try.func10, rfl, by decide⟩, ICall.of_body' T10_ok ⟨Try.func10, rfl, by decide⟩ (by simp [Try.f10]) ?_⟩
  have c17 := few17 p hf
  by_cases hfew : fewP p
  rotate_left
  · rw [decide_eq_false hfew] at c17
    refine AWP.goC (And.intro awake34 c17) ?_
    refine AWP.condA ?_ ?_ <;> intro hz
    · refine AWP.goA ?_
      refine AWP.ret ?_
      exact ⟨trivial, [], by simp, .bool true, rfl, rfl, rfl, rfl⟩
    · cases hz
  rw [decide_eq_true hfew] at c17
  have hs := hfew.small
  by_cases q0 : (c.procs.length : Int) > 20
  · have q0b : decide ((c.procs.length : Int) > 20) = true := decide_eq_true q0
    refine AWP.goFC (q0b) (And.intro awake34 c17) ?_
    refine AWP.condA ?_ ?_ <;> intro hz
    · refine AWP.goA ?_
      refine AWP.ret ?_
      exact ⟨trivial, [], by simp, .bool true, rfl, rfl, rfl, rfl⟩
    · cases hz
  have q0b : decide ((c.procs.length : Int) > 20) = false := decide_eq_false q0
  by_cases q1 : now < 0
  · have q1b : decide (now < 0) = true := decide_eq_true q1
    refine AWP.goFC (And.intro q0b (q1b)) (And.intro awake34 c17) ?_
    refine AWP.condA ?_ ?_ <;> intro hz
    · refine AWP.goA ?_
      refine AWP.ret ?_
      exact ⟨trivial, [], by simp, .bool true, rfl, rfl, rfl, rfl⟩
    · cases hz
  have q1b : decide (now < 0) = false := decide_eq_false q1
  refine AWP.goFC (And.intro q0b (q1b)) (And.intro awake34 c17) ?_
  refine AWP.condA ?_ ?_ <;> intro hz
  · refine AWP.goA ?_
    refine AWP.ret ?_
    exact ⟨trivial, [], by simp, .bool true, rfl, rfl, rfl, rfl⟩
  have q2 : ¬ (now > 1099511627776) := by simpa using hz
  have cr := delay35 p i ticks now hs
  have hrc := delay_cases (p := p) (i := i) (ticks := ticks) (now := now)
  have hsr := delay_small hs i ticks now
  obtain ⟨r, hr⟩ : ∃ r, delayP p i ticks now = r := ⟨_, rfl⟩
  rw [hr] at cr hrc hsr
  rcases hrc with ⟨hcode, hrp⟩ | ⟨n, hn, rfl, ht1, ht2, hst, hrq⟩
  · have b1 : (r.2 != 0) = true := by rcases hcode with h | h <;> rw [h] <;> rfl
    have b2 : (r.2 != 6) = true := by rcases hcode with h | h <;> rw [h] <;> rfl
    have c1 := same19 p p hs
    rw [decide_eq_true rfl] at c1
    rw [hrp] at cr
    refine AWP.goC cr ?_
    try simp only [List.take_succ_cons, List.take_zero, List.drop_succ_cons, List.drop_zero, keysL, keysA, List.append_nil, List.nil_append, splice_zero_cons, splice_zero_nil, splice_succ, AV.closedAll, AV.closed, Bool.and_true, Bool.and_self]
    refine AWP.goFC (And.intro b1 b2) cr ?_
    refine AWP.condA ?_ ?_ <;> intro hz2
    rotate_left
    · cases hz2
    refine AWP.goC c1 ?_
    refine AWP.ret ?_
    exact ⟨trivial, [], by simp, .bool true, rfl, rfl, rfl, rfl⟩
  obtain ⟨x, hx⟩ : ∃ x, p.procs[n] = x := ⟨_, rfl⟩
  rw [hx] at hst hrq
  have b1 : decide ((n : Int) < 0) = false := by simp
  have b3 : decide (ticks < 0) = false := decide_eq_false (by omega)
  have b4 : decide (ticks > 4096) = false := decide_eq_false (by omega)
  have hpl := hs.procs
  rcases hrq with ⟨ht0, rfl⟩ | ⟨ht0, hrq⟩
  · have hql : (queueP p n x).procs.length = p.procs.length := by simp [queueP]
    have hqn : n < (queueP p n x).procs.length := by omega
    obtain ⟨y, hy⟩ : ∃ y, (queueP p n x).procs[n] = y := ⟨_, rfl⟩
    have hy0 : y = { x with since := p.next } := by rw [← hy]; simp [queueP]
    have hyx : (queueP p n x).next = IntKind.i64.wrap (p.next + 1) := rfl
    obtain ⟨q, hq⟩ : ∃ q, queueP p n x = q := ⟨_, rfl⟩
    simp only [hq] at cr hql hqn hy hyx
    have b0 : ((0 : Int) != 0) = false := rfl
    have b0q : ((0 : Int) == 0) = true := rfl
    have b2 : decide ((n : Int) ≥ (q.procs.length : Int)) = false := decide_eq_false (by omega)
    have b5 : (ticks == 0) = true := by simpa using ht0
    have b6 : (y.state == 1) = true := by rw [hy0]; simpa using hst
    have b7 : (y.since == p.next) = true := by rw [hy0]; simp
    have b8 : (q.next == IntKind.i64.wrap (p.next + 1)) = true := by rw [hyx]; simp
    have hin := idx29 (l := q.procs) hqn
    rw [hy] at hin
    have hld := (fun (h : Heap) (x : Proc) => loadPr (h := h) (x := x))
    simp only [encProc] at hin hld
    refine AWP.goC cr ?_
    try simp only [List.take_succ_cons, List.take_zero, List.drop_succ_cons, List.drop_zero, keysL, keysA, List.append_nil, List.nil_append, splice_zero_cons, splice_zero_nil, splice_succ, AV.closedAll, AV.closed, Bool.and_true, Bool.and_self]
    refine AWP.goFC b0 cr ?_
    refine AWP.condA ?_ ?_ <;> intro hz2
    · cases hz2
    refine AWP.goF (And.intro b1 (And.intro b2 (And.intro b3 b4))) ?_
    refine AWP.condA ?_ ?_ <;> intro hz2
    · cases hz2
    refine AWP.goF (And.intro hin (And.intro hld (And.intro b5 (And.intro b6 (And.intro b7 (And.intro b8 b0q)))))) ?_
    refine AWP.condA ?_ ?_ <;> intro hz2
    rotate_left
    · cases hz2
    refine AWP.goF (And.intro hin (And.intro hld (And.intro b5 (And.intro b6 (And.intro b7 (And.intro b8 b0q)))))) ?_
    refine AWP.ret ?_
    exact ⟨trivial, [], by simp, .bool true, rfl, rfl, rfl, rfl⟩
  have hw0 : IntKind.i64.wrap (now + ticks) = now + ticks := wrap_id (by omega) (by omega)
  have hw1 : IntKind.i64.wrap (now + ticks - 1) = now + ticks - 1 := wrap_id (by omega) (by omega)
  rw [hw0] at hrq
  subst hrq
  obtain ⟨y, hy0⟩ : ∃ y : Proc, { x with state := 2, kind := 1, obj := 0, till := now + ticks, call := 7 } = y := ⟨_, rfl⟩
  have hys : y.state = 2 := by rw [← hy0]
  have hyt : y.till = now + ticks := by rw [← hy0]
  have hsq : Small 1000000 (setP p n y) := small_setP hs _ _
  have hql : (setP p n y).procs.length = p.procs.length := by simp [setP]
  have hqn : n < (setP p n y).procs.length := by omega
  have hqx : (setP p n y).procs[n] = y := by simp [setP]
  simp only [hy0] at cr
  obtain ⟨q, hq⟩ : ∃ q, setP p n y = q := ⟨_, rfl⟩
  simp only [hq] at cr hsq hql hqn hqx
  have ca := wake36 c q (now + ticks - 1) hsq
  have cb := wake36 c q (now + ticks) hsq
  have hal := wakeP_len hsq c (now + ticks - 1)
  have hbl := wakeP_len hsq c (now + ticks)
  have ha0 := (wake_get (c := c) (now := now + ticks - 1) hqn).1 (by rw [hqx]; exact wokeB_no (by omega))
  obtain ⟨z, hb0, hz1, _⟩ := (wake_get (c := c) (now := now + ticks) hqn).2 (by rw [hqx]; exact wokeB_yes hys (by omega) (by omega))
  rw [hqx] at ha0
  obtain ⟨a, ha⟩ : ∃ a, wakeP c (now + ticks - 1) q = a := ⟨_, rfl⟩
  obtain ⟨b, hb⟩ : ∃ b, wakeP c (now + ticks) q = b := ⟨_, rfl⟩
  rw [ha] at ca hal ha0
  rw [hb] at cb hbl hb0
  have han : n < a.procs.length := by omega
  have hbn : n < b.procs.length := by omega
  rw [List.getElem?_eq_getElem han] at ha0
  rw [List.getElem?_eq_getElem hbn] at hb0
  injection ha0 with ha0
  injection hb0 with hb0
  have hin := idx29 (l := q.procs) hqn
  rw [hqx] at hin
  have hia := idx29 (l := a.procs) han
  rw [ha0] at hia
  have hib := idx29 (l := b.procs) hbn
  rw [hb0] at hib
  have hld := (fun (h : Heap) (x : Proc) => loadPr (h := h) (x := x))
  simp only [encProc] at hin hia hib hld
  have b0 : ((6 : Int) != 0) = true := rfl
  have b0q : ((6 : Int) != 6) = false := rfl
  have b0r : ((6 : Int) == 6) = true := rfl
  have b2 : decide ((n : Int) ≥ (q.procs.length : Int)) = false := decide_eq_false (by omega)
  have b2a : decide ((n : Int) ≥ (a.procs.length : Int)) = false := decide_eq_false (by omega)
  have b2b : decide ((n : Int) ≥ (b.procs.length : Int)) = false := decide_eq_false (by omega)
  have b5 : (ticks == 0) = false := by simp; omega
  have b6 : (y.till == now + ticks) = true := by simpa using hyt
  have b7 : (y.state == 2) = true := by simpa using hys
  have b8 : (z.state == 1) = true := by simpa using hz1
  refine AWP.goC cr ?_
  try simp only [List.take_succ_cons, List.take_zero, List.drop_succ_cons, List.drop_zero, keysL, keysA, List.append_nil, List.nil_append, splice_zero_cons, splice_zero_nil, splice_succ, AV.closedAll, AV.closed, Bool.and_true, Bool.and_self]
  refine AWP.goFC (And.intro b0 b0q) cr ?_
  refine AWP.condA ?_ ?_ <;> intro hz2
  · cases hz2
  refine AWP.goF (And.intro b1 (And.intro b2 (And.intro b3 b4))) ?_
  refine AWP.condA ?_ ?_ <;> intro hz2
  · cases hz2
  refine AWP.goF (And.intro hin (And.intro hld b5)) ?_
  refine AWP.condA ?_ ?_ <;> intro hz2
  · cases hz2
  refine AWP.goFC (And.intro hw0 hw1) (And.intro ca cb) ?_
  try simp only [List.take_succ_cons, List.take_zero, List.drop_succ_cons, List.drop_zero, keysL, keysA, List.append_nil, List.nil_append, splice_zero_cons, splice_zero_nil, splice_succ, AV.closedAll, AV.closed, Bool.and_true, Bool.and_self]
  refine AWP.goFC (And.intro b2a b2b) (And.intro ca cb) ?_
  refine AWP.condA ?_ ?_ <;> intro hz2
  · cases hz2
  refine AWP.goF (And.intro hw0 (And.intro hia (And.intro hib (And.intro b0r (And.intro b6 (And.intro b7 b8)))))) ?_
  refine AWP.ret ?_
  exact ⟨trivial, [], by simp, .bool true, rfl, rfl, rfl, rfl⟩
end Go.Qd
