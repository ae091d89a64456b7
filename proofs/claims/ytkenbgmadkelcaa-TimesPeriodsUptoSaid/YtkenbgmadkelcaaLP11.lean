/- A part of the library of this claim: rules of an abstract machine (values in place of addresses), proved against the model, and contracts of the functions. -/
import Derived.Test.YtkenbgmadkelcaaLP10
set_option linter.unusedVariables false
set_option linter.unusedSimpArgs false
set_option maxHeartbeats 8000000
set_option maxRecDepth 10000
namespace Go.Qd
open Go Go.Proofs
theorem behindP_neg {now l : Int} (h : ¬ l > 0) : behindP now l = -1 := by unfold behindP; rw [if_neg h]
theorem behindP_pos {now l : Int} (h : l > 0) : behindP now l = IntKind.i64.wrap (now + l) := by unfold behindP; rw [if_pos h]
/-- law11.TimesPeriods -/
theorem law11 (c : Conf) (p : Part) (i now : Int) (hf : Fits10 p) : Con Try.prog 11 [Cf c, Pa p, iv i, iv now] (.bool true) [] := by
  refine ⟨⟨_, _, Try.func11, rfl, by decide⟩, ICall.of_body' T10_ok ⟨Try.func11, rfl, by decide⟩ (by simp [Try.f11]) ?_⟩
  have c17 := few17 p hf
  by_cases hfew : fewP p
  rotate_left
  · rw [decide_eq_false hfew] at c17
    refine AWP.goC (And.intro awake34 c17) ?_
    refine AWP.condA ?_ ?_ <;> intro hz
    · refine AWP.goA ?_
      refine AWP.ret ?_
      exact ⟨trivial, [], by simp, .bool true, rfl, rfl, rfl, rfl⟩
    · cases hz
  rw [decide_eq_true hfew] at c17
  have hs := hfew.small
  by_cases q0 : (c.procs.length : Int) > 20
  · have q0b : decide ((c.procs.length : Int) > 20) = true := decide_eq_true q0
    refine AWP.goFC (q0b) (And.intro awake34 c17) ?_
    refine AWP.condA ?_ ?_ <;> intro hz
    · refine AWP.goA ?_
      refine AWP.ret ?_
      exact ⟨trivial, [], by simp, .bool true, rfl, rfl, rfl, rfl⟩
    · cases hz
  have q0b : decide ((c.procs.length : Int) > 20) = false := decide_eq_false q0
  by_cases q1 : now < 0
  · have q1b : decide (now < 0) = true := decide_eq_true q1
    refine AWP.goFC (And.intro q0b (q1b)) (And.intro awake34 c17) ?_
    refine AWP.condA ?_ ?_ <;> intro hz
    · refine AWP.goA ?_
      refine AWP.ret ?_
      exact ⟨trivial, [], by simp, .bool true, rfl, rfl, rfl, rfl⟩
    · cases hz
  have q1b : decide (now < 0) = false := decide_eq_false q1
  refine AWP.goFC (And.intro q0b (q1b)) (And.intro awake34 c17) ?_
  refine AWP.condA ?_ ?_ <;> intro hz
  · refine AWP.goA ?_
    refine AWP.ret ?_
    exact ⟨trivial, [], by simp, .bool true, rfl, rfl, rfl, rfl⟩
  have q2 : ¬ (now > 1099511627776) := by simpa using hz
  have cr := period37 c p i hs
  have hrc := period_cases (c := c) (p := p) (i := i)
  obtain ⟨r, hr⟩ : ∃ r, periodP c p i = r := ⟨_, rfl⟩
  rw [hr] at cr hrc
  rcases hrc with ⟨hcode, hrp⟩ | ⟨n, hn, hc, rfl, hrq⟩
  · have c1 := same19 p p hs
    rw [decide_eq_true rfl] at c1
    rw [hrp] at cr
    have b2 : (r.2 != 6) = true := by rcases hcode with h | h <;> rw [h] <;> rfl
    rcases hcode with h | h
    · have b1 : (r.2 == 3) = true := by rw [h]; rfl
      refine AWP.goC cr ?_
      try simp only [List.take_succ_cons, List.take_zero, List.drop_succ_cons, List.drop_zero, keysL, keysA, List.append_nil, List.nil_append, splice_zero_cons, splice_zero_nil, splice_succ, AV.closedAll, AV.closed, Bool.and_true, Bool.and_self]
      refine AWP.goFC b2 cr ?_
      refine AWP.condA ?_ ?_ <;> intro hz2
      rotate_left
      · first | cases hz2 | (rw [b2] at hz2; cases hz2)
      refine AWP.goFC b1 c1 ?_
      refine AWP.ret ?_
      exact ⟨trivial, [], by simp, .bool true, rfl, rfl, rfl, rfl⟩
    · have b1 : (r.2 == 3) = false := by rw [h]; rfl
      have b3 : (r.2 == 4) = true := by rw [h]; rfl
      refine AWP.goC cr ?_
      try simp only [List.take_succ_cons, List.take_zero, List.drop_succ_cons, List.drop_zero, keysL, keysA, List.append_nil, List.nil_append, splice_zero_cons, splice_zero_nil, splice_succ, AV.closedAll, AV.closed, Bool.and_true, Bool.and_self]
      refine AWP.goFC b2 cr ?_
      refine AWP.condA ?_ ?_ <;> intro hz2
      rotate_left
      · first | cases hz2 | (rw [b2] at hz2; cases hz2)
      refine AWP.goFC (And.intro b1 b3) c1 ?_
      refine AWP.ret ?_
      exact ⟨trivial, [], by simp, .bool true, rfl, rfl, rfl, rfl⟩
  subst hrq
  obtain ⟨x, hx⟩ : ∃ x, p.procs[n] = x := ⟨_, rfl⟩
  obtain ⟨f, hfc⟩ : ∃ f, c.procs[n] = f := ⟨_, rfl⟩
  rw [hx] at cr
  obtain ⟨y, hy0⟩ : ∃ y : Proc, perX x = y := ⟨_, rfl⟩
  have hys : y.state = 2 := by rw [← hy0]; rfl
  have hyt : y.till = x.next := by rw [← hy0]; rfl
  have hyd : y.due = -1 := by rw [← hy0]; rfl
  have hyk : y.kind = 2 := by rw [← hy0]; rfl
  rw [hy0] at cr
  have hsq : Small 1000000 (setP p n y) := small_setP hs _ _
  have hql : (setP p n y).procs.length = p.procs.length := by simp [setP]
  have hqn : n < (setP p n y).procs.length := by omega
  have hqx : (setP p n y).procs[n] = y := by simp [setP]
  obtain ⟨q, hq⟩ : ∃ q, setP p n y = q := ⟨_, rfl⟩
  simp only [hq] at cr hsq hql hqn hqx
  have hpl := hs.procs
  have hip := idx29 (l := p.procs) hn
  rw [hx] at hip
  have hiq := idx29 (l := q.procs) hqn
  rw [hqx] at hiq
  have hic := idxF (l := c.procs) hc
  rw [hfc] at hic
  simp only [encProc] at hip hiq
  simp only [encPConf] at hic
  have b0 : ((6 : Int) != 6) = false := rfl
  have b1 : decide ((n : Int) < 0) = false := by simp
  have b2 : decide ((n : Int) ≥ (q.procs.length : Int)) = false := decide_eq_false (by omega)
  have b2c : decide ((n : Int) ≥ (c.procs.length : Int)) = false := decide_eq_false (by omega)
  have b3 : ((q.procs.length : Int) != (p.procs.length : Int)) = false := by simp; omega
  have b4 : (y.state != 2) = false := by simpa using hys
  have b5 : (y.due != -1) = false := by simpa using hyd
  have b6 : (y.till != x.next) = false := by simpa using hyt
  refine AWP.goC cr ?_
  try simp only [List.take_succ_cons, List.take_zero, List.drop_succ_cons, List.drop_zero, keysL, keysA, List.append_nil, List.nil_append, splice_zero_cons, splice_zero_nil, splice_succ, AV.closedAll, AV.closed, Bool.and_true, Bool.and_self]
  refine AWP.goFC b0 cr ?_
  refine AWP.condA ?_ ?_ <;> intro hz2
  · cases hz2
  refine AWP.goF (And.intro b1 (And.intro b2 (And.intro b2c b3))) ?_
  refine AWP.condA ?_ ?_ <;> intro hz2
  · cases hz2
  refine AWP.thin (s1 := ⟨0, Try.f11.ntmps, [(2, iv n), (3, iv now), (4, .ptr 32 0 0), (5, .ptr 40 0 0), (11, .ptr 88 0 0)], [(32, ⟨28, 11, true, [encConf c]⟩), (40, paRow p), (88, paRow q)], []⟩) (Thin.to [] rfl rfl rfl rfl rfl (by simp [envIn, eget, eput]) (by simp [killsH])) ?_
  refine AWP.goF (And.intro hip (And.intro hiq (And.intro b4 (And.intro b5 b6)))) ?_
  refine AWP.condA ?_ ?_ <;> intro hz2
  · cases hz2
  refine AWP.thin (s1 := ⟨0, Try.f11.ntmps, [(2, iv n), (3, iv now), (4, .ptr 32 0 0), (5, .ptr 40 0 0), (11, .ptr 88 0 0), (14, iv x.next)], [(32, ⟨28, 11, true, [encConf c]⟩), (40, paRow p), (88, paRow q)], []⟩) (Thin.to [] rfl rfl rfl rfl rfl (by simp [envIn, eget, eput]) (by simp [killsH])) ?_
  by_cases g0 : x.next < 0
  · have g0b : decide (x.next < 0) = true := decide_eq_true g0
    refine AWP.goF (And.intro hic (g0b)) ?_
    refine AWP.condA ?_ ?_ <;> intro hz2
    rotate_left
    · cases hz2
    refine AWP.goA ?_
    refine AWP.ret ?_
    exact ⟨trivial, [], by simp, .bool true, rfl, rfl, rfl, rfl⟩
  have g0b : decide (x.next < 0) = false := decide_eq_false g0
  by_cases g1 : x.next > now
  · have g1b : decide (x.next > now) = true := decide_eq_true g1
    refine AWP.goF (And.intro hic (And.intro g0b (g1b))) ?_
    refine AWP.condA ?_ ?_ <;> intro hz2
    rotate_left
    · cases hz2
    refine AWP.goA ?_
    refine AWP.ret ?_
    exact ⟨trivial, [], by simp, .bool true, rfl, rfl, rfl, rfl⟩
  have g1b : decide (x.next > now) = false := decide_eq_false g1
  by_cases g2 : f.period < 0
  · have g2b : decide (f.period < 0) = true := decide_eq_true g2
    refine AWP.goF (And.intro hic (And.intro g0b (And.intro g1b (g2b)))) ?_
    refine AWP.condA ?_ ?_ <;> intro hz2
    rotate_left
    · cases hz2
    refine AWP.goA ?_
    refine AWP.ret ?_
    exact ⟨trivial, [], by simp, .bool true, rfl, rfl, rfl, rfl⟩
  have g2b : decide (f.period < 0) = false := decide_eq_false g2
  by_cases g3 : f.limit < 0
  · have g3b : decide (f.limit < 0) = true := decide_eq_true g3
    refine AWP.goF (And.intro hic (And.intro g0b (And.intro g1b (And.intro g2b (g3b))))) ?_
    refine AWP.condA ?_ ?_ <;> intro hz2
    rotate_left
    · cases hz2
    refine AWP.goA ?_
    refine AWP.ret ?_
    exact ⟨trivial, [], by simp, .bool true, rfl, rfl, rfl, rfl⟩
  have g3b : decide (f.limit < 0) = false := decide_eq_false g3
  by_cases g4 : f.period > 1099511627776
  · have g4b : decide (f.period > 1099511627776) = true := decide_eq_true g4
    refine AWP.goF (And.intro hic (And.intro g0b (And.intro g1b (And.intro g2b (And.intro g3b (g4b)))))) ?_
    refine AWP.condA ?_ ?_ <;> intro hz2
    rotate_left
    · cases hz2
    refine AWP.goA ?_
    refine AWP.ret ?_
    exact ⟨trivial, [], by simp, .bool true, rfl, rfl, rfl, rfl⟩
  have g4b : decide (f.period > 1099511627776) = false := decide_eq_false g4
  by_cases g5 : f.limit > 1099511627776
  · have g5b : decide (f.limit > 1099511627776) = true := decide_eq_true g5
    refine AWP.goF (And.intro hic (And.intro g0b (And.intro g1b (And.intro g2b (And.intro g3b (And.intro g4b (g5b))))))) ?_
    refine AWP.condA ?_ ?_ <;> intro hz2
    rotate_left
    · cases hz2
    refine AWP.goA ?_
    refine AWP.ret ?_
    exact ⟨trivial, [], by simp, .bool true, rfl, rfl, rfl, rfl⟩
  have g5b : decide (f.limit > 1099511627776) = false := decide_eq_false g5
  refine AWP.goF (And.intro hic (And.intro g0b (And.intro g1b (And.intro g2b (And.intro g3b (And.intro g4b (g5b))))))) ?_
  refine AWP.condA ?_ ?_ <;> intro hz2
  · cases hz2
  have cw := wake36 c q now hsq
  have hwl := wakeP_len hsq c now
  obtain ⟨z, hw0, hz1, hz3⟩ := (wake_get (c := c) (now := now) hqn).2 (by rw [hqx]; exact wokeB_yes hys (by omega) (by omega))
  rw [hqx] at hz3
  obtain ⟨k1, k2, k3⟩ := hz3 hyk f (by rw [List.getElem?_eq_getElem hc, hfc])
  rw [hyt] at k1
  obtain ⟨w, hw⟩ : ∃ w, wakeP c now q = w := ⟨_, rfl⟩
  rw [hw] at cw hwl hw0
  have hwn : n < w.procs.length := by omega
  rw [List.getElem?_eq_getElem hwn] at hw0
  injection hw0 with hw0
  have hiw := idx29 (l := w.procs) hwn
  rw [hw0] at hiw
  simp only [encProc] at hiw
  have b7 : ((w.procs.length : Int) != (q.procs.length : Int)) = false := by simp; omega
  have b8 : (z.state == 1) = true := by simpa using hz1
  have b9 : (z.next == IntKind.i64.wrap (x.next + f.period)) = true := by simpa using k1
  have b10 : (z.code == 0) = true := by simpa using k3
  refine AWP.goC cw ?_
  try simp only [List.take_succ_cons, List.take_zero, List.drop_succ_cons, List.drop_zero, keysL, keysA, List.append_nil, List.nil_append, splice_zero_cons, splice_zero_nil, splice_succ, AV.closedAll, AV.closed, Bool.and_true, Bool.and_self]
  refine AWP.goFC b7 cw ?_
  refine AWP.condA ?_ ?_ <;> intro hz2
  · first | cases hz2 | (rw [b7] at hz2; cases hz2)
  by_cases hlim : f.limit > 0
  · have b11 : decide (f.limit > 0) = true := decide_eq_true hlim
    have b12 : (z.due == IntKind.i64.wrap (now + f.limit)) = true := by rw [k2, behindP_pos hlim]; simp
    refine AWP.goF (And.intro hic b11) ?_
    refine AWP.condA ?_ ?_ <;> intro hz2
    rotate_left
    · cases hz2
    refine AWP.goF hic ?_
    refine AWP.thin (s1 := ⟨0, Try.f11.ntmps, [(2, iv n), (4, .ptr 32 0 0), (14, iv x.next), (15, .ptr 120 0 0), (16, iv (IntKind.i64.wrap (now + f.limit)))], [(32, ⟨28, 11, true, [encConf c]⟩), (120, paRow w)], []⟩) (Thin.to [40, 88] rfl rfl rfl rfl rfl (by simp [envIn, eget, eput]) (by simp [killsH, killH, killO])) ?_
    refine AWP.goF (And.intro hic (And.intro hiw (And.intro b8 (And.intro b9 (And.intro b10 b12))))) ?_
    refine AWP.ret ?_
    exact ⟨trivial, [], by simp, .bool true, rfl, rfl, rfl, rfl⟩
  · have b11 : decide (f.limit > 0) = false := decide_eq_false hlim
    have b12 : (z.due == -1) = true := by rw [k2, behindP_neg hlim]; rfl
    refine AWP.goF (And.intro hic b11) ?_
    refine AWP.condA ?_ ?_ <;> intro hz2
    · cases hz2
    refine AWP.thin (s1 := ⟨0, Try.f11.ntmps, [(2, iv n), (4, .ptr 32 0 0), (14, iv x.next), (15, .ptr 120 0 0), (16, iv (-1))], [(32, ⟨28, 11, true, [encConf c]⟩), (120, paRow w)], []⟩) (Thin.to [40, 88] rfl rfl rfl rfl rfl (by simp [envIn, eget, eput]) (by simp [killsH, killH, killO])) ?_
    refine AWP.goF (And.intro hic (And.intro hiw (And.intro b8 (And.intro b9 (And.intro b10 b12))))) ?_
    refine AWP.ret ?_
    exact ⟨trivial, [], by simp, .bool true, rfl, rfl, rfl, rfl⟩
end Go.Qd
