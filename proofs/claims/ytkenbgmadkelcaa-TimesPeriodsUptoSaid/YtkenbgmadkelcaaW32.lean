/- A part of the library of this claim: rules of an abstract machine (values in place of addresses), proved against the model, and contracts of the functions. -/
import Derived.Test.YtkenbgmadkelcaaW31
set_option linter.unusedVariables false
set_option linter.unusedSimpArgs false
set_option maxHeartbeats 8000000
set_option maxRecDepth 10000
namespace Go.Qd
open Go Go.Proofs
/-- ref11.with -/
theorem with79 (p : Part) (n : Nat) (x : Proc) (hs : p.procs.length ≤ 1000000) (hn : n < p.procs.length) : Con Try.prog 79 [Pa p, iv n, .agg (encProc x)] (Pa (setP p n x)) [] := by
  simp only [encProc]
  refine ⟨⟨_, _, Try.func79, rfl, by decide⟩, ICall.of_body' T10_ok ⟨Try.func79, rfl, by decide⟩ (by simp [Try.f79]) ?_⟩
  refine AWP.goA ?_
  refine AWP.region ?_
  refine AOps.goA ?_
  refine AOps.appA (app29 hs _ _ (by rfl)) ?_
  refine AOps.goA ?_
  refine AOps.endA ?_
  simp only [Then, List.take_succ_cons, List.take_zero, List.drop_succ_cons, List.drop_zero, keysL, keysA, List.append_nil, List.nil_append, splice_zero_cons, splice_zero_nil, splice_succ, AV.closedAll, AV.closed, Bool.and_true, Bool.and_self]
  obtain ⟨x0, hx⟩ : ∃ x, p.procs[n] = x := ⟨_, rfl⟩
  have hx0 : p.procs[n]? = some x0 := by rw [List.getElem?_eq_getElem hn, hx]
  have hix := idxP (l := p.procs) hn
  have st := stP (q := 0) (t := 49) (v := .agg (List.take 18 (encProc x))) x hx0 rfl rfl rfl (Nat.le_refl _) rfl rfl
  simp only [encProc] at st
  refine AWP.goF (And.intro hix st) ?_
  refine AWP.ret ?_
  exact ⟨trivial, [], by simp, PaM 80 p.procs.length (setP p n x), rfl, by simp [convA, convL, idxIn, hget, lsA, lsL, setP, List.take_of_length_le], rfl, rfl⟩

theorem wokeGo_oth (k : Nat) (x : Proc) (p : Part) (j : Nat) (hj : j ≠ k) : (wokeGo k x p).procs[j]? = p.procs[j]? := by
  unfold wokeGo goP
  split
  · cases outB x <;> rfl
  · split
    · cases outB x <;> simp [leaveP, gPart, queueP, List.getElem?_set_ne (Ne.symm hj)]
    · cases outB x <;> rfl
theorem wakeOne_oth (c : Conf) (now : Int) (k : Nat) (x : Proc) (p : Part) (j : Nat) (hj : j ≠ k) : (wakeOne c now k x p).procs[j]? = p.procs[j]? := by
  unfold wakeOne
  split
  · split
    · exact wokeGo_oth _ _ _ _ hj
    · split
      · exact wokeGo_oth _ _ _ _ hj
      · simp [setP, List.getElem?_set_ne (Ne.symm hj), wokeGo_oth _ _ _ _ hj]
  · exact wokeGo_oth _ _ _ _ hj
theorem wakeFold_oth (c : Conf) (now : Int) (p : Part) (j : Nat) (l : List (Fin p.procs.length)) : ∀ q : Part, (∀ k ∈ l, (k : Nat) ≠ j) → (l.foldl (fun q (k : Fin p.procs.length) => wakeOne c now k p.procs[k] q) q).procs[j]? = q.procs[j]? := by
  induction l with
  | nil => intro q _; rfl
  | cons k r ih => intro q h; exact (ih _ fun k' hk' => h k' (by simp [hk'])).trans (wakeOne_oth c now k _ q j (fun e => h k (by simp) e.symm))
/-- The first j, of those who have waited long enough. -/
def wokeL (now : Int) (p : Part) (j : Nat) : List (Fin p.procs.length) := ((List.finRange p.procs.length).take j).filter fun k => wokeB now p.procs[k]
theorem take_mem_lt {n j : Nat} {k : Fin n} (h : k ∈ (List.finRange n).take j) : (k : Nat) < j := by
  obtain ⟨i, hi, rfl⟩ := List.mem_iff_getElem.1 h
  simp at hi ⊢
  omega
theorem wokeL_succ (now : Int) (p : Part) (j : Nat) (hj : j < p.procs.length) : wokeL now p (j + 1) = wokeL now p j ++ (if wokeB now p.procs[j] then [⟨j, hj⟩] else []) := by
  unfold wokeL
  have hxi : (List.finRange p.procs.length)[j]? = some ⟨j, hj⟩ := by simp [hj]
  rw [List.take_add_one, hxi, List.filter_append]
  congr 1
  cases h : wokeB now p.procs[j] <;> simp [List.filter, h]
theorem wake_at {c : Conf} {now : Int} {p : Part} {j : Nat} (hj : j < p.procs.length) : (wakeSt c now p (wokeL now p j)).procs[j]? = some p.procs[j] := by
  unfold wakeSt
  rw [wakeFold_oth c now p j _ p, List.getElem?_eq_getElem hj]
  intro k hk
  unfold wokeL at hk
  have := take_mem_lt (List.mem_filter.1 hk).1
  omega
theorem wake_all (c : Conf) (now : Int) (p : Part) : wakeSt c now p (wokeL now p p.procs.length) = wakeP c now p := by
  unfold wakeP wokeL
  rw [List.take_of_length_le (by simp)]
/-- ref11.Wake -/
theorem rwake38 (c : Conf) (p : Part) (now : Int) (hs : Small 1000000 p) : Con Try.prog 38 [Cf c, Pa p, iv now] (Pa (wakeP c now p)) [] := by
  refine ⟨⟨_, _, Try.func38, rfl, by decide⟩, ICall.of_body' T10_ok ⟨Try.func38, rfl, by decide⟩ (by simp [Try.f38]) ?_⟩
  refine AWP.goA ?_
  refine AWP.loopT (fun j : Nat => ⟨0, Try.f38.ntmps, [(2, iv now), (3, .ptr 24 0 0), (4, .ptr 32 0 0), (6, .ptr 48 0 0), (7, iv j)], [(24, cfRow c), (32, paRow (wakeSt c now p (wokeL now p j))), (48, zRow)], []⟩) (fun j => j ≤ p.procs.length) (fun j => p.procs.length - j) 0 (by simp)
    (Thin.to [] rfl rfl rfl rfl rfl (by simp [envIn, eget, eput]) (by simp [killsH, wakeSt, wokeL, encConf])) ?_
  rintro j hj
  have hlen := wakeSt_len hs c now (wokeL now p j)
  have hsm := wakeSt_small hs c now (wokeL now p j)
  by_cases hjl : j < p.procs.length
  rotate_left
  · have hje : j = p.procs.length := by omega
    have hb : decide ((j : Int) < ((wakeSt c now p (wokeL now p j)).procs.length : Int)) = false := decide_eq_false (by omega)
    refine AWP.goF hb ?_
    refine AWP.condA ?_ ?_ <;> intro hc
    · cases hc
    refine AWP.goA ?_
    refine AWP.ret ?_
    refine ⟨trivial, [], by simp, Pa (wakeP c now p), ?_, rfl, rfl, rfl⟩
    rw [hje, wake_all]; rfl
  have hx0 := wake_at (c := c) (now := now) hjl
  have hsn := wokeL_succ now p j hjl
  have hsc := fun h => wakeSt_snoc c now p (wokeL now p j) ⟨j, h⟩
  have hsc := hsc hjl
  obtain ⟨x, hx⟩ : ∃ x, p.procs[j] = x := ⟨_, rfl⟩
  have hx' : p.procs[(⟨j, hjl⟩ : Fin p.procs.length)] = x := hx
  rw [hx'] at hsc
  rw [hx] at hx0 hsn
  obtain ⟨q, hq⟩ : ∃ q, wakeSt c now p (wokeL now p j) = q := ⟨_, rfl⟩
  rw [hq] at hx0 hlen hsm hsc
  simp only [hq]
  have hjq : j < q.procs.length := by rw [hlen]; exact hjl
  have hxq : q.procs[j] = x := by
    rw [List.getElem?_eq_getElem hjq] at hx0; injection hx0
  have hb : decide ((j : Int) < (q.procs.length : Int)) = true := decide_eq_true (by omega)
  have hw := wrap_succ (show j < 9223372036854775807 by have := hs.procs; omega)
  have hix := idx29 (l := q.procs) hjq
  rw [hxq] at hix
  simp only [encProc] at hix
  refine AWP.goF hb ?_
  refine AWP.condA ?_ ?_ <;> intro hc
  rotate_left
  · cases hc
  try simp only [encConf]
  by_cases k0 : x.state = 2
  rotate_left
  · have q0 : (x.state != 2) = true := by simpa using k0
    have hno : wokeB now x = false := by simp [wokeB]; omega
    have e : wakeSt c now p (wokeL now p (j + 1)) = q := by rw [hsn, hno, ← hq]; simp
    refine AWP.goF (And.intro hix (And.intro hw q0)) ?_
    try simp only [List.take_succ_cons, List.take_zero, List.drop_succ_cons, List.drop_zero, keysL, keysA, List.append_nil, List.nil_append, splice_zero_cons, splice_zero_nil, splice_succ, AV.closedAll, AV.closed, Bool.and_true, Bool.and_self]
    refine AWP.goF (And.intro hix (And.intro hw q0)) ?_
    refine AWP.condA ?_ ?_ <;> intro hz
    rotate_left
    · cases hz
    refine AWP.goF (And.intro hix hw) ?_
    exact ⟨j + 1, by omega, by omega, Thin.to [64] rfl rfl rfl rfl rfl (by simp [envIn, eget]) (by rw [e]; rfl)⟩
  have q0 : (x.state != 2) = false := by simpa using k0
  by_cases k1 : x.till < 0
  · have q1 : decide (x.till < 0) = true := decide_eq_true k1
    have hno : wokeB now x = false := by simp [wokeB]; omega
    have e : wakeSt c now p (wokeL now p (j + 1)) = q := by rw [hsn, hno, ← hq]; simp
    refine AWP.goF (And.intro hix (And.intro hw (And.intro q0 q1))) ?_
    try simp only [List.take_succ_cons, List.take_zero, List.drop_succ_cons, List.drop_zero, keysL, keysA, List.append_nil, List.nil_append, splice_zero_cons, splice_zero_nil, splice_succ, AV.closedAll, AV.closed, Bool.and_true, Bool.and_self]
    refine AWP.goF (And.intro hix (And.intro hw (And.intro q0 q1))) ?_
    refine AWP.condA ?_ ?_ <;> intro hz
    rotate_left
    · cases hz
    refine AWP.goF (And.intro hix hw) ?_
    exact ⟨j + 1, by omega, by omega, Thin.to [64] rfl rfl rfl rfl rfl (by simp [envIn, eget]) (by rw [e]; rfl)⟩
  have q1 : decide (x.till < 0) = false := decide_eq_false k1
  by_cases k2 : x.till > now
  · have q2 : decide (x.till > now) = true := decide_eq_true k2
    have hno : wokeB now x = false := by simp [wokeB]; omega
    have e : wakeSt c now p (wokeL now p (j + 1)) = q := by rw [hsn, hno, ← hq]; simp
    refine AWP.goF (And.intro hix (And.intro hw (And.intro q0 (And.intro q1 q2)))) ?_
    try simp only [List.take_succ_cons, List.take_zero, List.drop_succ_cons, List.drop_zero, keysL, keysA, List.append_nil, List.nil_append, splice_zero_cons, splice_zero_nil, splice_succ, AV.closedAll, AV.closed, Bool.and_true, Bool.and_self]
    refine AWP.goF (And.intro hix (And.intro hw (And.intro q0 (And.intro q1 q2)))) ?_
    refine AWP.condA ?_ ?_ <;> intro hz
    rotate_left
    · cases hz
    refine AWP.goF (And.intro hix hw) ?_
    exact ⟨j + 1, by omega, by omega, Thin.to [64] rfl rfl rfl rfl rfl (by simp [envIn, eget]) (by rw [e]; rfl)⟩
  have q2 : decide (x.till > now) = false := decide_eq_false k2
  have hyes : wokeB now x = true := by simp [wokeB]; omega
  have e : wakeSt c now p (wokeL now p (j + 1)) = wakeOne c now j x q := by rw [hsn, hyes, ← hsc]; simp
  obtain ⟨r, hr⟩ : ∃ r, wakeOne c now j x q = r := ⟨_, rfl⟩
  rw [hr] at e
  refine AWP.goF (And.intro hix (And.intro q0 (And.intro q1 q2))) ?_
  try simp only [List.take_succ_cons, List.take_zero, List.drop_succ_cons, List.drop_zero, keysL, keysA, List.append_nil, List.nil_append, splice_zero_cons, splice_zero_nil, splice_succ, AV.closedAll, AV.closed, Bool.and_true, Bool.and_self]
  refine AWP.goF (And.intro hix (And.intro q0 (And.intro q1 q2))) ?_
  refine AWP.condA ?_ ?_ <;> intro hz
  · cases hz
  by_cases hk2 : x.kind = 2
  · have b1 : (x.kind != 1) = true := by simp [hk2]
    have b2 : (x.kind != 2) = false := by simp [hk2]
    have b3 : (x.kind == 2) = true := by simp [hk2]
    have ho : outB x = false := by simp [outB, b2]
    have cg := rgo24 q j 0 0 hsm.procs
    rw [opQ_in _ q j hjq] at cg
    obtain ⟨g, hg⟩ : ∃ g, (goP q j 0 0).1 = g := ⟨_, rfl⟩
    have hgw : wokeGo j x q = g := by rw [← hg]; simp [wokeGo, ho]
    rw [hg] at cg
    by_cases hnc : j < c.procs.length
    rotate_left
    · have b4 : decide ((j : Int) < (c.procs.length : Int)) = false := decide_eq_false (by omega)
      have e2 : g = r := by rw [← hr, ← hgw]; simp [wakeOne, hk2, List.getElem?_eq_none (Nat.le_of_not_lt hnc)]
      rw [e2] at cg
      refine AWP.goFC (And.intro b1 (And.intro b2 (And.intro b3 b4))) cg ?_
      refine AWP.condA ?_ ?_ <;> intro hz
      · cases hz
      try simp only [List.take_succ_cons, List.take_zero, List.drop_succ_cons, List.drop_zero, keysL, keysA, List.append_nil, List.nil_append, splice_zero_cons, splice_zero_nil, splice_succ, AV.closedAll, AV.closed, Bool.and_true, Bool.and_self]
      refine AWP.goFC (And.intro b1 (And.intro b2 (And.intro b3 b4))) cg ?_
      refine AWP.condA ?_ ?_ <;> intro hz
      · cases hz
      try simp only [List.take_succ_cons, List.take_zero, List.drop_succ_cons, List.drop_zero, keysL, keysA, List.append_nil, List.nil_append, splice_zero_cons, splice_zero_nil, splice_succ, AV.closedAll, AV.closed, Bool.and_true, Bool.and_self]
      refine AWP.goF hw ?_
      exact ⟨j + 1, by omega, by omega, Thin.to [64, 72] rfl rfl rfl rfl rfl (by simp [envIn, eget]) (by rw [e]; rfl)⟩
    have b4 : decide ((j : Int) < (c.procs.length : Int)) = true := decide_eq_true (by omega)
    have hgl : g.procs.length = q.procs.length := by rw [← hgw]; exact wokeGo_len _ _ _
    have hgs : Small 1000000 g := by rw [← hgw]; exact wokeGo_small hsm _ _
    have hng : j < g.procs.length := by rw [hgl]; exact hjq
    obtain ⟨y, hy⟩ : ∃ y, g.procs[j] = y := ⟨_, rfl⟩
    have hy0 : g.procs[j]? = some y := by rw [List.getElem?_eq_getElem hng, hy]
    obtain ⟨fa, fb, fc, fd, fe, hff⟩ : ∃ a b c' d e, c.procs[j] = ⟨a, b, c', d, e⟩ := ⟨_, _, _, _, _, rfl⟩
    have hif := idxF (l := c.procs) hnc
    rw [hff] at hif
    simp only [encPConf] at hif
    have hiy := idx29 (l := g.procs) hng
    rw [hy] at hiy
    simp only [encProc] at hiy
    have e2 : r = setP g j { y with due := behindP now fc, next := IntKind.i64.wrap (x.till + fb) } := by
      rw [← hr]; simp [wakeOne, hk2, hgw, hy0, List.getElem?_eq_getElem hnc, hff]
    have cw := with79 g j { y with due := behindP now fc, next := IntKind.i64.wrap (x.till + fb) } hgs.procs hng
    rw [← e2] at cw
    simp only [encProc] at cw
    refine AWP.goFC (And.intro b1 (And.intro b2 (And.intro b3 b4))) cg ?_
    refine AWP.condA ?_ ?_ <;> intro hz
    · cases hz
    try simp only [List.take_succ_cons, List.take_zero, List.drop_succ_cons, List.drop_zero, keysL, keysA, List.append_nil, List.nil_append, splice_zero_cons, splice_zero_nil, splice_succ, AV.closedAll, AV.closed, Bool.and_true, Bool.and_self]
    refine AWP.goFC (And.intro b1 (And.intro b2 (And.intro b3 b4))) cg ?_
    refine AWP.condA ?_ ?_ <;> intro hz
    rotate_left
    · cases hz
    try simp only [List.take_succ_cons, List.take_zero, List.drop_succ_cons, List.drop_zero, keysL, keysA, List.append_nil, List.nil_append, splice_zero_cons, splice_zero_nil, splice_succ, AV.closedAll, AV.closed, Bool.and_true, Bool.and_self]
    refine AWP.goF (And.intro hiy hif) ?_
    try simp only [List.take_succ_cons, List.take_zero, List.drop_succ_cons, List.drop_zero, keysL, keysA, List.append_nil, List.nil_append, splice_zero_cons, splice_zero_nil, splice_succ, AV.closedAll, AV.closed, Bool.and_true, Bool.and_self]
    refine AWP.goF (And.intro hiy hif) ?_
    by_cases hfc : fc > 0
    · have b5 : decide (fc > 0) = true := decide_eq_true hfc
      have hbe : behindP now fc = IntKind.i64.wrap (now + fc) := if_pos hfc
      rw [hbe] at cw
      refine AWP.condA ?_ ?_ <;> intro hz
      rotate_left
      · exact absurd hfc (of_decide_eq_false hz)
      refine AWP.goF hif ?_
      try simp only [List.take_succ_cons, List.take_zero, List.drop_succ_cons, List.drop_zero, keysL, keysA, List.append_nil, List.nil_append, splice_zero_cons, splice_zero_nil, splice_succ, AV.closedAll, AV.closed, Bool.and_true, Bool.and_self]
      refine AWP.goFC (And.intro hif hw) cw ?_
      try simp only [List.take_succ_cons, List.take_zero, List.drop_succ_cons, List.drop_zero, keysL, keysA, List.append_nil, List.nil_append, splice_zero_cons, splice_zero_nil, splice_succ, AV.closedAll, AV.closed, Bool.and_true, Bool.and_self]
      exact ⟨j + 1, by omega, by omega, Thin.to [64, 72, 80] rfl rfl rfl rfl rfl (by simp [envIn, eget]) (by rw [e]; rfl)⟩
    · have b5 : decide (fc > 0) = false := decide_eq_false hfc
      have hbe : behindP now fc = -1 := if_neg hfc
      rw [hbe] at cw
      refine AWP.condA ?_ ?_ <;> intro hz
      · exact absurd (of_decide_eq_true hz) hfc
      refine AWP.goF hif ?_
      try simp only [List.take_succ_cons, List.take_zero, List.drop_succ_cons, List.drop_zero, keysL, keysA, List.append_nil, List.nil_append, splice_zero_cons, splice_zero_nil, splice_succ, AV.closedAll, AV.closed, Bool.and_true, Bool.and_self]
      refine AWP.goFC (And.intro hif hw) cw ?_
      try simp only [List.take_succ_cons, List.take_zero, List.drop_succ_cons, List.drop_zero, keysL, keysA, List.append_nil, List.nil_append, splice_zero_cons, splice_zero_nil, splice_succ, AV.closedAll, AV.closed, Bool.and_true, Bool.and_self]
      exact ⟨j + 1, by omega, by omega, Thin.to [64, 72, 80] rfl rfl rfl rfl rfl (by simp [envIn, eget]) (by rw [e]; rfl)⟩
  have b2 : (x.kind != 2) = true := by simpa using hk2
  have b3 : (x.kind == 2) = false := by simpa using hk2
  by_cases hk1 : x.kind = 1
  · have b1 : (x.kind != 1) = false := by simpa using hk1
    have ho : outB x = false := by simp [outB, b1]
    have cg := rgo24 q j 0 0 hsm.procs
    rw [opQ_in _ q j hjq] at cg
    have e2 : (goP q j 0 0).1 = r := by rw [← hr]; simp [wakeOne, hk2, wokeGo, ho]
    rw [e2] at cg
    refine AWP.goFC (And.intro b1 b3) cg ?_
    refine AWP.condA ?_ ?_ <;> intro hz
    · cases hz
    try simp only [List.take_succ_cons, List.take_zero, List.drop_succ_cons, List.drop_zero, keysL, keysA, List.append_nil, List.nil_append, splice_zero_cons, splice_zero_nil, splice_succ, AV.closedAll, AV.closed, Bool.and_true, Bool.and_self]
    refine AWP.goFC (And.intro b1 b3) cg ?_
    refine AWP.condA ?_ ?_ <;> intro hz
    · cases hz
    try simp only [List.take_succ_cons, List.take_zero, List.drop_succ_cons, List.drop_zero, keysL, keysA, List.append_nil, List.nil_append, splice_zero_cons, splice_zero_nil, splice_succ, AV.closedAll, AV.closed, Bool.and_true, Bool.and_self]
    refine AWP.goF hw ?_
    exact ⟨j + 1, by omega, by omega, Thin.to [64, 72] rfl rfl rfl rfl rfl (by simp [envIn, eget]) (by rw [e]; rfl)⟩
  have b1 : (x.kind != 1) = true := by simpa using hk1
  have ho : outB x = true := by simp [outB, b1, b2]
  have cl := leave26 q j hsm
  have hjq2 : j < (leaveP j q).procs.length := hjq
  have cg := rgo24 (leaveP j q) j 5 0 (small_leaveP hsm _).procs
  rw [opQ_in _ _ j hjq2] at cg
  have e2 : (goP (leaveP j q) j 5 0).1 = r := by rw [← hr]; simp [wakeOne, hk2, wokeGo, ho]
  rw [e2] at cg
  refine AWP.goFC (And.intro b1 (And.intro b2 b3)) (And.intro cl cg) ?_
  refine AWP.condA ?_ ?_ <;> intro hz
  rotate_left
  · cases hz
  try simp only [List.take_succ_cons, List.take_zero, List.drop_succ_cons, List.drop_zero, keysL, keysA, List.append_nil, List.nil_append, splice_zero_cons, splice_zero_nil, splice_succ, AV.closedAll, AV.closed, Bool.and_true, Bool.and_self]
  refine AWP.goFC (And.intro b1 (And.intro b2 b3)) (And.intro cl cg) ?_
  try simp only [List.take_succ_cons, List.take_zero, List.drop_succ_cons, List.drop_zero, keysL, keysA, List.append_nil, List.nil_append, splice_zero_cons, splice_zero_nil, splice_succ, AV.closedAll, AV.closed, Bool.and_true, Bool.and_self]
  refine AWP.goFC (And.intro b1 (And.intro b2 b3)) (And.intro cl cg) ?_
  refine AWP.condA ?_ ?_ <;> intro hz
  · cases hz
  try simp only [List.take_succ_cons, List.take_zero, List.drop_succ_cons, List.drop_zero, keysL, keysA, List.append_nil, List.nil_append, splice_zero_cons, splice_zero_nil, splice_succ, AV.closedAll, AV.closed, Bool.and_true, Bool.and_self]
  refine AWP.goF hw ?_
  exact ⟨j + 1, by omega, by omega, Thin.to [64, 72] rfl rfl rfl rfl rfl (by simp [envIn, eget]) (by rw [e]; rfl)⟩
end Go.Qd
