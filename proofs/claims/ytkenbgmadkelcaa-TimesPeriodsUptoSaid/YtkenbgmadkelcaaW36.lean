/- A part of the library of this claim: rules of an abstract machine (values in place of addresses), proved against the model, and contracts of the functions. -/
import Derived.Test.YtkenbgmadkelcaaW35
set_option linter.unusedVariables false
set_option linter.unusedSimpArgs false
set_option maxHeartbeats 8000000
set_option maxRecDepth 10000
namespace Go.Qd
open Go Go.Proofs
/-! ### Period, Replenish -/
def perX (x : Proc) : Proc := { x with state := 2, kind := 2, obj := 0, till := x.next, call := 6, due := -1 }
def periodP (c : Conf) (p : Part) (i : Int) : Part × Int :=
  bif !(thereB p i) || decide (i ≥ (c.procs.length : Int)) then (p, 3) else match c.procs[i.toNat]?, p.procs[i.toNat]? with
    | some f, some x => if f.period = 0 ∨ x.state ≠ 1 then (p, 4) else (setP p i.toNat (perX x), 6)
    | _, _ => (p, 3)
def replP (c : Conf) (p : Part) (i ticks now : Int) : Part × Int :=
  bif !(thereB p i) || (decide (i ≥ (c.procs.length : Int)) || (decide (ticks < 1) || decide (ticks > 4096))) then (p, 3) else match c.procs[i.toNat]?, p.procs[i.toNat]? with
    | some f, some x => if f.limit = 0 ∨ x.state = 0 then (p, 1) else (setP p i.toNat { x with due := IntKind.i64.wrap (now + ticks) }, 0)
    | _, _ => (p, 3)
/-- times.Period -/
theorem period37 (c : Conf) (p : Part) (i : Int) (hs : Small 1000000 p) : Con Try.prog 37 [Cf c, Pa p, iv i] (.tup [Pa (periodP c p i).1, iv (periodP c p i).2]) [] := by
  refine ⟨⟨_, _, Try.func37, rfl, by decide⟩, ICall.of_body' T10_ok ⟨Try.func37, rfl, by decide⟩ (by simp [Try.f37]) ?_⟩
  have co := own29 p hs
  have ct := there75 p i
  cases q0 : thereB p i
  · rw [q0] at ct
    have e : periodP c p i = (p, 3) := by simp only [periodP, q0, Bool.true_and, Bool.false_and, Bool.or_true, Bool.true_or, Bool.or_false, Bool.false_or, Bool.not_true, Bool.not_false, Bool.and_true, Bool.and_false, Bool.and_self, cond_true, cond_false]
    rw [e]
    refine AWP.goC (And.intro ct co) ?_
    refine AWP.condA ?_ ?_ <;> intro hz
    rotate_left
    · cases hz
    refine AWP.goC co ?_
    try simp only [List.take_succ_cons, List.take_zero, List.drop_succ_cons, List.drop_zero, keysL, keysA, List.append_nil, List.nil_append, splice_zero_cons, splice_zero_nil, splice_succ, AV.closedAll, AV.closed, Bool.and_true, Bool.and_self]
    refine AWP.ret ?_
    exact ⟨trivial, [], by simp, .tup [Pa p, iv 3], rfl, rfl, rfl, rfl⟩
  rw [q0] at ct
  cases qc : decide (i ≥ (c.procs.length : Int))
  rotate_left
  · have e : periodP c p i = (p, 3) := by simp only [periodP, q0, qc, Bool.true_and, Bool.false_and, Bool.or_true, Bool.true_or, Bool.or_false, Bool.false_or, Bool.not_true, Bool.not_false, Bool.and_true, Bool.and_false, Bool.and_self, cond_true, cond_false]
    rw [e]
    refine AWP.goFC qc (And.intro ct co) ?_
    refine AWP.condA ?_ ?_ <;> intro hz
    rotate_left
    · cases hz
    refine AWP.goC co ?_
    try simp only [List.take_succ_cons, List.take_zero, List.drop_succ_cons, List.drop_zero, keysL, keysA, List.append_nil, List.nil_append, splice_zero_cons, splice_zero_nil, splice_succ, AV.closedAll, AV.closed, Bool.and_true, Bool.and_self]
    refine AWP.ret ?_
    exact ⟨trivial, [], by simp, .tup [Pa p, iv 3], rfl, rfl, rfl, rfl⟩
  obtain ⟨n, rfl, hn⟩ := there_true q0
  obtain ⟨x, hx⟩ : ∃ x, p.procs[n] = x := ⟨_, rfl⟩
  have hx0 : p.procs[n]? = some x := by rw [List.getElem?_eq_getElem hn, hx]
  have hx1 : p.procs[(n : Int).toNat]? = some x := hx0
  have hix := idx29 (l := p.procs) hn
  rw [hx] at hix
  simp only [encProc] at hix
  have hnc : n < c.procs.length := by have := of_decide_eq_false qc; omega
  obtain ⟨fa, fb, fc, fd, fe, hff⟩ : ∃ a b c' d e, c.procs[n] = ⟨a, b, c', d, e⟩ := ⟨_, _, _, _, _, rfl⟩
  have hf1 : c.procs[(n : Int).toNat]? = some ⟨fa, fb, fc, fd, fe⟩ := by show c.procs[n]? = _; rw [List.getElem?_eq_getElem hnc, hff]
  have hif := idxF (l := c.procs) hnc
  rw [hff] at hif
  simp only [encPConf] at hif
  refine AWP.goFC qc (And.intro ct co) ?_
  refine AWP.condA ?_ ?_ <;> intro hz
  · cases hz
  by_cases hp : fb = 0
  · have q3 : (fb == 0) = true := by simpa using hp
    have e : periodP c p n = (p, 4) := by simp only [periodP, q0, qc, hx1, hf1, Bool.true_and, Bool.false_and, Bool.or_true, Bool.true_or, Bool.or_false, Bool.false_or, Bool.not_true, Bool.not_false, Bool.and_true, Bool.and_false, Bool.and_self, cond_true, cond_false]; rw [if_pos (.inl hp)]
    rw [e]
    refine AWP.goFC (And.intro hif q3) co ?_
    refine AWP.condA ?_ ?_ <;> intro hz
    rotate_left
    · cases hz
    refine AWP.goC co ?_
    try simp only [List.take_succ_cons, List.take_zero, List.drop_succ_cons, List.drop_zero, keysL, keysA, List.append_nil, List.nil_append, splice_zero_cons, splice_zero_nil, splice_succ, AV.closedAll, AV.closed, Bool.and_true, Bool.and_self]
    refine AWP.ret ?_
    exact ⟨trivial, [], by simp, .tup [Pa p, iv 4], rfl, rfl, rfl, rfl⟩
  have q3 : (fb == 0) = false := by simpa using hp
  by_cases hst : x.state = 1
  rotate_left
  · have q4 : (x.state != 1) = true := by simpa using hst
    have e : periodP c p n = (p, 4) := by simp only [periodP, q0, qc, hx1, hf1, Bool.true_and, Bool.false_and, Bool.or_true, Bool.true_or, Bool.or_false, Bool.false_or, Bool.not_true, Bool.not_false, Bool.and_true, Bool.and_false, Bool.and_self, cond_true, cond_false]; rw [if_pos (.inr hst)]
    rw [e]
    refine AWP.goFC (And.intro hif (And.intro hix (And.intro q3 q4))) co ?_
    refine AWP.condA ?_ ?_ <;> intro hz
    rotate_left
    · cases hz
    refine AWP.goC co ?_
    try simp only [List.take_succ_cons, List.take_zero, List.drop_succ_cons, List.drop_zero, keysL, keysA, List.append_nil, List.nil_append, splice_zero_cons, splice_zero_nil, splice_succ, AV.closedAll, AV.closed, Bool.and_true, Bool.and_self]
    refine AWP.ret ?_
    exact ⟨trivial, [], by simp, .tup [Pa p, iv 4], rfl, rfl, rfl, rfl⟩
  have q4 : (x.state != 1) = false := by simpa using hst
  have e : periodP c p n = (setP p n (perX x), 6) := by simp only [periodP, q0, qc, hx1, hf1, Bool.true_and, Bool.false_and, Bool.or_true, Bool.true_or, Bool.or_false, Bool.false_or, Bool.not_true, Bool.not_false, Bool.and_true, Bool.and_false, Bool.and_self, cond_true, cond_false]; rw [if_neg (by rintro (h | h); exact hp h; exact h hst)]; rfl
  rw [e]
  have cb := block21O p n 2 0 x.next 6 hs
  rw [opQ_in _ p n hn] at cb
  have eb : blockP p n 2 0 x.next 6 = setP p n { x with state := 2, kind := 2, obj := 0, till := x.next, call := 6 } := by unfold blockP; rw [hx0]; simp only; rw [if_pos hst]
  rw [eb] at cb
  simp only [setP] at cb
  have s1 := stPs (cs := [iv (-1)]) (q := 12) (t := 3) (v := iv (-1)) (x := { x with state := 2, kind := 2, obj := 0, till := x.next, call := 6 }) (perX x) hn rfl rfl rfl (Nat.le_of_ble_eq_true rfl) rfl rfl
  have hip := idxP (l := p.procs.set n { x with state := 2, kind := 2, obj := 0, till := x.next, call := 6 }) (n := n) (by simpa using hn)
  refine AWP.goFC (And.intro hif (And.intro hix (And.intro q3 q4))) co ?_
  refine AWP.condA ?_ ?_ <;> intro hz
  · cases hz
  refine AWP.goFC hix cb ?_
  try simp only [List.take_succ_cons, List.take_zero, List.drop_succ_cons, List.drop_zero, keysL, keysA, List.append_nil, List.nil_append, splice_zero_cons, splice_zero_nil, splice_succ, AV.closedAll, AV.closed, Bool.and_true, Bool.and_self]
  refine AWP.goF (And.intro hip s1) ?_
  try simp only [List.take_succ_cons, List.take_zero, List.drop_succ_cons, List.drop_zero, keysL, keysA, List.append_nil, List.nil_append, splice_zero_cons, splice_zero_nil, splice_succ, AV.closedAll, AV.closed, Bool.and_true, Bool.and_self]
  refine AWP.goA ?_
  refine AWP.ret ?_
  exact ⟨trivial, [], by simp, .tup [PaM 392 (p.procs.set n { x with state := 2, kind := 2, obj := 0, till := x.next, call := 6 }).length (setP p n (perX x)), iv 6], rfl, by simp [convA, convL, idxIn, hget, lsA, lsL, queueP, setP, List.take_of_length_le], rfl, rfl⟩
/-- ref11.Period -/
theorem rperiod42 (c : Conf) (p : Part) (i : Int) (hs : Small 1000000 p) : Con Try.prog 42 [Cf c, Pa p, iv i] (.tup [Pa (periodP c p i).1, iv (periodP c p i).2]) [] := by
  refine ⟨⟨_, _, Try.func42, rfl, by decide⟩, ICall.of_body' T10_ok ⟨Try.func42, rfl, by decide⟩ (by simp [Try.f42]) ?_⟩
  by_cases h0 : i < 0
  · have q0 : decide (i < 0) = true := decide_eq_true h0
    have qt := thereB_out (p := p) (.inl h0)
    have e : periodP c p i = (p, 3) := by simp only [periodP, qt, Bool.true_and, Bool.false_and, Bool.or_true, Bool.true_or, Bool.or_false, Bool.false_or, Bool.not_true, Bool.not_false, Bool.and_true, Bool.and_false, Bool.and_self, cond_true, cond_false]
    rw [e]
    refine AWP.goF q0 ?_
    refine AWP.condA ?_ ?_ <;> intro hz
    rotate_left
    · cases hz
    refine AWP.goA ?_
    try simp only [List.take_succ_cons, List.take_zero, List.drop_succ_cons, List.drop_zero, keysL, keysA, List.append_nil, List.nil_append, splice_zero_cons, splice_zero_nil, splice_succ, AV.closedAll, AV.closed, Bool.and_true, Bool.and_self]
    refine AWP.ret ?_
    exact ⟨trivial, [], by simp, .tup [Pa p, iv 3], rfl, rfl, rfl, rfl⟩
  have q0 : decide (i < 0) = false := decide_eq_false h0
  by_cases h1 : i ≥ (p.procs.length : Int)
  · have q1 : decide (i ≥ (p.procs.length : Int)) = true := decide_eq_true h1
    have qt := thereB_out (p := p) (.inr h1)
    have e : periodP c p i = (p, 3) := by simp only [periodP, qt, Bool.true_and, Bool.false_and, Bool.or_true, Bool.true_or, Bool.or_false, Bool.false_or, Bool.not_true, Bool.not_false, Bool.and_true, Bool.and_false, Bool.and_self, cond_true, cond_false]
    rw [e]
    refine AWP.goF (And.intro q0 q1) ?_
    refine AWP.condA ?_ ?_ <;> intro hz
    rotate_left
    · cases hz
    refine AWP.goA ?_
    try simp only [List.take_succ_cons, List.take_zero, List.drop_succ_cons, List.drop_zero, keysL, keysA, List.append_nil, List.nil_append, splice_zero_cons, splice_zero_nil, splice_succ, AV.closedAll, AV.closed, Bool.and_true, Bool.and_self]
    refine AWP.ret ?_
    exact ⟨trivial, [], by simp, .tup [Pa p, iv 3], rfl, rfl, rfl, rfl⟩
  have q1 : decide (i ≥ (p.procs.length : Int)) = false := decide_eq_false h1
  obtain ⟨n, rfl⟩ : ∃ n : Nat, i = n := ⟨i.toNat, by omega⟩
  have hn : n < p.procs.length := by omega
  have qt := there_nat hn
  cases qc : decide ((n : Int) ≥ (c.procs.length : Int))
  rotate_left
  · have e : periodP c p n = (p, 3) := by simp only [periodP, qt, qc, Bool.true_and, Bool.false_and, Bool.or_true, Bool.true_or, Bool.or_false, Bool.false_or, Bool.not_true, Bool.not_false, Bool.and_true, Bool.and_false, Bool.and_self, cond_true, cond_false]
    rw [e]
    refine AWP.goF (And.intro q0 (And.intro q1 qc)) ?_
    refine AWP.condA ?_ ?_ <;> intro hz
    rotate_left
    · cases hz
    refine AWP.goA ?_
    try simp only [List.take_succ_cons, List.take_zero, List.drop_succ_cons, List.drop_zero, keysL, keysA, List.append_nil, List.nil_append, splice_zero_cons, splice_zero_nil, splice_succ, AV.closedAll, AV.closed, Bool.and_true, Bool.and_self]
    refine AWP.ret ?_
    exact ⟨trivial, [], by simp, .tup [Pa p, iv 3], rfl, rfl, rfl, rfl⟩
  obtain ⟨x, hx⟩ : ∃ x, p.procs[n] = x := ⟨_, rfl⟩
  have hx0 : p.procs[n]? = some x := by rw [List.getElem?_eq_getElem hn, hx]
  have hx1 : p.procs[(n : Int).toNat]? = some x := hx0
  have hix := idx29 (l := p.procs) hn
  rw [hx] at hix
  simp only [encProc] at hix
  have hnc : n < c.procs.length := by have := of_decide_eq_false qc; omega
  obtain ⟨fa, fb, fc, fd, fe, hff⟩ : ∃ a b c' d e, c.procs[n] = ⟨a, b, c', d, e⟩ := ⟨_, _, _, _, _, rfl⟩
  have hf1 : c.procs[(n : Int).toNat]? = some ⟨fa, fb, fc, fd, fe⟩ := by show c.procs[n]? = _; rw [List.getElem?_eq_getElem hnc, hff]
  have hif := idxF (l := c.procs) hnc
  rw [hff] at hif
  simp only [encPConf] at hif
  refine AWP.goF (And.intro q0 (And.intro q1 qc)) ?_
  refine AWP.condA ?_ ?_ <;> intro hz
  · cases hz
  by_cases hp : fb = 0
  · have q3 : (fb == 0) = true := by simpa using hp
    have e : periodP c p n = (p, 4) := by simp only [periodP, qt, qc, hx1, hf1, Bool.true_and, Bool.false_and, Bool.or_true, Bool.true_or, Bool.or_false, Bool.false_or, Bool.not_true, Bool.not_false, Bool.and_true, Bool.and_false, Bool.and_self, cond_true, cond_false]; rw [if_pos (.inl hp)]
    rw [e]
    refine AWP.goF (And.intro hif q3) ?_
    refine AWP.condA ?_ ?_ <;> intro hz
    rotate_left
    · cases hz
    refine AWP.goA ?_
    try simp only [List.take_succ_cons, List.take_zero, List.drop_succ_cons, List.drop_zero, keysL, keysA, List.append_nil, List.nil_append, splice_zero_cons, splice_zero_nil, splice_succ, AV.closedAll, AV.closed, Bool.and_true, Bool.and_self]
    refine AWP.ret ?_
    exact ⟨trivial, [], by simp, .tup [Pa p, iv 4], rfl, rfl, rfl, rfl⟩
  have q3 : (fb == 0) = false := by simpa using hp
  by_cases hst : x.state = 1
  rotate_left
  · have q4 : (x.state != 1) = true := by simpa using hst
    have e : periodP c p n = (p, 4) := by simp only [periodP, qt, qc, hx1, hf1, Bool.true_and, Bool.false_and, Bool.or_true, Bool.true_or, Bool.or_false, Bool.false_or, Bool.not_true, Bool.not_false, Bool.and_true, Bool.and_false, Bool.and_self, cond_true, cond_false]; rw [if_pos (.inr hst)]
    rw [e]
    refine AWP.goF (And.intro hif (And.intro hix (And.intro q3 q4))) ?_
    refine AWP.condA ?_ ?_ <;> intro hz
    rotate_left
    · cases hz
    refine AWP.goA ?_
    try simp only [List.take_succ_cons, List.take_zero, List.drop_succ_cons, List.drop_zero, keysL, keysA, List.append_nil, List.nil_append, splice_zero_cons, splice_zero_nil, splice_succ, AV.closedAll, AV.closed, Bool.and_true, Bool.and_self]
    refine AWP.ret ?_
    exact ⟨trivial, [], by simp, .tup [Pa p, iv 4], rfl, rfl, rfl, rfl⟩
  have q4 : (x.state != 1) = false := by simpa using hst
  have e : periodP c p n = (setP p n (perX x), 6) := by simp only [periodP, qt, qc, hx1, hf1, Bool.true_and, Bool.false_and, Bool.or_true, Bool.true_or, Bool.or_false, Bool.false_or, Bool.not_true, Bool.not_false, Bool.and_true, Bool.and_false, Bool.and_self, cond_true, cond_false]; rw [if_neg (by rintro (h | h); exact hp h; exact h hst)]; rfl
  rw [e]
  have cb := rblock22 p n 2 0 x.next 6 hs.procs
  rw [opQ_in _ p n hn] at cb
  have eb : blockP p n 2 0 x.next 6 = setP p n { x with state := 2, kind := 2, obj := 0, till := x.next, call := 6 } := by unfold blockP; rw [hx0]; simp only; rw [if_pos hst]
  rw [eb] at cb
  obtain ⟨g, hg⟩ : ∃ g, setP p n { x with state := 2, kind := 2, obj := 0, till := x.next, call := 6 } = g := ⟨_, rfl⟩
  rw [hg] at cb
  have hgl : g.procs.length = p.procs.length := by rw [← hg]; simp [setP]
  have hng : n < g.procs.length := by omega
  have hgx : g.procs[n] = { x with state := 2, kind := 2, obj := 0, till := x.next, call := 6 } := by subst hg; simp [setP]
  have hiy := idx29 (l := g.procs) hng
  rw [hgx] at hiy
  simp only [encProc] at hiy
  have cw := with79 g n (perX x) (by rw [hgl]; exact hs.procs) hng
  have ew : setP g n (perX x) = setP p n (perX x) := by rw [← hg]; simp [setP]
  rw [ew] at cw
  simp only [encProc, perX] at cw ⊢
  refine AWP.goF (And.intro hif (And.intro hix (And.intro q3 q4))) ?_
  refine AWP.condA ?_ ?_ <;> intro hz
  · cases hz
  refine AWP.goA ?_
  apply AWP.anyR Zz_mixed
  focus
    (repeat (apply Trace.cons; (focus (first | exact Loc.opF hix | exact Loc.opYesF hix | exact Loc.opNoA | exact Loc.conA cb)); (focus exact applyF hix)))
    exact Trace.nil _
  focus kernel_rfl
  simp only [Then, InBlock]
  try simp only [List.take_succ_cons, List.take_zero, List.drop_succ_cons, List.drop_zero, keysL, keysA, List.append_nil, List.nil_append, splice_zero_cons, splice_zero_nil, splice_succ, AV.closedAll, AV.closed, Bool.and_true, Bool.and_self]
  refine AWP.goF hiy ?_
  try simp only [List.take_succ_cons, List.take_zero, List.drop_succ_cons, List.drop_zero, keysL, keysA, List.append_nil, List.nil_append, splice_zero_cons, splice_zero_nil, splice_succ, AV.closedAll, AV.closed, Bool.and_true, Bool.and_self]
  refine AWP.goFC hiy cw ?_
  try simp only [List.take_succ_cons, List.take_zero, List.drop_succ_cons, List.drop_zero, keysL, keysA, List.append_nil, List.nil_append, splice_zero_cons, splice_zero_nil, splice_succ, AV.closedAll, AV.closed, Bool.and_true, Bool.and_self]
  refine AWP.goC cw ?_
  try simp only [List.take_succ_cons, List.take_zero, List.drop_succ_cons, List.drop_zero, keysL, keysA, List.append_nil, List.nil_append, splice_zero_cons, splice_zero_nil, splice_succ, AV.closedAll, AV.closed, Bool.and_true, Bool.and_self]
  refine AWP.ret ?_
  exact ⟨trivial, [], by simp, .tup [Pa (setP p n (perX x)), iv 6], rfl, rfl, rfl, rfl⟩
/-- times.Replenish -/
theorem repl44 (c : Conf) (p : Part) (i ticks now : Int) (hs : Small 1000000 p) : Con Try.prog 44 [Cf c, Pa p, iv i, iv ticks, iv now] (.tup [Pa (replP c p i ticks now).1, iv (replP c p i ticks now).2]) [] := by
  refine ⟨⟨_, _, Try.func44, rfl, by decide⟩, ICall.of_body' T10_ok ⟨Try.func44, rfl, by decide⟩ (by simp [Try.f44]) ?_⟩
  have co := own29O p hs
  have ct := there75 p i
  cases q0 : thereB p i
  · rw [q0] at ct
    have e : replP c p i ticks now = (p, 3) := by simp only [replP, q0, Bool.true_and, Bool.false_and, Bool.or_true, Bool.true_or, Bool.or_false, Bool.false_or, Bool.not_true, Bool.not_false, Bool.and_true, Bool.and_false, Bool.and_self, cond_true, cond_false]
    rw [e]
    refine AWP.goC (And.intro co ct) ?_
    try simp only [List.take_succ_cons, List.take_zero, List.drop_succ_cons, List.drop_zero, keysL, keysA, List.append_nil, List.nil_append, splice_zero_cons, splice_zero_nil, splice_succ, AV.closedAll, AV.closed, Bool.and_true, Bool.and_self]
    refine AWP.goC ct ?_
    refine AWP.condA ?_ ?_ <;> intro hz
    rotate_left
    · cases hz
    refine AWP.goA ?_
    try simp only [List.take_succ_cons, List.take_zero, List.drop_succ_cons, List.drop_zero, keysL, keysA, List.append_nil, List.nil_append, splice_zero_cons, splice_zero_nil, splice_succ, AV.closedAll, AV.closed, Bool.and_true, Bool.and_self]
    refine AWP.ret ?_
    exact ⟨trivial, [], by simp, .tup [PaM 112 p.procs.length p, iv 3], rfl, by simp [convA, convL, idxIn, hget, lsA, lsL, queueP, setP, List.take_of_length_le], rfl, rfl⟩
  rw [q0] at ct
  cases qc : decide (i ≥ (c.procs.length : Int))
  rotate_left
  · have e : replP c p i ticks now = (p, 3) := by simp only [replP, q0, qc, Bool.true_and, Bool.false_and, Bool.or_true, Bool.true_or, Bool.or_false, Bool.false_or, Bool.not_true, Bool.not_false, Bool.and_true, Bool.and_false, Bool.and_self, cond_true, cond_false]
    rw [e]
    refine AWP.goFC qc (And.intro co ct) ?_
    try simp only [List.take_succ_cons, List.take_zero, List.drop_succ_cons, List.drop_zero, keysL, keysA, List.append_nil, List.nil_append, splice_zero_cons, splice_zero_nil, splice_succ, AV.closedAll, AV.closed, Bool.and_true, Bool.and_self]
    refine AWP.goFC qc ct ?_
    refine AWP.condA ?_ ?_ <;> intro hz
    rotate_left
    · cases hz
    refine AWP.goA ?_
    try simp only [List.take_succ_cons, List.take_zero, List.drop_succ_cons, List.drop_zero, keysL, keysA, List.append_nil, List.nil_append, splice_zero_cons, splice_zero_nil, splice_succ, AV.closedAll, AV.closed, Bool.and_true, Bool.and_self]
    refine AWP.ret ?_
    exact ⟨trivial, [], by simp, .tup [PaM 112 p.procs.length p, iv 3], rfl, by simp [convA, convL, idxIn, hget, lsA, lsL, queueP, setP, List.take_of_length_le], rfl, rfl⟩
  cases q1 : decide (ticks < 1)
  rotate_left
  · have e : replP c p i ticks now = (p, 3) := by simp only [replP, q0, qc, q1, Bool.true_and, Bool.false_and, Bool.or_true, Bool.true_or, Bool.or_false, Bool.false_or, Bool.not_true, Bool.not_false, Bool.and_true, Bool.and_false, Bool.and_self, cond_true, cond_false]
    rw [e]
    refine AWP.goFC (And.intro qc q1) (And.intro co ct) ?_
    try simp only [List.take_succ_cons, List.take_zero, List.drop_succ_cons, List.drop_zero, keysL, keysA, List.append_nil, List.nil_append, splice_zero_cons, splice_zero_nil, splice_succ, AV.closedAll, AV.closed, Bool.and_true, Bool.and_self]
    refine AWP.goFC (And.intro qc q1) ct ?_
    refine AWP.condA ?_ ?_ <;> intro hz
    rotate_left
    · cases hz
    refine AWP.goA ?_
    try simp only [List.take_succ_cons, List.take_zero, List.drop_succ_cons, List.drop_zero, keysL, keysA, List.append_nil, List.nil_append, splice_zero_cons, splice_zero_nil, splice_succ, AV.closedAll, AV.closed, Bool.and_true, Bool.and_self]
    refine AWP.ret ?_
    exact ⟨trivial, [], by simp, .tup [PaM 112 p.procs.length p, iv 3], rfl, by simp [convA, convL, idxIn, hget, lsA, lsL, queueP, setP, List.take_of_length_le], rfl, rfl⟩
  cases q2 : decide (ticks > 4096)
  rotate_left
  · have e : replP c p i ticks now = (p, 3) := by simp only [replP, q0, qc, q1, q2, Bool.true_and, Bool.false_and, Bool.or_true, Bool.true_or, Bool.or_false, Bool.false_or, Bool.not_true, Bool.not_false, Bool.and_true, Bool.and_false, Bool.and_self, cond_true, cond_false]
    rw [e]
    refine AWP.goFC (And.intro qc (And.intro q1 q2)) (And.intro co ct) ?_
    try simp only [List.take_succ_cons, List.take_zero, List.drop_succ_cons, List.drop_zero, keysL, keysA, List.append_nil, List.nil_append, splice_zero_cons, splice_zero_nil, splice_succ, AV.closedAll, AV.closed, Bool.and_true, Bool.and_self]
    refine AWP.goFC (And.intro qc (And.intro q1 q2)) ct ?_
    refine AWP.condA ?_ ?_ <;> intro hz
    rotate_left
    · cases hz
    refine AWP.goA ?_
    try simp only [List.take_succ_cons, List.take_zero, List.drop_succ_cons, List.drop_zero, keysL, keysA, List.append_nil, List.nil_append, splice_zero_cons, splice_zero_nil, splice_succ, AV.closedAll, AV.closed, Bool.and_true, Bool.and_self]
    refine AWP.ret ?_
    exact ⟨trivial, [], by simp, .tup [PaM 112 p.procs.length p, iv 3], rfl, by simp [convA, convL, idxIn, hget, lsA, lsL, queueP, setP, List.take_of_length_le], rfl, rfl⟩
  obtain ⟨n, rfl, hn⟩ := there_true q0
  obtain ⟨x, hx⟩ : ∃ x, p.procs[n] = x := ⟨_, rfl⟩
  have hx0 : p.procs[n]? = some x := by rw [List.getElem?_eq_getElem hn, hx]
  have hx1 : p.procs[(n : Int).toNat]? = some x := hx0
  have hix := idx29 (l := p.procs) hn
  rw [hx] at hix
  simp only [encProc] at hix
  have hnc : n < c.procs.length := by have := of_decide_eq_false qc; omega
  obtain ⟨fa, fb, fc, fd, fe, hff⟩ : ∃ a b c' d e, c.procs[n] = ⟨a, b, c', d, e⟩ := ⟨_, _, _, _, _, rfl⟩
  have hf1 : c.procs[(n : Int).toNat]? = some ⟨fa, fb, fc, fd, fe⟩ := by show c.procs[n]? = _; rw [List.getElem?_eq_getElem hnc, hff]
  have hif := idxF (l := c.procs) hnc
  rw [hff] at hif
  simp only [encPConf] at hif
  refine AWP.goFC (And.intro qc (And.intro q1 q2)) (And.intro co ct) ?_
  try simp only [List.take_succ_cons, List.take_zero, List.drop_succ_cons, List.drop_zero, keysL, keysA, List.append_nil, List.nil_append, splice_zero_cons, splice_zero_nil, splice_succ, AV.closedAll, AV.closed, Bool.and_true, Bool.and_self]
  refine AWP.goFC (And.intro qc (And.intro q1 q2)) ct ?_
  refine AWP.condA ?_ ?_ <;> intro hz
  · cases hz
  by_cases hp : fc = 0
  · have q3 : (fc == 0) = true := by simpa using hp
    have e : replP c p n ticks now = (p, 1) := by simp only [replP, q0, qc, q1, q2, hx1, hf1, Bool.true_and, Bool.false_and, Bool.or_true, Bool.true_or, Bool.or_false, Bool.false_or, Bool.not_true, Bool.not_false, Bool.and_true, Bool.and_false, Bool.and_self, cond_true, cond_false]; rw [if_pos (.inl hp)]
    rw [e]
    refine AWP.goF (And.intro hif q3) ?_
    refine AWP.condA ?_ ?_ <;> intro hz
    rotate_left
    · cases hz
    refine AWP.goA ?_
    try simp only [List.take_succ_cons, List.take_zero, List.drop_succ_cons, List.drop_zero, keysL, keysA, List.append_nil, List.nil_append, splice_zero_cons, splice_zero_nil, splice_succ, AV.closedAll, AV.closed, Bool.and_true, Bool.and_self]
    refine AWP.ret ?_
    exact ⟨trivial, [], by simp, .tup [PaM 112 p.procs.length p, iv 1], rfl, by simp [convA, convL, idxIn, hget, lsA, lsL, queueP, setP, List.take_of_length_le], rfl, rfl⟩
  have q3 : (fc == 0) = false := by simpa using hp
  by_cases hst : x.state = 0
  · have q4 : (x.state == 0) = true := by simpa using hst
    have e : replP c p n ticks now = (p, 1) := by simp only [replP, q0, qc, q1, q2, hx1, hf1, Bool.true_and, Bool.false_and, Bool.or_true, Bool.true_or, Bool.or_false, Bool.false_or, Bool.not_true, Bool.not_false, Bool.and_true, Bool.and_false, Bool.and_self, cond_true, cond_false]; rw [if_pos (.inr hst)]
    rw [e]
    refine AWP.goF (And.intro hif (And.intro hix (And.intro q3 q4))) ?_
    refine AWP.condA ?_ ?_ <;> intro hz
    rotate_left
    · cases hz
    refine AWP.goA ?_
    try simp only [List.take_succ_cons, List.take_zero, List.drop_succ_cons, List.drop_zero, keysL, keysA, List.append_nil, List.nil_append, splice_zero_cons, splice_zero_nil, splice_succ, AV.closedAll, AV.closed, Bool.and_true, Bool.and_self]
    refine AWP.ret ?_
    exact ⟨trivial, [], by simp, .tup [PaM 112 p.procs.length p, iv 1], rfl, by simp [convA, convL, idxIn, hget, lsA, lsL, queueP, setP, List.take_of_length_le], rfl, rfl⟩
  have q4 : (x.state == 0) = false := by simpa using hst
  have e : replP c p n ticks now = (setP p n { x with due := IntKind.i64.wrap (now + ticks) }, 0) := by simp only [replP, q0, qc, q1, q2, hx1, hf1, Bool.true_and, Bool.false_and, Bool.or_true, Bool.true_or, Bool.or_false, Bool.false_or, Bool.not_true, Bool.not_false, Bool.and_true, Bool.and_false, Bool.and_self, cond_true, cond_false]; rw [if_neg (by rintro (h | h); exact hp h; exact hst h)]; rfl
  rw [e]
  have hip := idxP (l := p.procs) hn
  have s1 := stP (cs := [iv (IntKind.i64.wrap (now + ticks))]) (q := 12) (t := 3) (v := iv (IntKind.i64.wrap (now + ticks))) { x with due := IntKind.i64.wrap (now + ticks) } hx0 rfl rfl rfl (Nat.le_of_ble_eq_true rfl) rfl rfl
  refine AWP.goF (And.intro hif (And.intro hix (And.intro q3 q4))) ?_
  refine AWP.condA ?_ ?_ <;> intro hz
  · cases hz
  refine AWP.goF (And.intro hip s1) ?_
  try simp only [List.take_succ_cons, List.take_zero, List.drop_succ_cons, List.drop_zero, keysL, keysA, List.append_nil, List.nil_append, splice_zero_cons, splice_zero_nil, splice_succ, AV.closedAll, AV.closed, Bool.and_true, Bool.and_self]
  refine AWP.goA ?_
  refine AWP.ret ?_
  exact ⟨trivial, [], by simp, .tup [PaM 112 p.procs.length (setP p n { x with due := IntKind.i64.wrap (now + ticks) }), iv 0], rfl, by simp [convA, convL, idxIn, hget, lsA, lsL, queueP, setP, List.take_of_length_le], rfl, rfl⟩
/-- ref11.Replenish -/
theorem rrepl45 (c : Conf) (p : Part) (i ticks now : Int) (hs : Small 1000000 p) : Con Try.prog 45 [Cf c, Pa p, iv i, iv ticks, iv now] (.tup [Pa (replP c p i ticks now).1, iv (replP c p i ticks now).2]) [] := by
  refine ⟨⟨_, _, Try.func45, rfl, by decide⟩, ICall.of_body' T10_ok ⟨Try.func45, rfl, by decide⟩ (by simp [Try.f45]) ?_⟩
  by_cases h0 : i < 0
  · have q0 : decide (i < 0) = true := decide_eq_true h0
    have qt := thereB_out (p := p) (.inl h0)
    have e : replP c p i ticks now = (p, 3) := by simp only [replP, qt, Bool.true_and, Bool.false_and, Bool.or_true, Bool.true_or, Bool.or_false, Bool.false_or, Bool.not_true, Bool.not_false, Bool.and_true, Bool.and_false, Bool.and_self, cond_true, cond_false]
    rw [e]
    refine AWP.goF q0 ?_
    refine AWP.condA ?_ ?_ <;> intro hz
    rotate_left
    · cases hz
    refine AWP.goA ?_
    try simp only [List.take_succ_cons, List.take_zero, List.drop_succ_cons, List.drop_zero, keysL, keysA, List.append_nil, List.nil_append, splice_zero_cons, splice_zero_nil, splice_succ, AV.closedAll, AV.closed, Bool.and_true, Bool.and_self]
    refine AWP.ret ?_
    exact ⟨trivial, [], by simp, .tup [Pa p, iv 3], rfl, rfl, rfl, rfl⟩
  have q0 : decide (i < 0) = false := decide_eq_false h0
  by_cases h1 : i ≥ (p.procs.length : Int)
  · have q1 : decide (i ≥ (p.procs.length : Int)) = true := decide_eq_true h1
    have qt := thereB_out (p := p) (.inr h1)
    have e : replP c p i ticks now = (p, 3) := by simp only [replP, qt, Bool.true_and, Bool.false_and, Bool.or_true, Bool.true_or, Bool.or_false, Bool.false_or, Bool.not_true, Bool.not_false, Bool.and_true, Bool.and_false, Bool.and_self, cond_true, cond_false]
    rw [e]
    refine AWP.goF (And.intro q0 q1) ?_
    refine AWP.condA ?_ ?_ <;> intro hz
    rotate_left
    · cases hz
    refine AWP.goA ?_
    try simp only [List.take_succ_cons, List.take_zero, List.drop_succ_cons, List.drop_zero, keysL, keysA, List.append_nil, List.nil_append, splice_zero_cons, splice_zero_nil, splice_succ, AV.closedAll, AV.closed, Bool.and_true, Bool.and_self]
    refine AWP.ret ?_
    exact ⟨trivial, [], by simp, .tup [Pa p, iv 3], rfl, rfl, rfl, rfl⟩
  have q1 : decide (i ≥ (p.procs.length : Int)) = false := decide_eq_false h1
  obtain ⟨n, rfl⟩ : ∃ n : Nat, i = n := ⟨i.toNat, by omega⟩
  have hn : n < p.procs.length := by omega
  have qt := there_nat hn
  cases qc : decide ((n : Int) ≥ (c.procs.length : Int))
  rotate_left
  · have e : replP c p n ticks now = (p, 3) := by simp only [replP, qt, qc, Bool.true_and, Bool.false_and, Bool.or_true, Bool.true_or, Bool.or_false, Bool.false_or, Bool.not_true, Bool.not_false, Bool.and_true, Bool.and_false, Bool.and_self, cond_true, cond_false]
    rw [e]
    refine AWP.goF (And.intro q0 (And.intro q1 qc)) ?_
    refine AWP.condA ?_ ?_ <;> intro hz
    rotate_left
    · cases hz
    refine AWP.goA ?_
    try simp only [List.take_succ_cons, List.take_zero, List.drop_succ_cons, List.drop_zero, keysL, keysA, List.append_nil, List.nil_append, splice_zero_cons, splice_zero_nil, splice_succ, AV.closedAll, AV.closed, Bool.and_true, Bool.and_self]
    refine AWP.ret ?_
    exact ⟨trivial, [], by simp, .tup [Pa p, iv 3], rfl, rfl, rfl, rfl⟩
  cases q2 : decide (ticks < 1)
  rotate_left
  · have e : replP c p n ticks now = (p, 3) := by simp only [replP, qt, qc, q2, Bool.true_and, Bool.false_and, Bool.or_true, Bool.true_or, Bool.or_false, Bool.false_or, Bool.not_true, Bool.not_false, Bool.and_true, Bool.and_false, Bool.and_self, cond_true, cond_false]
    rw [e]
    refine AWP.goF (And.intro q0 (And.intro q1 (And.intro qc q2))) ?_
    refine AWP.condA ?_ ?_ <;> intro hz
    rotate_left
    · cases hz
    refine AWP.goA ?_
    try simp only [List.take_succ_cons, List.take_zero, List.drop_succ_cons, List.drop_zero, keysL, keysA, List.append_nil, List.nil_append, splice_zero_cons, splice_zero_nil, splice_succ, AV.closedAll, AV.closed, Bool.and_true, Bool.and_self]
    refine AWP.ret ?_
    exact ⟨trivial, [], by simp, .tup [Pa p, iv 3], rfl, rfl, rfl, rfl⟩
  cases q3 : decide (ticks > 4096)
  rotate_left
  · have e : replP c p n ticks now = (p, 3) := by simp only [replP, qt, qc, q2, q3, Bool.true_and, Bool.false_and, Bool.or_true, Bool.true_or, Bool.or_false, Bool.false_or, Bool.not_true, Bool.not_false, Bool.and_true, Bool.and_false, Bool.and_self, cond_true, cond_false]
    rw [e]
    refine AWP.goF (And.intro q0 (And.intro q1 (And.intro qc (And.intro q2 q3)))) ?_
    refine AWP.condA ?_ ?_ <;> intro hz
    rotate_left
    · cases hz
    refine AWP.goA ?_
    try simp only [List.take_succ_cons, List.take_zero, List.drop_succ_cons, List.drop_zero, keysL, keysA, List.append_nil, List.nil_append, splice_zero_cons, splice_zero_nil, splice_succ, AV.closedAll, AV.closed, Bool.and_true, Bool.and_self]
    refine AWP.ret ?_
    exact ⟨trivial, [], by simp, .tup [Pa p, iv 3], rfl, rfl, rfl, rfl⟩
  obtain ⟨x, hx⟩ : ∃ x, p.procs[n] = x := ⟨_, rfl⟩
  have hx0 : p.procs[n]? = some x := by rw [List.getElem?_eq_getElem hn, hx]
  have hx1 : p.procs[(n : Int).toNat]? = some x := hx0
  have hix := idx29 (l := p.procs) hn
  rw [hx] at hix
  simp only [encProc] at hix
  have hnc : n < c.procs.length := by have := of_decide_eq_false qc; omega
  obtain ⟨fa, fb, fc, fd, fe, hff⟩ : ∃ a b c' d e, c.procs[n] = ⟨a, b, c', d, e⟩ := ⟨_, _, _, _, _, rfl⟩
  have hf1 : c.procs[(n : Int).toNat]? = some ⟨fa, fb, fc, fd, fe⟩ := by show c.procs[n]? = _; rw [List.getElem?_eq_getElem hnc, hff]
  have hif := idxF (l := c.procs) hnc
  rw [hff] at hif
  simp only [encPConf] at hif
  refine AWP.goF (And.intro q0 (And.intro q1 (And.intro qc (And.intro q2 q3)))) ?_
  refine AWP.condA ?_ ?_ <;> intro hz
  · cases hz
  refine AWP.goF hix ?_
  try simp only [List.take_succ_cons, List.take_zero, List.drop_succ_cons, List.drop_zero, keysL, keysA, List.append_nil, List.nil_append, splice_zero_cons, splice_zero_nil, splice_succ, AV.closedAll, AV.closed, Bool.and_true, Bool.and_self]
  by_cases hp : fc = 0
  · have q4 : (fc == 0) = true := by simpa using hp
    have e : replP c p n ticks now = (p, 1) := by simp only [replP, qt, qc, q2, q3, hx1, hf1, Bool.true_and, Bool.false_and, Bool.or_true, Bool.true_or, Bool.or_false, Bool.false_or, Bool.not_true, Bool.not_false, Bool.and_true, Bool.and_false, Bool.and_self, cond_true, cond_false]; rw [if_pos (.inl hp)]
    rw [e]
    refine AWP.goF (And.intro hif q4) ?_
    refine AWP.condA ?_ ?_ <;> intro hz
    rotate_left
    · cases hz
    refine AWP.goA ?_
    try simp only [List.take_succ_cons, List.take_zero, List.drop_succ_cons, List.drop_zero, keysL, keysA, List.append_nil, List.nil_append, splice_zero_cons, splice_zero_nil, splice_succ, AV.closedAll, AV.closed, Bool.and_true, Bool.and_self]
    refine AWP.ret ?_
    exact ⟨trivial, [], by simp, .tup [Pa p, iv 1], rfl, rfl, rfl, rfl⟩
  have q4 : (fc == 0) = false := by simpa using hp
  by_cases hst : x.state = 0
  · have q5 : (x.state == 0) = true := by simpa using hst
    have e : replP c p n ticks now = (p, 1) := by simp only [replP, qt, qc, q2, q3, hx1, hf1, Bool.true_and, Bool.false_and, Bool.or_true, Bool.true_or, Bool.or_false, Bool.false_or, Bool.not_true, Bool.not_false, Bool.and_true, Bool.and_false, Bool.and_self, cond_true, cond_false]; rw [if_pos (.inr hst)]
    rw [e]
    refine AWP.goF (And.intro hif (And.intro q4 q5)) ?_
    refine AWP.condA ?_ ?_ <;> intro hz
    rotate_left
    · cases hz
    refine AWP.goA ?_
    try simp only [List.take_succ_cons, List.take_zero, List.drop_succ_cons, List.drop_zero, keysL, keysA, List.append_nil, List.nil_append, splice_zero_cons, splice_zero_nil, splice_succ, AV.closedAll, AV.closed, Bool.and_true, Bool.and_self]
    refine AWP.ret ?_
    exact ⟨trivial, [], by simp, .tup [Pa p, iv 1], rfl, rfl, rfl, rfl⟩
  have q5 : (x.state == 0) = false := by simpa using hst
  have e : replP c p n ticks now = (setP p n { x with due := IntKind.i64.wrap (now + ticks) }, 0) := by simp only [replP, qt, qc, q2, q3, hx1, hf1, Bool.true_and, Bool.false_and, Bool.or_true, Bool.true_or, Bool.or_false, Bool.false_or, Bool.not_true, Bool.not_false, Bool.and_true, Bool.and_false, Bool.and_self, cond_true, cond_false]; rw [if_neg (by rintro (h | h); exact hp h; exact hst h)]; rfl
  rw [e]
  have cw := with79 p n { x with due := IntKind.i64.wrap (now + ticks) } hs.procs hn
  simp only [encProc] at cw
  refine AWP.goF (And.intro hif (And.intro q4 q5)) ?_
  refine AWP.condA ?_ ?_ <;> intro hz
  · cases hz
  refine AWP.goA ?_
  try simp only [List.take_succ_cons, List.take_zero, List.drop_succ_cons, List.drop_zero, keysL, keysA, List.append_nil, List.nil_append, splice_zero_cons, splice_zero_nil, splice_succ, AV.closedAll, AV.closed, Bool.and_true, Bool.and_self]
  refine AWP.goC cw ?_
  try simp only [List.take_succ_cons, List.take_zero, List.drop_succ_cons, List.drop_zero, keysL, keysA, List.append_nil, List.nil_append, splice_zero_cons, splice_zero_nil, splice_succ, AV.closedAll, AV.closed, Bool.and_true, Bool.and_self]
  refine AWP.ret ?_
  exact ⟨trivial, [], by simp, .tup [Pa (setP p n { x with due := IntKind.i64.wrap (now + ticks) }), iv 0], rfl, rfl, rfl, rfl⟩
end Go.Qd
