/- A part of the library of this claim: rules of an abstract machine (values in place of addresses), proved against the model, and contracts of the functions. -/
import Derived.Test.YtkenbgmadkelcaaW34
set_option linter.unusedVariables false
set_option linter.unusedSimpArgs false
set_option maxHeartbeats 8000000
set_option maxRecDepth 10000
namespace Go.Qd
open Go Go.Proofs
theorem there_true {p : Part} {i : Int} (h : thereB p i = true) : ∃ n : Nat, i = n ∧ n < p.procs.length := by
  unfold thereB at h
  simp only [Bool.and_eq_true, decide_eq_true_eq] at h
  exact ⟨i.toNat, by omega, by omega⟩
theorem there_nat {p : Part} {n : Nat} (h : n < p.procs.length) : thereB p n = true := by
  unfold thereB
  simp only [Bool.and_eq_true, decide_eq_true_eq]
  omega
theorem thereB_out {p : Part} {i : Int} (h : i < 0 ∨ (p.procs.length : Int) ≤ i) : thereB p i = false := by
  cases hb : thereB p i
  · rfl
  · obtain ⟨n, hn, hl⟩ := there_true hb; omega
/-! ### Delay -/
def delayP (p : Part) (i ticks now : Int) : Part × Int :=
  bif !(thereB p i) || (decide (ticks < 0) || decide (ticks > 4096)) then (p, 3) else match p.procs[i.toNat]? with
    | none => (p, 3)
    | some x => if x.state ≠ 1 then (p, 4) else if 0 < ticks then (blockP p i.toNat 1 0 (IntKind.i64.wrap (now + ticks)) 7, 6) else (queueP p i.toNat x, 0)
/-- times.Delay -/
theorem delay35 (p : Part) (i ticks now : Int) (hs : Small 1000000 p) : Con Try.prog 35 [Pa p, iv i, iv ticks, iv now] (.tup [Pa (delayP p i ticks now).1, iv (delayP p i ticks now).2]) [] := by
  refine ⟨⟨_, _, Try.func35, rfl, by decide⟩, ICall.of_body' T10_ok ⟨Try.func35, rfl, by decide⟩ (by simp [Try.f35]) ?_⟩
  have co := own29 p hs
  have ct := there75 p i
  cases q0 : thereB p i
  · rw [q0] at ct
    have e : delayP p i ticks now = (p, 3) := by simp only [delayP, q0, Bool.true_and, Bool.false_and, Bool.or_true, Bool.true_or, Bool.or_false, Bool.false_or, Bool.not_true, Bool.not_false, Bool.and_true, Bool.and_false, Bool.and_self, cond_true, cond_false]
    rw [e]
    refine AWP.goC (And.intro ct co) ?_
    refine AWP.condA ?_ ?_ <;> intro hz
    rotate_left
    · cases hz
    refine AWP.goC co ?_
    try simp only [List.take_succ_cons, List.take_zero, List.drop_succ_cons, List.drop_zero, keysL, keysA, List.append_nil, List.nil_append, splice_zero_cons, splice_zero_nil, splice_succ, AV.closedAll, AV.closed, Bool.and_true, Bool.and_self]
    refine AWP.ret ?_
    exact ⟨trivial, [], by simp, .tup [Pa p, iv 3], rfl, rfl, rfl, rfl⟩
  rw [q0] at ct
  cases q1 : decide (ticks < 0)
  rotate_left
  · have e : delayP p i ticks now = (p, 3) := by simp only [delayP, q0, q1, Bool.true_and, Bool.false_and, Bool.or_true, Bool.true_or, Bool.or_false, Bool.false_or, Bool.not_true, Bool.not_false, Bool.and_true, Bool.and_false, Bool.and_self, cond_true, cond_false]
    rw [e]
    refine AWP.goFC q1 (And.intro ct co) ?_
    refine AWP.condA ?_ ?_ <;> intro hz
    rotate_left
    · cases hz
    refine AWP.goC co ?_
    try simp only [List.take_succ_cons, List.take_zero, List.drop_succ_cons, List.drop_zero, keysL, keysA, List.append_nil, List.nil_append, splice_zero_cons, splice_zero_nil, splice_succ, AV.closedAll, AV.closed, Bool.and_true, Bool.and_self]
    refine AWP.ret ?_
    exact ⟨trivial, [], by simp, .tup [Pa p, iv 3], rfl, rfl, rfl, rfl⟩
  cases q2 : decide (ticks > 4096)
  rotate_left
  · have e : delayP p i ticks now = (p, 3) := by simp only [delayP, q0, q1, q2, Bool.true_and, Bool.false_and, Bool.or_true, Bool.true_or, Bool.or_false, Bool.false_or, Bool.not_true, Bool.not_false, Bool.and_true, Bool.and_false, Bool.and_self, cond_true, cond_false]
    rw [e]
    refine AWP.goFC (And.intro q1 q2) (And.intro ct co) ?_
    refine AWP.condA ?_ ?_ <;> intro hz
    rotate_left
    · cases hz
    refine AWP.goC co ?_
    try simp only [List.take_succ_cons, List.take_zero, List.drop_succ_cons, List.drop_zero, keysL, keysA, List.append_nil, List.nil_append, splice_zero_cons, splice_zero_nil, splice_succ, AV.closedAll, AV.closed, Bool.and_true, Bool.and_self]
    refine AWP.ret ?_
    exact ⟨trivial, [], by simp, .tup [Pa p, iv 3], rfl, rfl, rfl, rfl⟩
  obtain ⟨n, rfl, hn⟩ := there_true q0
  obtain ⟨x, hx⟩ : ∃ x, p.procs[n] = x := ⟨_, rfl⟩
  have hx0 : p.procs[n]? = some x := by rw [List.getElem?_eq_getElem hn, hx]
  have hx1 : p.procs[(n : Int).toNat]? = some x := hx0
  have hix := idx29 (l := p.procs) hn
  rw [hx] at hix
  simp only [encProc] at hix
  refine AWP.goFC (And.intro q1 q2) (And.intro ct co) ?_
  refine AWP.condA ?_ ?_ <;> intro hz
  · cases hz
  by_cases hst : x.state = 1
  rotate_left
  · have q3 : (x.state != 1) = true := by simpa using hst
    have e : delayP p n ticks now = (p, 4) := by simp only [delayP, q0, q1, q2, hx1, Bool.true_and, Bool.false_and, Bool.or_true, Bool.true_or, Bool.or_false, Bool.false_or, Bool.not_true, Bool.not_false, Bool.and_true, Bool.and_false, Bool.and_self, cond_true, cond_false]; rw [if_pos hst]
    rw [e]
    refine AWP.goFC (And.intro hix q3) co ?_
    refine AWP.condA ?_ ?_ <;> intro hz
    rotate_left
    · cases hz
    refine AWP.goC co ?_
    try simp only [List.take_succ_cons, List.take_zero, List.drop_succ_cons, List.drop_zero, keysL, keysA, List.append_nil, List.nil_append, splice_zero_cons, splice_zero_nil, splice_succ, AV.closedAll, AV.closed, Bool.and_true, Bool.and_self]
    refine AWP.ret ?_
    exact ⟨trivial, [], by simp, .tup [Pa p, iv 4], rfl, rfl, rfl, rfl⟩
  have q3 : (x.state != 1) = false := by simpa using hst
  refine AWP.goFC (And.intro hix q3) co ?_
  refine AWP.condA ?_ ?_ <;> intro hz
  · cases hz
  by_cases hti : 0 < ticks
  · have q4 : decide (ticks > 0) = true := decide_eq_true hti
    have e : delayP p n ticks now = (blockP p n 1 0 (IntKind.i64.wrap (now + ticks)) 7, 6) := by simp only [delayP, q0, q1, q2, hx1, Bool.true_and, Bool.false_and, Bool.or_true, Bool.true_or, Bool.or_false, Bool.false_or, Bool.not_true, Bool.not_false, Bool.and_true, Bool.and_false, Bool.and_self, cond_true, cond_false]; rw [if_neg (fun h => h hst), if_pos hti]; rfl
    rw [e]
    have cb := block21 p n 1 0 (IntKind.i64.wrap (now + ticks)) 7 hs
    rw [opQ_in _ p n hn] at cb
    refine AWP.goFC q4 cb ?_
    refine AWP.condA ?_ ?_ <;> intro hz
    rotate_left
    · cases hz
    refine AWP.goC cb ?_
    try simp only [List.take_succ_cons, List.take_zero, List.drop_succ_cons, List.drop_zero, keysL, keysA, List.append_nil, List.nil_append, splice_zero_cons, splice_zero_nil, splice_succ, AV.closedAll, AV.closed, Bool.and_true, Bool.and_self]
    refine AWP.ret ?_
    exact ⟨trivial, [], by simp, .tup [Pa (blockP p n 1 0 (IntKind.i64.wrap (now + ticks)) 7), iv 6], rfl, rfl, rfl, rfl⟩
  have q4 : decide (ticks > 0) = false := decide_eq_false hti
  have e : delayP p n ticks now = (queueP p n x, 0) := by simp only [delayP, q0, q1, q2, hx1, Bool.true_and, Bool.false_and, Bool.or_true, Bool.true_or, Bool.or_false, Bool.false_or, Bool.not_true, Bool.not_false, Bool.and_true, Bool.and_false, Bool.and_self, cond_true, cond_false]; rw [if_neg (fun h => h hst), if_neg hti]; rfl
  rw [e]
  have cO := own29O p hs
  have hip := idxP (l := p.procs) hn
  have s1 := stP (cs := [iv p.next]) (q := 8) (t := 3) (v := iv p.next) { x with since := p.next } hx0 rfl rfl rfl (Nat.le_of_ble_eq_true rfl) rfl rfl
  refine AWP.goF q4 ?_
  refine AWP.condA ?_ ?_ <;> intro hz
  · cases hz
  refine AWP.goFC (And.intro hip s1) cO ?_
  try simp only [List.take_succ_cons, List.take_zero, List.drop_succ_cons, List.drop_zero, keysL, keysA, List.append_nil, List.nil_append, splice_zero_cons, splice_zero_nil, splice_succ, AV.closedAll, AV.closed, Bool.and_true, Bool.and_self]
  refine AWP.goF (And.intro hip s1) ?_
  try simp only [List.take_succ_cons, List.take_zero, List.drop_succ_cons, List.drop_zero, keysL, keysA, List.append_nil, List.nil_append, splice_zero_cons, splice_zero_nil, splice_succ, AV.closedAll, AV.closed, Bool.and_true, Bool.and_self]
  refine AWP.goA ?_
  refine AWP.ret ?_
  exact ⟨trivial, [], by simp, .tup [PaM 360 p.procs.length (queueP p n x), iv 0], rfl, by simp [convA, convL, idxIn, hget, lsA, lsL, queueP, setP, List.take_of_length_le], rfl, rfl⟩
/-- ref11.Delay -/
theorem rdelay43 (p : Part) (i ticks now : Int) (hs : Small 1000000 p) : Con Try.prog 43 [Pa p, iv i, iv ticks, iv now] (.tup [Pa (delayP p i ticks now).1, iv (delayP p i ticks now).2]) [] := by
  refine ⟨⟨_, _, Try.func43, rfl, by decide⟩, ICall.of_body' T10_ok ⟨Try.func43, rfl, by decide⟩ (by simp [Try.f43]) ?_⟩
  by_cases h0 : i < 0
  · have q0 : decide (i < 0) = true := decide_eq_true h0
    have qt := thereB_out (p := p) (.inl h0)
    have e : delayP p i ticks now = (p, 3) := by simp only [delayP, qt, Bool.true_and, Bool.false_and, Bool.or_true, Bool.true_or, Bool.or_false, Bool.false_or, Bool.not_true, Bool.not_false, Bool.and_true, Bool.and_false, Bool.and_self, cond_true, cond_false]
    rw [e]
    refine AWP.goF q0 ?_
    refine AWP.condA ?_ ?_ <;> intro hz
    rotate_left
    · cases hz
    refine AWP.goA ?_
    try simp only [List.take_succ_cons, List.take_zero, List.drop_succ_cons, List.drop_zero, keysL, keysA, List.append_nil, List.nil_append, splice_zero_cons, splice_zero_nil, splice_succ, AV.closedAll, AV.closed, Bool.and_true, Bool.and_self]
    refine AWP.ret ?_
    exact ⟨trivial, [], by simp, .tup [Pa p, iv 3], rfl, rfl, rfl, rfl⟩
  have q0 : decide (i < 0) = false := decide_eq_false h0
  by_cases h1 : i ≥ (p.procs.length : Int)
  · have q1 : decide (i ≥ (p.procs.length : Int)) = true := decide_eq_true h1
    have qt := thereB_out (p := p) (.inr h1)
    have e : delayP p i ticks now = (p, 3) := by simp only [delayP, qt, Bool.true_and, Bool.false_and, Bool.or_true, Bool.true_or, Bool.or_false, Bool.false_or, Bool.not_true, Bool.not_false, Bool.and_true, Bool.and_false, Bool.and_self, cond_true, cond_false]
    rw [e]
    refine AWP.goF (And.intro q0 q1) ?_
    refine AWP.condA ?_ ?_ <;> intro hz
    rotate_left
    · cases hz
    refine AWP.goA ?_
    try simp only [List.take_succ_cons, List.take_zero, List.drop_succ_cons, List.drop_zero, keysL, keysA, List.append_nil, List.nil_append, splice_zero_cons, splice_zero_nil, splice_succ, AV.closedAll, AV.closed, Bool.and_true, Bool.and_self]
    refine AWP.ret ?_
    exact ⟨trivial, [], by simp, .tup [Pa p, iv 3], rfl, rfl, rfl, rfl⟩
  have q1 : decide (i ≥ (p.procs.length : Int)) = false := decide_eq_false h1
  obtain ⟨n, rfl⟩ : ∃ n : Nat, i = n := ⟨i.toNat, by omega⟩
  have hn : n < p.procs.length := by omega
  have qt := there_nat hn
  cases q2 : decide (ticks < 0)
  rotate_left
  · have e : delayP p n ticks now = (p, 3) := by simp only [delayP, qt, q2, Bool.true_and, Bool.false_and, Bool.or_true, Bool.true_or, Bool.or_false, Bool.false_or, Bool.not_true, Bool.not_false, Bool.and_true, Bool.and_false, Bool.and_self, cond_true, cond_false]
    rw [e]
    refine AWP.goF (And.intro q0 (And.intro q1 q2)) ?_
    refine AWP.condA ?_ ?_ <;> intro hz
    rotate_left
    · cases hz
    refine AWP.goA ?_
    try simp only [List.take_succ_cons, List.take_zero, List.drop_succ_cons, List.drop_zero, keysL, keysA, List.append_nil, List.nil_append, splice_zero_cons, splice_zero_nil, splice_succ, AV.closedAll, AV.closed, Bool.and_true, Bool.and_self]
    refine AWP.ret ?_
    exact ⟨trivial, [], by simp, .tup [Pa p, iv 3], rfl, rfl, rfl, rfl⟩
  cases q3 : decide (ticks > 4096)
  rotate_left
  · have e : delayP p n ticks now = (p, 3) := by simp only [delayP, qt, q2, q3, Bool.true_and, Bool.false_and, Bool.or_true, Bool.true_or, Bool.or_false, Bool.false_or, Bool.not_true, Bool.not_false, Bool.and_true, Bool.and_false, Bool.and_self, cond_true, cond_false]
    rw [e]
    refine AWP.goF (And.intro q0 (And.intro q1 (And.intro q2 q3))) ?_
    refine AWP.condA ?_ ?_ <;> intro hz
    rotate_left
    · cases hz
    refine AWP.goA ?_
    try simp only [List.take_succ_cons, List.take_zero, List.drop_succ_cons, List.drop_zero, keysL, keysA, List.append_nil, List.nil_append, splice_zero_cons, splice_zero_nil, splice_succ, AV.closedAll, AV.closed, Bool.and_true, Bool.and_self]
    refine AWP.ret ?_
    exact ⟨trivial, [], by simp, .tup [Pa p, iv 3], rfl, rfl, rfl, rfl⟩
  obtain ⟨x, hx⟩ : ∃ x, p.procs[n] = x := ⟨_, rfl⟩
  have hx0 : p.procs[n]? = some x := by rw [List.getElem?_eq_getElem hn, hx]
  have hx1 : p.procs[(n : Int).toNat]? = some x := hx0
  have hix := idx29 (l := p.procs) hn
  rw [hx] at hix
  simp only [encProc] at hix
  refine AWP.goF (And.intro q0 (And.intro q1 (And.intro q2 q3))) ?_
  refine AWP.condA ?_ ?_ <;> intro hz
  · cases hz
  by_cases hst : x.state = 1
  rotate_left
  · have q4 : (x.state != 1) = true := by simpa using hst
    have e : delayP p n ticks now = (p, 4) := by simp only [delayP, qt, q2, q3, hx1, Bool.true_and, Bool.false_and, Bool.or_true, Bool.true_or, Bool.or_false, Bool.false_or, Bool.not_true, Bool.not_false, Bool.and_true, Bool.and_false, Bool.and_self, cond_true, cond_false]; rw [if_pos hst]
    rw [e]
    refine AWP.goF (And.intro hix q4) ?_
    try simp only [List.take_succ_cons, List.take_zero, List.drop_succ_cons, List.drop_zero, keysL, keysA, List.append_nil, List.nil_append, splice_zero_cons, splice_zero_nil, splice_succ, AV.closedAll, AV.closed, Bool.and_true, Bool.and_self]
    refine AWP.goF (And.intro hix q4) ?_
    refine AWP.condA ?_ ?_ <;> intro hz
    rotate_left
    · cases hz
    refine AWP.goA ?_
    try simp only [List.take_succ_cons, List.take_zero, List.drop_succ_cons, List.drop_zero, keysL, keysA, List.append_nil, List.nil_append, splice_zero_cons, splice_zero_nil, splice_succ, AV.closedAll, AV.closed, Bool.and_true, Bool.and_self]
    refine AWP.ret ?_
    exact ⟨trivial, [], by simp, .tup [Pa p, iv 4], rfl, rfl, rfl, rfl⟩
  have q4 : (x.state != 1) = false := by simpa using hst
  refine AWP.goF (And.intro hix q4) ?_
  try simp only [List.take_succ_cons, List.take_zero, List.drop_succ_cons, List.drop_zero, keysL, keysA, List.append_nil, List.nil_append, splice_zero_cons, splice_zero_nil, splice_succ, AV.closedAll, AV.closed, Bool.and_true, Bool.and_self]
  refine AWP.goF (And.intro hix q4) ?_
  refine AWP.condA ?_ ?_ <;> intro hz
  · cases hz
  by_cases hti : ticks = 0
  · have q5 : (ticks == 0) = true := by simpa using hti
    have e : delayP p n ticks now = (queueP p n x, 0) := by simp only [delayP, qt, q2, q3, hx1, Bool.true_and, Bool.false_and, Bool.or_true, Bool.true_or, Bool.or_false, Bool.false_or, Bool.not_true, Bool.not_false, Bool.and_true, Bool.and_false, Bool.and_self, cond_true, cond_false]; rw [if_neg (fun h => h hst), if_neg (by omega)]; rfl
    rw [e]
    have cw := with79 { p with next := nextP p } n { x with since := p.next } hs.procs hn
    simp only [encProc, setP] at cw
    refine AWP.goF q5 ?_
    refine AWP.condA ?_ ?_ <;> intro hz
    rotate_left
    · cases hz
    refine AWP.goA ?_
    try simp only [List.take_succ_cons, List.take_zero, List.drop_succ_cons, List.drop_zero, keysL, keysA, List.append_nil, List.nil_append, splice_zero_cons, splice_zero_nil, splice_succ, AV.closedAll, AV.closed, Bool.and_true, Bool.and_self]
    refine AWP.goC cw ?_
    try simp only [List.take_succ_cons, List.take_zero, List.drop_succ_cons, List.drop_zero, keysL, keysA, List.append_nil, List.nil_append, splice_zero_cons, splice_zero_nil, splice_succ, AV.closedAll, AV.closed, Bool.and_true, Bool.and_self]
    refine AWP.ret ?_
    exact ⟨trivial, [], by simp, .tup [Pa (queueP p n x), iv 0], rfl, rfl, rfl, rfl⟩
  have q5 : (ticks == 0) = false := by simpa using hti
  have hti2 : 0 < ticks := by have := of_decide_eq_false q2; omega
  have e : delayP p n ticks now = (blockP p n 1 0 (IntKind.i64.wrap (now + ticks)) 7, 6) := by simp only [delayP, qt, q2, q3, hx1, Bool.true_and, Bool.false_and, Bool.or_true, Bool.true_or, Bool.or_false, Bool.false_or, Bool.not_true, Bool.not_false, Bool.and_true, Bool.and_false, Bool.and_self, cond_true, cond_false]; rw [if_neg (fun h => h hst), if_pos hti2]; rfl
  rw [e]
  have cb := rblock22 p n 1 0 (IntKind.i64.wrap (now + ticks)) 7 hs.procs
  rw [opQ_in _ p n hn] at cb
  refine AWP.goF q5 ?_
  refine AWP.condA ?_ ?_ <;> intro hz
  · cases hz
  refine AWP.goC cb ?_
  try simp only [List.take_succ_cons, List.take_zero, List.drop_succ_cons, List.drop_zero, keysL, keysA, List.append_nil, List.nil_append, splice_zero_cons, splice_zero_nil, splice_succ, AV.closedAll, AV.closed, Bool.and_true, Bool.and_self]
  refine AWP.ret ?_
  exact ⟨trivial, [], by simp, .tup [Pa (blockP p n 1 0 (IntKind.i64.wrap (now + ticks)) 7), iv 6], rfl, rfl, rfl, rfl⟩
end Go.Qd
