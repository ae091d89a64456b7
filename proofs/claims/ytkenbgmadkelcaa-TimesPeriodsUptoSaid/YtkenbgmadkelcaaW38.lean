/- A part of the library of this claim: rules of an abstract machine (values in place of addresses), proved against the model, and contracts of the functions. -/
import Derived.Test.YtkenbgmadkelcaaW37
set_option linter.unusedVariables false
set_option linter.unusedSimpArgs false
set_option maxHeartbeats 4000000
set_option maxRecDepth 10000
namespace Go.Qd
open Go Go.Proofs
/-! ### What waking does to one process -/
theorem wokeGo_self {k : Nat} {x : Proc} {q : Part} (hx : q.procs[k]? = some x) (hs : x.state = 2) : ∃ y, (wokeGo k x q).procs[k]? = some y ∧ y.state = 1 ∧ y.code = (bif outB x then 5 else 0) := by
  have hk : k < q.procs.length := by
    rcases Nat.lt_or_ge k q.procs.length with h | h
    · exact h
    · rw [List.getElem?_eq_none h] at hx; cases hx
  have hx2 : (bif outB x then leaveP (k : Int) q else q).procs[k]? = some x := by cases outB x <;> exact hx
  have hl : (bif outB x then leaveP (k : Int) q else q).procs.length = q.procs.length := by cases outB x <;> rfl
  unfold wokeGo goP
  simp only [hx2]
  rw [if_pos hs]
  simp only [queueP]
  exact ⟨_, List.getElem?_set_self (by rw [hl]; exact hk), rfl, rfl⟩
theorem wakeOne_self {c : Conf} {now : Int} {k : Nat} {x : Proc} {q : Part} (hx : q.procs[k]? = some x) (hs : x.state = 2) : ∃ y, (wakeOne c now k x q).procs[k]? = some y ∧ y.state = 1 ∧
    (x.kind = 2 → ∀ f, c.procs[k]? = some f → y.next = IntKind.i64.wrap (x.till + f.period) ∧ y.due = behindP now f.limit ∧ y.code = 0) := by
  obtain ⟨y, h1, h2, h3⟩ := wokeGo_self hx hs
  have hk : k < (wokeGo k x q).procs.length := by
    rcases Nat.lt_or_ge k (wokeGo k x q).procs.length with h | h
    · exact h
    · rw [List.getElem?_eq_none h] at h1; cases h1
  unfold wakeOne
  by_cases hk2 : x.kind = 2
  · rw [if_pos hk2]
    have ho : outB x = false := by simp [outB, hk2]
    rw [ho] at h3
    cases hf : c.procs[k]? with
    | none => exact ⟨y, h1, h2, fun _ f h => by cases h⟩
    | some f =>
      simp only [h1]
      refine ⟨_, List.getElem?_set_self hk, h2, fun _ f' h => ?_⟩
      injection h with h; subst h
      exact ⟨rfl, rfl, h3⟩
  · rw [if_neg hk2]
    exact ⟨y, h1, h2, fun h => absurd h hk2⟩
theorem wake_later (c : Conf) (now : Int) (p : Part) (k : Nat) : ∀ m, k < m → m ≤ p.procs.length → (wakeSt c now p (wokeL now p m)).procs[k]? = (wakeSt c now p (wokeL now p (k + 1))).procs[k]? := by
  intro m
  induction m with
  | zero => intro h; omega
  | succ m ih =>
    intro h1 h2
    by_cases hkm : k = m
    · subst hkm; rfl
    · rw [wokeL_succ now p m (by omega)]
      have := ih (by omega) (by omega)
      split
      · rw [wakeSt_snoc, wakeOne_oth _ _ _ _ _ _ (by exact hkm)]; exact this
      · rw [List.append_nil]; exact this
theorem wake_get {c : Conf} {now : Int} {p : Part} {k : Nat} (hk : k < p.procs.length) : (wokeB now p.procs[k] = false → (wakeP c now p).procs[k]? = some p.procs[k]) ∧
    (wokeB now p.procs[k] = true → ∃ y, (wakeP c now p).procs[k]? = some y ∧ y.state = 1 ∧ (p.procs[k].kind = 2 → ∀ f, c.procs[k]? = some f → y.next = IntKind.i64.wrap (p.procs[k].till + f.period) ∧ y.due = behindP now f.limit ∧ y.code = 0)) := by
  have h := wake_later c now p k p.procs.length hk (Nat.le_refl _)
  rw [wake_all, wokeL_succ now p k hk] at h
  have h0 := wake_at (c := c) (now := now) hk
  constructor
  · intro hb
    rw [hb] at h
    simp only [Bool.false_eq_true, if_false, List.append_nil] at h
    rw [h]; exact h0
  · intro hb
    rw [hb] at h
    simp only [if_true] at h
    rw [wakeSt_snoc] at h
    have hs : p.procs[k].state = 2 := by
      simp only [wokeB, Bool.and_eq_true, beq_iff_eq] at hb
      exact hb.1
    obtain ⟨y, g1, g2, g3⟩ := wakeOne_self (c := c) (now := now) h0 hs
    exact ⟨y, h.trans g1, g2, g3⟩
theorem wakeP_len {p : Part} (hs : Small 1000000 p) (c : Conf) (now : Int) : (wakeP c now p).procs.length = p.procs.length := wakeSt_len hs c now _
theorem wakeP_small {p : Part} (hs : Small 1000000 p) (c : Conf) (now : Int) : Small 1000000 (wakeP c now p) := wakeSt_small hs c now _
theorem wrap_id {n : Int} (h1 : -9223372036854775808 ≤ n) (h2 : n < 9223372036854775808) : IntKind.i64.wrap n = n := by rw [IntKind.wrap_i64]; omega
/-! ### What a delay, a wait for a release, another deadline come to -/
theorem delay_cases {p : Part} {i ticks now : Int} : (((delayP p i ticks now).2 = 3 ∨ (delayP p i ticks now).2 = 4) ∧ (delayP p i ticks now).1 = p) ∨
    ∃ n : Nat, ∃ hn : n < p.procs.length, i = n ∧ 0 ≤ ticks ∧ ticks ≤ 4096 ∧ p.procs[n].state = 1 ∧ ((ticks = 0 ∧ delayP p i ticks now = (queueP p n p.procs[n], 0)) ∨
      (0 < ticks ∧ delayP p i ticks now = (setP p n { p.procs[n] with state := 2, kind := 1, obj := 0, till := IntKind.i64.wrap (now + ticks), call := 7 }, 6))) := by
  unfold delayP
  cases q0 : thereB p i
  · exact .inl ⟨.inl rfl, rfl⟩
  cases q1 : decide (ticks < 0)
  rotate_left
  · exact .inl ⟨.inl rfl, rfl⟩
  cases q2 : decide (ticks > 4096)
  rotate_left
  · exact .inl ⟨.inl rfl, rfl⟩
  obtain ⟨n, rfl, hn⟩ := there_true q0
  have t1 := of_decide_eq_false q1
  have t2 := of_decide_eq_false q2
  have hx : p.procs[(n : Int).toNat]? = some p.procs[n] := List.getElem?_eq_getElem hn
  simp only [Bool.not_true, Bool.false_or, cond_false, hx]
  by_cases hs : p.procs[n].state = 1
  · rw [if_neg (fun h => h hs)]
    right
    refine ⟨n, hn, rfl, by omega, by omega, hs, ?_⟩
    by_cases ht : 0 < ticks
    · right
      refine ⟨ht, ?_⟩
      rw [if_pos ht]
      have hb : blockP p n 1 0 (IntKind.i64.wrap (now + ticks)) 7 = setP p n { p.procs[n] with state := 2, kind := 1, obj := 0, till := IntKind.i64.wrap (now + ticks), call := 7 } := by
        unfold blockP; rw [List.getElem?_eq_getElem hn]; simp only; rw [if_pos hs]
      show (blockP p n 1 0 (IntKind.i64.wrap (now + ticks)) 7, 6) = _
      rw [hb]
    · left
      refine ⟨by omega, ?_⟩
      rw [if_neg ht]; rfl
  · rw [if_pos hs]
    exact .inl ⟨.inr rfl, rfl⟩
theorem period_cases {c : Conf} {p : Part} {i : Int} : (((periodP c p i).2 = 3 ∨ (periodP c p i).2 = 4) ∧ (periodP c p i).1 = p) ∨
    ∃ n : Nat, ∃ hn : n < p.procs.length, ∃ hc : n < c.procs.length, i = n ∧ periodP c p i = (setP p n (perX p.procs[n]), 6) := by
  unfold periodP
  cases q0 : thereB p i
  · exact .inl ⟨.inl rfl, rfl⟩
  cases q1 : decide (i ≥ (c.procs.length : Int))
  rotate_left
  · exact .inl ⟨.inl rfl, rfl⟩
  obtain ⟨n, rfl, hn⟩ := there_true q0
  have t1 := of_decide_eq_false q1
  have hc : n < c.procs.length := by omega
  have hx : p.procs[(n : Int).toNat]? = some p.procs[n] := List.getElem?_eq_getElem hn
  have hf : c.procs[(n : Int).toNat]? = some c.procs[n] := List.getElem?_eq_getElem hc
  simp only [Bool.not_true, Bool.false_or, cond_false, hx, hf]
  by_cases hs : c.procs[n].period = 0 ∨ p.procs[n].state ≠ 1
  · rw [if_pos hs]
    exact .inl ⟨.inr rfl, rfl⟩
  · rw [if_neg hs]
    exact .inr ⟨n, hn, hc, rfl, rfl⟩
theorem repl_cases {c : Conf} {p : Part} {i ticks now : Int} : ((replP c p i ticks now).2 = 3 ∨ (replP c p i ticks now).2 = 1) ∨
    ∃ n : Nat, ∃ hn : n < p.procs.length, i = n ∧ 1 ≤ ticks ∧ ticks ≤ 4096 ∧ p.procs[n].state ≠ 0 ∧ replP c p i ticks now = (setP p n { p.procs[n] with due := IntKind.i64.wrap (now + ticks) }, 0) := by
  unfold replP
  cases q0 : thereB p i
  · exact .inl (.inl rfl)
  cases q1 : decide (i ≥ (c.procs.length : Int))
  rotate_left
  · exact .inl (.inl rfl)
  cases q2 : decide (ticks < 1)
  rotate_left
  · exact .inl (.inl rfl)
  cases q3 : decide (ticks > 4096)
  rotate_left
  · exact .inl (.inl rfl)
  obtain ⟨n, rfl, hn⟩ := there_true q0
  have t1 := of_decide_eq_false q1
  have t2 := of_decide_eq_false q2
  have t3 := of_decide_eq_false q3
  have hc : n < c.procs.length := by omega
  have hx : p.procs[(n : Int).toNat]? = some p.procs[n] := List.getElem?_eq_getElem hn
  have hf : c.procs[(n : Int).toNat]? = some c.procs[n] := List.getElem?_eq_getElem hc
  simp only [Bool.not_true, Bool.false_or, cond_false, hx, hf]
  by_cases hs : c.procs[n].limit = 0 ∨ p.procs[n].state = 0
  · rw [if_pos hs]
    exact .inl (.inr rfl)
  · rw [if_neg hs]
    exact .inr ⟨n, hn, rfl, by omega, by omega, fun h => hs (.inr h), rfl⟩
end Go.Qd
