/- A part of the library of this claim: rules of an abstract machine (values in place of addresses), proved against the model, and contracts of the functions. -/
import Derived.Test.YtkenbgmadkelcaaLP13
import Derived.Test.YtkenbgmadkelcaaLP14
import Derived.Test.YtkenbgmadkelcaaW38
set_option linter.unusedVariables false
set_option linter.unusedSimpArgs false
set_option maxHeartbeats 8000000
set_option maxRecDepth 10000
namespace Go.Qd
open Go Go.Proofs
theorem lateB_at {t : Int} {x : Proc} {d : Int} (h0 : x.state ≠ 0) (h2 : x.state ≠ 2) (hd : 0 ≤ d) : lateB t { x with due := d } = decide (d ≤ t) := by
  have b1 : (x.state == 0) = false := by simpa using h0
  have b2 : (x.state == 2) = false := by simpa using h2
  have b3 : decide (d ≥ 0) = true := decide_eq_true hd
  simp [lateB, b1, b2, b3]
theorem mem_lateL {t : Int} {p : Part} {n : Nat} (hn : n < p.procs.length) : (n : Int) ∈ lateL t p ↔ lateB t p.procs[n] = true := by
  unfold lateL
  rw [List.mem_map]
  constructor
  · rintro ⟨k, hk, e⟩
    have e2 : k = n := by exact_mod_cast e
    subst e2
    obtain ⟨_, hb⟩ := mem_lateK.1 hk
    exact hb
  · intro hb
    exact ⟨n, mem_lateK.2 ⟨hn, hb⟩, rfl⟩
/-- law11.TimesReplenished -/
theorem law15 (c : Conf) (p : Part) (i ticks now : Int) (hf : Fits10 p) : Con Try.prog 15 [Cf c, Pa p, iv i, iv ticks, iv now] (.bool true) [] := by
  refine ⟨⟨_, _, Try.func15, rfl, by decide⟩, ICall.of_body' T10_ok ⟨Try.func15, rfl, by decide⟩ (by simp [Try.f15]) ?_⟩
  have c17 := few17 p hf
  by_cases hfew : fewP p
  rotate_left
  · rw [decide_eq_false hfew] at c17
    refine AWP.goC (And.intro awake34 c17) ?_
    refine AWP.condA ?_ ?_ <;> intro hz
    · refine AWP.goA ?_
      refine AWP.ret ?_
      exact ⟨trivial, [], by simp, .bool true, rfl, rfl, rfl, rfl⟩
    · cases hz
  rw [decide_eq_true hfew] at c17
  have hs := hfew.small
  by_cases q0 : (c.procs.length : Int) > 20
  · have q0b : decide ((c.procs.length : Int) > 20) = true := decide_eq_true q0
    refine AWP.goFC (q0b) (And.intro awake34 c17) ?_
    refine AWP.condA ?_ ?_ <;> intro hz
    · refine AWP.goA ?_
      refine AWP.ret ?_
      exact ⟨trivial, [], by simp, .bool true, rfl, rfl, rfl, rfl⟩
    · cases hz
  have q0b : decide ((c.procs.length : Int) > 20) = false := decide_eq_false q0
  by_cases q1 : now < 0
  · have q1b : decide (now < 0) = true := decide_eq_true q1
    refine AWP.goFC (And.intro q0b (q1b)) (And.intro awake34 c17) ?_
    refine AWP.condA ?_ ?_ <;> intro hz
    · refine AWP.goA ?_
      refine AWP.ret ?_
      exact ⟨trivial, [], by simp, .bool true, rfl, rfl, rfl, rfl⟩
    · cases hz
  have q1b : decide (now < 0) = false := decide_eq_false q1
  refine AWP.goFC (And.intro q0b (q1b)) (And.intro awake34 c17) ?_
  refine AWP.condA ?_ ?_ <;> intro hz
  · refine AWP.goA ?_
    refine AWP.ret ?_
    exact ⟨trivial, [], by simp, .bool true, rfl, rfl, rfl, rfl⟩
  have q2 : ¬ (now > 1099511627776) := by simpa using hz
  have cr := repl44 c p i ticks now hs
  have hrc := repl_cases (c := c) (p := p) (i := i) (ticks := ticks) (now := now)
  obtain ⟨r, hr⟩ : ∃ r, replP c p i ticks now = r := ⟨_, rfl⟩
  rw [hr] at cr hrc
  rcases hrc with hcode | ⟨n, hn, rfl, ht1, ht2, hst, hrq⟩
  · have b1 : (r.2 != 0) = true := by rcases hcode with h | h <;> rw [h] <;> rfl
    refine AWP.goC cr ?_
    try simp only [List.take_succ_cons, List.take_zero, List.drop_succ_cons, List.drop_zero, keysL, keysA, List.append_nil, List.nil_append, splice_zero_cons, splice_zero_nil, splice_succ, AV.closedAll, AV.closed, Bool.and_true, Bool.and_self]
    refine AWP.goFC b1 cr ?_
    refine AWP.condA ?_ ?_ <;> intro hz2
    rotate_left
    · cases hz2
    refine AWP.goF b1 ?_
    refine AWP.ret ?_
    exact ⟨trivial, [], by simp, .bool true, rfl, rfl, rfl, rfl⟩
  obtain ⟨x, hx⟩ : ∃ x, p.procs[n] = x := ⟨_, rfl⟩
  rw [hx] at hst hrq
  have hw0 : IntKind.i64.wrap (now + ticks) = now + ticks := wrap_id (by omega) (by omega)
  have hw1 : IntKind.i64.wrap (now + ticks - 1) = now + ticks - 1 := wrap_id (by omega) (by omega)
  rw [hw0] at hrq
  subst hrq
  have hsq : Small 1000000 (setP p n { x with due := now + ticks }) := small_setP hs _ _
  have hql : (setP p n { x with due := now + ticks }).procs.length = p.procs.length := by simp [setP]
  have hqn : n < (setP p n { x with due := now + ticks }).procs.length := by omega
  have hqx : (setP p n { x with due := now + ticks }).procs[n] = { x with due := now + ticks } := by simp [setP]
  obtain ⟨q, hq⟩ : ∃ q, setP p n { x with due := now + ticks } = q := ⟨_, rfl⟩
  simp only [hq] at cr hsq hql hqn hqx
  have ca := late39 q (now + ticks - 1) hsq
  have cb := late39 q (now + ticks) hsq
  have b0 : ((0 : Int) != 0) = false := rfl
  have b1 : decide ((n : Int) < 0) = false := by simp
  have b2 : decide ((n : Int) ≥ (p.procs.length : Int)) = false := decide_eq_false (by omega)
  have b2r : decide ((n : Int) < (p.procs.length : Int)) = true := decide_eq_true (by omega)
  have b2s : decide ((n : Int) ≥ 0) = true := decide_eq_true (by omega)
  have hin := idx29 (l := p.procs) hn
  rw [hx] at hin
  simp only [encProc] at hin
  by_cases hs2 : x.state = 2
  · have b3 : (x.state == 2) = true := by simpa using hs2
    refine AWP.goC cr ?_
    try simp only [List.take_succ_cons, List.take_zero, List.drop_succ_cons, List.drop_zero, keysL, keysA, List.append_nil, List.nil_append, splice_zero_cons, splice_zero_nil, splice_succ, AV.closedAll, AV.closed, Bool.and_true, Bool.and_self]
    refine AWP.goFC (And.intro hin (And.intro b0 (And.intro b1 (And.intro b2 b3)))) cr ?_
    refine AWP.condA ?_ ?_ <;> intro hz2
    rotate_left
    · cases hz2
    refine AWP.goF (And.intro b0 (And.intro b2r b2s)) ?_
    refine AWP.ret ?_
    exact ⟨trivial, [], by simp, .bool true, rfl, rfl, rfl, rfl⟩
  have b3 : (x.state == 2) = false := by simpa using hs2
  have hA : ∀ k (h : k < (lateL (now + ticks - 1) q).length), ((lateL (now + ticks - 1) q)[k] == (n : Int)) = false := by
    intro k h
    have hm : (lateL (now + ticks - 1) q)[k] ∈ lateL (now + ticks - 1) q := List.getElem_mem h
    have hno : ¬ (n : Int) ∈ lateL (now + ticks - 1) q := by
      rw [mem_lateL hqn, hqx, lateB_at hst hs2 (by omega)]
      simp; omega
    have : (lateL (now + ticks - 1) q)[k] ≠ (n : Int) := fun e => hno (e ▸ hm)
    simpa using this
  have hB : (n : Int) ∈ lateL (now + ticks) q := by
    rw [mem_lateL hqn, hqx, lateB_at hst hs2 (by omega)]
    simp
  have hla := lateL_len (now + ticks - 1) q
  have hlb := lateL_len (now + ticks) q
  obtain ⟨a, ha⟩ : ∃ a, lateL (now + ticks - 1) q = a := ⟨_, rfl⟩
  obtain ⟨b, hb⟩ : ∃ b, lateL (now + ticks) q = b := ⟨_, rfl⟩
  obtain ⟨qa, hqa⟩ : ∃ qa, lateP (now + ticks - 1) q = qa := ⟨_, rfl⟩
  obtain ⟨qb, hqb⟩ : ∃ qb, lateP (now + ticks) q = qb := ⟨_, rfl⟩
  simp only [ha] at hA hla
  simp only [hb] at hB hlb
  rw [ha, hqa] at ca
  rw [hb, hqb] at cb
  have hpl := hs.procs
  refine AWP.goC cr ?_
  try simp only [List.take_succ_cons, List.take_zero, List.drop_succ_cons, List.drop_zero, keysL, keysA, List.append_nil, List.nil_append, splice_zero_cons, splice_zero_nil, splice_succ, AV.closedAll, AV.closed, Bool.and_true, Bool.and_self]
  refine AWP.goFC (And.intro hin (And.intro b0 (And.intro b1 (And.intro b2 b3)))) cr ?_
  refine AWP.condA ?_ ?_ <;> intro hz2
  · cases hz2
  refine AWP.goFC (And.intro hw0 hw1) (And.intro ca cb) ?_
  try simp only [List.take_succ_cons, List.take_zero, List.drop_succ_cons, List.drop_zero, keysL, keysA, List.append_nil, List.nil_append, splice_zero_cons, splice_zero_nil, splice_succ, AV.closedAll, AV.closed, Bool.and_true, Bool.and_self]
  refine AWP.goFC (And.intro hw0 hw1) (And.intro ca cb) ?_
  try simp only [List.take_succ_cons, List.take_zero, List.drop_succ_cons, List.drop_zero, keysL, keysA, List.append_nil, List.nil_append, splice_zero_cons, splice_zero_nil, splice_succ, AV.closedAll, AV.closed, Bool.and_true, Bool.and_self]
  refine AWP.goA ?_
  refine AWP.loopT (fun k : Nat => ⟨0, Try.f15.ntmps, [(2, iv n), (15, Il a), (17, Il b), (19, .bool false), (20, iv k)], [], []⟩) (fun k => k ≤ a.length) (fun k => a.length - k) 0 (by simp)
    (Thin.to [40, 48, 104, 128, 144] rfl rfl rfl rfl rfl (by simp [envIn, eget, eput]) (by simp [killsH, killH, killO])) ?_
  have hld := (fun (h : Heap) (n : Int) => show aload T10 h 3 (.vptr (encI n)) = some (.pure (iv n)) from rfl)
  rintro k hk
  refine AWP.goA ?_
  refine AWP.condA ?_ ?_ <;> intro hc1
  · have hkl : k < a.length := by simpa using hc1
    have hw := wrap_succ (show k < 9223372036854775807 by omega)
    have hik := idx26 (l := a) hkl
    have b6 := hA k hkl
    refine AWP.goF (And.intro hw (And.intro hik (And.intro hld b6))) ?_
    exact ⟨k + 1, by omega, by omega, Thin.to [] rfl rfl rfl rfl rfl (by simp [envIn, eget]) rfl⟩
  refine AWP.goA ?_
  refine AWP.loopT (fun k : Nat × Bool => ⟨0, Try.f15.ntmps, [(2, iv n), (17, Il b), (19, .bool false), (21, .bool k.2), (22, iv k.1)], [], []⟩) (fun k => k.1 ≤ b.length ∧ (k.2 = true ↔ (n : Int) ∈ b.take k.1)) (fun k => b.length - k.1) (0, false) ⟨by simp, by simp⟩
    (Thin.to [] rfl rfl rfl rfl rfl (by simp [envIn, eget, eput]) (by simp [killsH])) ?_
  rintro ⟨k, f⟩ ⟨hk2, hf2⟩
  simp only at hk2 hf2
  refine AWP.goA ?_
  refine AWP.condA ?_ ?_ <;> intro hc2
  · have hkl : k < b.length := by simpa using hc2
    have hw := wrap_succ (show k < 9223372036854775807 by omega)
    have hik := idx26 (l := b) hkl
    cases f
    · cases b6 : (b[k] == (n : Int))
      · refine AWP.goF (And.intro hw (And.intro hik (And.intro hld b6))) ?_
        refine ⟨(k + 1, false), ⟨by show k + 1 ≤ b.length; omega, ?_⟩, by show b.length - (k + 1) < b.length - k; omega, Thin.to [] rfl rfl rfl rfl rfl (by simp [envIn, eget]) rfl⟩
        have hne : b[k] ≠ (n : Int) := by simpa using b6
        rw [List.take_succ_eq_append_getElem hkl, List.mem_append]
        constructor
        · intro h; cases h
        · rintro (h | h)
          · exact hf2.2 h
          · exact absurd (List.mem_singleton.1 h).symm hne
      · refine AWP.goF (And.intro hw (And.intro hik (And.intro hld b6))) ?_
        refine ⟨(k + 1, true), ⟨by show k + 1 ≤ b.length; omega, ?_⟩, by show b.length - (k + 1) < b.length - k; omega, Thin.to [] rfl rfl rfl rfl rfl (by simp [envIn, eget]) rfl⟩
        have hne : b[k] = (n : Int) := by simpa using b6
        rw [List.take_succ_eq_append_getElem hkl, List.mem_append]
        exact ⟨fun _ => .inr (by rw [hne]; simp), fun _ => rfl⟩
    · refine AWP.goF hw ?_
      refine ⟨(k + 1, true), ⟨by show k + 1 ≤ b.length; omega, ?_⟩, by show b.length - (k + 1) < b.length - k; omega, Thin.to [] rfl rfl rfl rfl rfl (by simp [envIn, eget]) rfl⟩
      rw [List.take_succ_eq_append_getElem hkl, List.mem_append]
      exact ⟨fun _ => .inl (hf2.1 rfl), fun _ => rfl⟩
  have hkl : ¬ k < b.length := by
    intro h
    rw [decide_eq_true (by exact_mod_cast h)] at hc2
    cases hc2
  have hft : f = true := hf2.2 (by rw [List.take_of_length_le (by omega)]; exact hB)
  subst hft
  refine AWP.goA ?_
  refine AWP.ret ?_
  exact ⟨trivial, [], by simp, .bool true, rfl, rfl, rfl, rfl⟩
end Go.Qd
