/- A part of the library of this claim: rules of an abstract machine (values in place of addresses), proved against the model, and contracts of the functions. -/
import Derived.Test.YtkenbgmadkelcaaLP12
set_option linter.unusedVariables false
set_option linter.unusedSimpArgs false
set_option maxHeartbeats 8000000
set_option maxRecDepth 10000
namespace Go.Qd
open Go Go.Proofs
theorem mem_lateK {now : Int} {p : Part} {n : Nat} : n ∈ lateK now p ↔ ∃ h : n < p.procs.length, lateB now p.procs[n] = true := by
  unfold lateK
  rw [List.mem_map]
  constructor
  · rintro ⟨k, hk, rfl⟩
    exact ⟨k.isLt, (List.mem_filter.1 hk).2⟩
  · rintro ⟨h, hb⟩
    exact ⟨⟨n, h⟩, List.mem_filter.2 ⟨List.mem_finRange _, hb⟩, rfl⟩
theorem lateOne_get (l : List Proc) (k n : Nat) : (lateOne l k)[n]? = if n = k then (l[n]?).map (fun y => { y with due := -1 }) else l[n]? := by
  by_cases h : n = k
  · subst h
    rw [if_pos rfl]
    unfold lateOne
    cases hy : l[n]? with
    | none => simp [hy]
    | some y =>
      have hn : n < l.length := by
        rcases Nat.lt_or_ge n l.length with h | h
        · exact h
        · rw [List.getElem?_eq_none h] at hy; cases hy
      simp [hn]
  · rw [if_neg h]; exact lateOne_oth l k n h
theorem lateAll_get (n : Nat) (ks : List Nat) : ∀ l : List Proc, (lateAll l ks)[n]? = if n ∈ ks then (l[n]?).map (fun y => { y with due := -1 }) else l[n]? := by
  induction ks with
  | nil => intro l; rfl
  | cons k r ih =>
    intro l
    show (lateAll (lateOne l k) r)[n]? = _
    rw [ih, lateOne_get]
    by_cases h : n = k
    · subst h
      by_cases hr : n ∈ r <;> simp [hr, Option.map_map, Function.comp_def]
    · by_cases hr : n ∈ r <;> simp [h, hr]
theorem lateP_get (now : Int) (p : Part) (n : Nat) : (lateP now p).procs[n]? = if n ∈ lateK now p then (p.procs[n]?).map (fun y => { y with due := -1 }) else p.procs[n]? := lateAll_get n _ _
theorem lateB_no {t : Int} {y : Proc} (h : y.due < 0) : lateB t y = false := by
  have : decide (y.due ≥ 0) = false := decide_eq_false (by omega)
  simp [lateB, this]

/-- Who was told is not told again. -/
theorem late_once {now later : Int} {p : Part} {n : Nat} (h : n ∈ lateK now p) : n ∉ lateK later (lateP now p) := by
  intro h2
  obtain ⟨hn, hb⟩ := mem_lateK.1 h2
  have hg := lateP_get now p n
  rw [if_pos h, List.getElem?_eq_getElem hn] at hg
  obtain ⟨hn0, _⟩ := mem_lateK.1 h
  rw [List.getElem?_eq_getElem hn0] at hg
  simp only [Option.map_some, Option.some.injEq] at hg
  rw [hg, lateB_no (by simp)] at hb
  cases hb
theorem late_none (now : Int) (p : Part) : lateK now (lateP now p) = [] := by
  rw [List.eq_nil_iff_forall_not_mem]
  intro n h2
  by_cases h : n ∈ lateK now p
  · exact late_once h h2
  · obtain ⟨hn, hb⟩ := mem_lateK.1 h2
    have hg := lateP_get now p n
    rw [if_neg h, List.getElem?_eq_getElem hn] at hg
    have hn0 : n < p.procs.length := by
      have : (lateP now p).procs.length = p.procs.length := lateAll_len _ _
      omega
    rw [List.getElem?_eq_getElem hn0] at hg
    injection hg with hg
    rw [hg] at hb
    exact h (mem_lateK.2 ⟨hn0, hb⟩)
theorem lateB_spec {now : Int} {x : Proc} (h : lateB now x = true) : x.state ≠ 0 ∧ 0 ≤ x.due ∧ x.due ≤ now := by
  simp only [lateB, Bool.and_eq_true, Bool.not_eq_true', Bool.or_eq_false_iff, decide_eq_true_eq] at h
  refine ⟨?_, by omega, by omega⟩
  have := h.1.1
  simpa using this
theorem lateL_len (now : Int) (p : Part) : (lateL now p).length ≤ p.procs.length := by
  have := lateK_len now p
  simpa [lateL] using this
/-- law11.TimesOnce -/
theorem law13 (p : Part) (now later : Int) (hf : Fits10 p) : Con Try.prog 13 [Pa p, iv now, iv later] (.bool true) [] := by
  refine ⟨⟨_, _, Try.func13, rfl, by decide⟩, ICall.of_body' T10_ok ⟨Try.func13, rfl, by decide⟩ (by simp [Try.f13]) ?_⟩
  have c17 := few17 p hf
  by_cases hfew : fewP p
  rotate_left
  · rw [decide_eq_false hfew] at c17
    refine AWP.goC (And.intro awake34 c17) ?_
    refine AWP.condA ?_ ?_ <;> intro hz
    · refine AWP.goA ?_
      refine AWP.ret ?_
      exact ⟨trivial, [], by simp, .bool true, rfl, rfl, rfl, rfl⟩
    · cases hz
  rw [decide_eq_true hfew] at c17
  have hs := hfew.small
  refine AWP.goC (And.intro awake34 c17) ?_
  refine AWP.condA ?_ ?_ <;> intro hz
  · refine AWP.goA ?_
    refine AWP.ret ?_
    exact ⟨trivial, [], by simp, .bool true, rfl, rfl, rfl, rfl⟩
  have q0 : ¬ (later < now) := by simpa using hz
  have cl := late39 p now hs
  have hsq := small_lateP hs now
  have cm := late39 (lateP now p) now hsq
  have e0 : lateL now (lateP now p) = [] := by unfold lateL; rw [late_none]; rfl
  rw [e0] at cm
  have cn := late39 (lateP now p) later hsq
  have hLl := lateL_len now p
  have hNl := lateL_len later (lateP now p)
  have hql : (lateP now p).procs.length = p.procs.length := lateAll_len _ _
  have hL : ∀ k (h : k < (lateL now p).length), ∃ n : Nat, ∃ hn : n < p.procs.length, (lateL now p)[k] = n ∧ p.procs[n].state ≠ 0 ∧ 0 ≤ p.procs[n].due ∧ p.procs[n].due ≤ now ∧ ∀ j (hj : j < (lateL later (lateP now p)).length), (lateL later (lateP now p))[j] ≠ n := by
    intro k h
    have hk : k < (lateK now p).length := by simpa [lateL] using h
    have hm : (lateK now p)[k] ∈ lateK now p := List.getElem_mem hk
    obtain ⟨hn, hb⟩ := mem_lateK.1 hm
    obtain ⟨s1, s2, s3⟩ := lateB_spec hb
    refine ⟨(lateK now p)[k], hn, by simp [lateL], s1, s2, s3, fun j hj e => ?_⟩
    have hj2 : j < (lateK later (lateP now p)).length := by simpa [lateL] using hj
    have e2 : ((lateK later (lateP now p))[j] : Int) = ((lateK now p)[k] : Nat) := by simpa [lateL] using e
    have e3 : (lateK later (lateP now p))[j] = (lateK now p)[k] := by exact_mod_cast e2
    exact late_once hm (e3 ▸ List.getElem_mem hj2)
  obtain ⟨q, hq⟩ : ∃ q, lateP now p = q := ⟨_, rfl⟩
  obtain ⟨l, hl⟩ : ∃ l, lateL now p = l := ⟨_, rfl⟩
  rw [hq] at hL cl cm cn hNl hql
  obtain ⟨m, hm⟩ : ∃ m, lateL later q = m := ⟨_, rfl⟩
  obtain ⟨v, hv⟩ : ∃ v, lateP later q = v := ⟨_, rfl⟩
  obtain ⟨u, hu⟩ : ∃ u, lateP now q = u := ⟨_, rfl⟩
  simp only [hl, hm] at hL
  rw [hl] at cl hLl
  rw [hu] at cm
  rw [hm, hv] at cn
  rw [hm] at hNl
  have hpl := hs.procs
  refine AWP.goC (And.intro cl (And.intro cm cn)) ?_
  try simp only [List.take_succ_cons, List.take_zero, List.drop_succ_cons, List.drop_zero, keysL, keysA, List.append_nil, List.nil_append, splice_zero_cons, splice_zero_nil, splice_succ, AV.closedAll, AV.closed, Bool.and_true, Bool.and_self]
  refine AWP.goC (And.intro cl (And.intro cm cn)) ?_
  try simp only [List.take_succ_cons, List.take_zero, List.drop_succ_cons, List.drop_zero, keysL, keysA, List.append_nil, List.nil_append, splice_zero_cons, splice_zero_nil, splice_succ, AV.closedAll, AV.closed, Bool.and_true, Bool.and_self]
  refine AWP.goC (And.intro cl (And.intro cm cn)) ?_
  refine AWP.condA ?_ ?_ <;> intro hz
  · cases hz
  refine AWP.goA ?_
  refine AWP.loopT (fun k : Nat => ⟨0, Try.f13.ntmps, [(1, iv now), (3, .ptr 24 0 0), (9, Il l), (13, Il m), (15, iv k)], [(24, paRow p)], []⟩) (fun k => k ≤ l.length) (fun k => l.length - k) 0 (by simp)
    (Thin.to [80, 96, 112] rfl rfl rfl rfl rfl (by simp [envIn, eget, eput]) (by simp [killsH, killH, killO])) ?_
  rintro k hk
  refine AWP.goA ?_
  refine AWP.condA ?_ ?_ <;> intro hc1
  rotate_left
  · refine AWP.goA ?_
    refine AWP.ret ?_
    exact ⟨trivial, [], by simp, .bool true, rfl, rfl, rfl, rfl⟩
  have hkl : k < l.length := by simpa using hc1
  have hw := wrap_succ (show k < 9223372036854775807 by omega)
  obtain ⟨n, hn, hln, g1, g2, g3, g4⟩ := hL k hkl
  have hik := idx26 (l := l) hkl
  rw [hln] at hik
  have hld := (fun (h : Heap) (n : Int) => show aload T10 h 3 (.vptr (encI n)) = some (.pure (iv n)) from rfl)
  obtain ⟨x, hx⟩ : ∃ x, p.procs[n] = x := ⟨_, rfl⟩
  have hin := idx29 (l := p.procs) hn
  rw [hx] at hin g1 g2 g3
  simp only [encProc] at hin
  have b1 : decide ((n : Int) < 0) = false := by simp
  have b2 : decide ((n : Int) ≥ (p.procs.length : Int)) = false := decide_eq_false (by omega)
  have b3 : (x.state == 0) = false := by simpa using g1
  have b4 : decide (x.due < 0) = false := decide_eq_false (by omega)
  have b5 : decide (x.due > now) = false := decide_eq_false (by omega)
  refine AWP.goF (And.intro hik hld) ?_
  refine AWP.goF (And.intro hin (And.intro b1 (And.intro b2 (And.intro b3 (And.intro b4 b5))))) ?_
  refine AWP.condA ?_ ?_ <;> intro hz2
  · cases hz2
  refine AWP.goA ?_
  refine AWP.loopT (fun j : Nat => ⟨0, Try.f13.ntmps, [(1, iv now), (3, .ptr 24 0 0), (9, Il l), (13, Il m), (15, iv k), (16, iv n), (17, iv j)], [(24, paRow p)], []⟩) (fun j => j ≤ m.length) (fun j => m.length - j) 0 (by simp)
    (Thin.to [] rfl rfl rfl rfl rfl (by simp [envIn, eget, eput]) (by simp [killsH])) ?_
  rintro j hj
  refine AWP.goA ?_
  refine AWP.condA ?_ ?_ <;> intro hc2
  · have hjl : j < m.length := by simpa using hc2
    have hw2 := wrap_succ (show j < 9223372036854775807 by omega)
    have hij := idx26 (l := m) hjl
    have b6 : (m[j] == (n : Int)) = false := by simpa using g4 j hjl
    refine AWP.goF (And.intro hij (And.intro hld b6)) ?_
    refine AWP.condA ?_ ?_ <;> intro hz3
    · cases hz3
    refine AWP.goF hw2 ?_
    exact ⟨j + 1, by omega, by omega, Thin.to [] rfl rfl rfl rfl rfl (by simp [envIn, eget]) rfl⟩
  · refine AWP.goF hw ?_
    exact ⟨k + 1, by omega, by omega, Thin.to [] rfl rfl rfl rfl rfl (by simp [envIn, eget]) rfl⟩
end Go.Qd
