/- A part of the library of this claim: rules of an abstract machine (values in place of addresses), proved against the model, and contracts of the functions. -/
import Derived.Test.YtkenbgmadkelcaaW33
set_option linter.unusedVariables false
set_option linter.unusedSimpArgs false
set_option maxHeartbeats 8000000
set_option maxRecDepth 10000
namespace Go.Qd
open Go Go.Proofs
theorem lateOne_oth (l : List Proc) (k j : Nat) (hj : j ≠ k) : (lateOne l k)[j]? = l[j]? := by
  unfold lateOne; split
  · rfl
  · rw [List.getElem?_set_ne (Ne.symm hj)]
theorem lateAll_oth (ks : List Nat) (j : Nat) : ∀ l, (∀ k ∈ ks, k ≠ j) → (lateAll l ks)[j]? = l[j]? := by
  induction ks with
  | nil => intro l _; rfl
  | cons k r ih => intro l h; exact (ih _ fun k' hk' => h k' (by simp [hk'])).trans (lateOne_oth l k j (fun e => h k (by simp) e.symm))
def lateJ (now : Int) (p : Part) (j : Nat) : List Nat := (((List.finRange p.procs.length).take j).filter fun k => lateB now p.procs[k]).map Fin.val
theorem lateJ_succ (now : Int) (p : Part) (j : Nat) (hj : j < p.procs.length) : lateJ now p (j + 1) = lateJ now p j ++ (if lateB now p.procs[j] then [j] else []) := by
  unfold lateJ
  have hxi : (List.finRange p.procs.length)[j]? = some ⟨j, hj⟩ := by simp [hj]
  rw [List.take_add_one, hxi, List.filter_append, List.map_append]
  congr 1
  cases h : lateB now p.procs[j] <;> simp [List.filter, h]
theorem lateJ_lt {now : Int} {p : Part} {j k : Nat} (h : k ∈ lateJ now p j) : k < j := by
  unfold lateJ at h
  obtain ⟨f, hf, rfl⟩ := List.mem_map.1 h
  exact take_mem_lt (List.mem_filter.1 hf).1
theorem lateJ_all (now : Int) (p : Part) : lateJ now p p.procs.length = lateK now p := by
  unfold lateJ lateK; rw [List.take_of_length_le (by simp)]
theorem lateJ_len (now : Int) (p : Part) (j : Nat) : (lateJ now p j).length ≤ j := by
  unfold lateJ
  rw [List.length_map]
  refine Nat.le_trans (List.length_filter_le _ _) ?_
  rw [List.length_take]; exact Nat.min_le_left _ _
theorem late_at {now : Int} {p : Part} {j : Nat} (hj : j < p.procs.length) : (lateAll p.procs (lateJ now p j))[j]? = some p.procs[j] := by
  rw [lateAll_oth _ j _ (fun k hk => by have := lateJ_lt hk; omega), List.getElem?_eq_getElem hj]
/-- ref11.Late -/
theorem rlate40 (p : Part) (now : Int) (hs : Small 1000000 p) : Con Try.prog 40 [Pa p, iv now] (.tup [Il (lateL now p), Pa (lateP now p)]) [] := by
  refine ⟨⟨_, _, Try.func40, rfl, by decide⟩, ICall.of_body' T10_ok ⟨Try.func40, rfl, by decide⟩ (by simp [Try.f40]) ?_⟩
  refine AWP.goA ?_
  refine AWP.loopT (fun j : Nat => ⟨0, Try.f40.ntmps, [(1, iv now), (2, .ptr 16 0 0), (5, .ptr 40 0 0), (6, .osl 384 0 (lateJ now p j).length), (7, iv j)], [(16, paRow { p with procs := lateAll p.procs (lateJ now p j) }), (40, zRow), (384, kRow (lateJ now p j))], []⟩) (fun j => j ≤ p.procs.length) (fun j => p.procs.length - j) 0 (by simp)
    ((Thin.ghost 6 384 3 1 (by rfl) (by rfl)).trans (Thin.to [] rfl rfl rfl rfl rfl (by simp [envIn, eget, eput, lateJ]) (by simp [killsH, hput, lateAll, lateJ]))) ?_
  rintro j hj
  have hql := lateAll_len (lateJ now p j) p.procs
  have hkl := lateJ_len now p j
  by_cases hjl : j < p.procs.length
  rotate_left
  · have hje : j = p.procs.length := by omega
    have hb : decide ((j : Int) < ((lateAll p.procs (lateJ now p j)).length : Int)) = false := decide_eq_false (by omega)
    refine AWP.goF hb ?_
    refine AWP.condA ?_ ?_ <;> intro hc
    · cases hc
    subst hje
    rw [lateJ_all]
    obtain ⟨K, hK⟩ : ∃ K, lateK now p = K := ⟨_, rfl⟩
    have e1 : lateL now p = K.map fun k : Nat => (k : Int) := by rw [← hK]; rfl
    have e2 : lateP now p = { p with procs := lateAll p.procs K } := by rw [← hK]; rfl
    rw [hK, e1, e2]
    refine AWP.goA ?_
    refine AWP.ret ?_
    exact ⟨trivial, [], by simp, .tup [.osl 384 0 K.length, Pa { p with procs := lateAll p.procs K }], rfl, by simp [convA, convL, idxIn, hget, lsA, lsL, List.take_of_length_le, encI, Function.comp_def], rfl, rfl⟩
  have hx0 := late_at (now := now) hjl
  have hsn := lateJ_succ now p j hjl
  obtain ⟨x, hx⟩ : ∃ x, p.procs[j] = x := ⟨_, rfl⟩
  rw [hx] at hx0 hsn
  obtain ⟨ks, hks⟩ : ∃ ks, lateJ now p j = ks := ⟨_, rfl⟩
  rw [hks] at hx0 hsn hql hkl
  simp only [hks]
  have hkl2 : ks.length ≤ 1000000 := by have := hs.procs; omega
  obtain ⟨q, hq⟩ : ∃ q, lateAll p.procs ks = q := ⟨_, rfl⟩
  have hq1 := lateAll_snoc p.procs ks j
  rw [hq] at hx0 hql hq1
  simp only [hq]
  have hjq : j < q.length := by omega
  have hxq : q[j] = x := by rw [List.getElem?_eq_getElem hjq] at hx0; injection hx0
  have hb : decide ((j : Int) < (q.length : Int)) = true := decide_eq_true (by omega)
  have hw := wrap_succ (show j < 9223372036854775807 by have := hs.procs; omega)
  have hix := idx29 (l := q) hjq
  rw [hxq] at hix
  simp only [encProc] at hix
  refine AWP.goF hb ?_
  refine AWP.condA ?_ ?_ <;> intro hc
  rotate_left
  · cases hc
  cases q0 : (x.state == 0 : Bool)
  · cases q1 : (x.state == 2 : Bool)
    · cases q3 : decide (x.due < 0)
      · cases q4 : decide (x.due > now)
        · have g1 : decide (x.due ≥ 0) = true := decide_eq_true (by have := of_decide_eq_false q3; omega)
          have g2 : decide (x.due ≤ now) = true := decide_eq_true (by have := of_decide_eq_false q4; omega)
          have hyes : lateB now x = true := by simp only [lateB, q0, q1, q3, q4, g1, g2, Bool.true_and, Bool.false_and, Bool.or_true, Bool.true_or, Bool.or_false, Bool.false_or, Bool.not_true, Bool.not_false, Bool.and_true, Bool.and_false, Bool.and_self]
          have e : lateJ now p (j + 1) = ks ++ [j] := by rw [hsn, hyes]; simp
          have e3 : lateAll p.procs (ks ++ [j]) = q.set j { x with due := -1 } := by rw [hq1]; simp [lateOne, hx0]
          have cw := with79 { p with procs := q } j { x with due := -1 } (by show q.length ≤ 1000000; have := hs.procs; omega) hjq
          simp only [encProc, setP] at cw
          refine AWP.goF (And.intro hix (And.intro hw (And.intro q0 (And.intro q1 (And.intro q3 q4))))) ?_
          try simp only [List.take_succ_cons, List.take_zero, List.drop_succ_cons, List.drop_zero, keysL, keysA, List.append_nil, List.nil_append, splice_zero_cons, splice_zero_nil, splice_succ, AV.closedAll, AV.closed, Bool.and_true, Bool.and_self]
          refine AWP.goF (And.intro hix (And.intro hw (And.intro q0 (And.intro q1 (And.intro q3 q4))))) ?_
          refine AWP.condA ?_ ?_ <;> intro hz
          · cases hz
          refine AWP.goA ?_
          try simp only [List.take_succ_cons, List.take_zero, List.drop_succ_cons, List.drop_zero, keysL, keysA, List.append_nil, List.nil_append, splice_zero_cons, splice_zero_nil, splice_succ, AV.closedAll, AV.closed, Bool.and_true, Bool.and_self]
          refine AWP.goFC hw cw ?_
          try simp only [List.take_succ_cons, List.take_zero, List.drop_succ_cons, List.drop_zero, keysL, keysA, List.append_nil, List.nil_append, splice_zero_cons, splice_zero_nil, splice_succ, AV.closedAll, AV.closed, Bool.and_true, Bool.and_self]
          exact ⟨j + 1, by omega, by omega, Thin.to [64, 376] rfl rfl rfl rfl rfl (by simp [envIn, eget, e]) (by rw [e, e3]; simp [killsH, killH, killO])⟩
        · have g2 : decide (x.due ≤ now) = false := decide_eq_false (by have := of_decide_eq_true q4; omega)
          have hno : lateB now x = false := by simp only [lateB, q0, q1, q3, q4, g2, Bool.true_and, Bool.false_and, Bool.or_true, Bool.true_or, Bool.or_false, Bool.false_or, Bool.not_true, Bool.not_false, Bool.and_true, Bool.and_false, Bool.and_self]
          have e : lateJ now p (j + 1) = ks := by rw [hsn, hno]; simp
          refine AWP.goF (And.intro hix (And.intro hw (And.intro q0 (And.intro q1 (And.intro q3 q4))))) ?_
          try simp only [List.take_succ_cons, List.take_zero, List.drop_succ_cons, List.drop_zero, keysL, keysA, List.append_nil, List.nil_append, splice_zero_cons, splice_zero_nil, splice_succ, AV.closedAll, AV.closed, Bool.and_true, Bool.and_self]
          refine AWP.goF (And.intro hix (And.intro hw (And.intro q0 (And.intro q1 (And.intro q3 q4))))) ?_
          refine AWP.condA ?_ ?_ <;> intro hz
          rotate_left
          · cases hz
          refine AWP.goF (And.intro hix hw) ?_
          exact ⟨j + 1, by omega, by omega, Thin.to [64] rfl rfl rfl rfl rfl (by simp [envIn, eget, e]) (by rw [e, hq]; rfl)⟩
      · have g1 : decide (x.due ≥ 0) = false := decide_eq_false (by have := of_decide_eq_true q3; omega)
        have hno : lateB now x = false := by simp only [lateB, q0, q1, q3, g1, Bool.true_and, Bool.false_and, Bool.or_true, Bool.true_or, Bool.or_false, Bool.false_or, Bool.not_true, Bool.not_false, Bool.and_true, Bool.and_false, Bool.and_self]
        have e : lateJ now p (j + 1) = ks := by rw [hsn, hno]; simp
        refine AWP.goF (And.intro hix (And.intro hw (And.intro q0 (And.intro q1 q3)))) ?_
        try simp only [List.take_succ_cons, List.take_zero, List.drop_succ_cons, List.drop_zero, keysL, keysA, List.append_nil, List.nil_append, splice_zero_cons, splice_zero_nil, splice_succ, AV.closedAll, AV.closed, Bool.and_true, Bool.and_self]
        refine AWP.goF (And.intro hix (And.intro hw (And.intro q0 (And.intro q1 q3)))) ?_
        refine AWP.condA ?_ ?_ <;> intro hz
        rotate_left
        · cases hz
        refine AWP.goF (And.intro hix hw) ?_
        exact ⟨j + 1, by omega, by omega, Thin.to [64] rfl rfl rfl rfl rfl (by simp [envIn, eget, e]) (by rw [e, hq]; rfl)⟩
    · cases q2 : (x.kind == 2 : Bool)
      · cases q3 : decide (x.due < 0)
        · cases q4 : decide (x.due > now)
          · have g1 : decide (x.due ≥ 0) = true := decide_eq_true (by have := of_decide_eq_false q3; omega)
            have g2 : decide (x.due ≤ now) = true := decide_eq_true (by have := of_decide_eq_false q4; omega)
            have hyes : lateB now x = true := by simp only [lateB, q0, q1, q2, q3, q4, g1, g2, Bool.true_and, Bool.false_and, Bool.or_true, Bool.true_or, Bool.or_false, Bool.false_or, Bool.not_true, Bool.not_false, Bool.and_true, Bool.and_false, Bool.and_self]
            have e : lateJ now p (j + 1) = ks ++ [j] := by rw [hsn, hyes]; simp
            have e3 : lateAll p.procs (ks ++ [j]) = q.set j { x with due := -1 } := by rw [hq1]; simp [lateOne, hx0]
            have cw := with79 { p with procs := q } j { x with due := -1 } (by show q.length ≤ 1000000; have := hs.procs; omega) hjq
            simp only [encProc, setP] at cw
            refine AWP.goF (And.intro hix (And.intro hw (And.intro q0 (And.intro q1 (And.intro q2 (And.intro q3 q4)))))) ?_
            try simp only [List.take_succ_cons, List.take_zero, List.drop_succ_cons, List.drop_zero, keysL, keysA, List.append_nil, List.nil_append, splice_zero_cons, splice_zero_nil, splice_succ, AV.closedAll, AV.closed, Bool.and_true, Bool.and_self]
            refine AWP.goF (And.intro hix (And.intro hw (And.intro q0 (And.intro q1 (And.intro q2 (And.intro q3 q4)))))) ?_
            refine AWP.condA ?_ ?_ <;> intro hz
            · cases hz
            refine AWP.goA ?_
            try simp only [List.take_succ_cons, List.take_zero, List.drop_succ_cons, List.drop_zero, keysL, keysA, List.append_nil, List.nil_append, splice_zero_cons, splice_zero_nil, splice_succ, AV.closedAll, AV.closed, Bool.and_true, Bool.and_self]
            refine AWP.goFC hw cw ?_
            try simp only [List.take_succ_cons, List.take_zero, List.drop_succ_cons, List.drop_zero, keysL, keysA, List.append_nil, List.nil_append, splice_zero_cons, splice_zero_nil, splice_succ, AV.closedAll, AV.closed, Bool.and_true, Bool.and_self]
            exact ⟨j + 1, by omega, by omega, Thin.to [64, 376] rfl rfl rfl rfl rfl (by simp [envIn, eget, e]) (by rw [e, e3]; simp [killsH, killH, killO])⟩
          · have g2 : decide (x.due ≤ now) = false := decide_eq_false (by have := of_decide_eq_true q4; omega)
            have hno : lateB now x = false := by simp only [lateB, q0, q1, q2, q3, q4, g2, Bool.true_and, Bool.false_and, Bool.or_true, Bool.true_or, Bool.or_false, Bool.false_or, Bool.not_true, Bool.not_false, Bool.and_true, Bool.and_false, Bool.and_self]
            have e : lateJ now p (j + 1) = ks := by rw [hsn, hno]; simp
            refine AWP.goF (And.intro hix (And.intro hw (And.intro q0 (And.intro q1 (And.intro q2 (And.intro q3 q4)))))) ?_
            try simp only [List.take_succ_cons, List.take_zero, List.drop_succ_cons, List.drop_zero, keysL, keysA, List.append_nil, List.nil_append, splice_zero_cons, splice_zero_nil, splice_succ, AV.closedAll, AV.closed, Bool.and_true, Bool.and_self]
            refine AWP.goF (And.intro hix (And.intro hw (And.intro q0 (And.intro q1 (And.intro q2 (And.intro q3 q4)))))) ?_
            refine AWP.condA ?_ ?_ <;> intro hz
            rotate_left
            · cases hz
            refine AWP.goF (And.intro hix hw) ?_
            exact ⟨j + 1, by omega, by omega, Thin.to [64] rfl rfl rfl rfl rfl (by simp [envIn, eget, e]) (by rw [e, hq]; rfl)⟩
        · have g1 : decide (x.due ≥ 0) = false := decide_eq_false (by have := of_decide_eq_true q3; omega)
          have hno : lateB now x = false := by simp only [lateB, q0, q1, q2, q3, g1, Bool.true_and, Bool.false_and, Bool.or_true, Bool.true_or, Bool.or_false, Bool.false_or, Bool.not_true, Bool.not_false, Bool.and_true, Bool.and_false, Bool.and_self]
          have e : lateJ now p (j + 1) = ks := by rw [hsn, hno]; simp
          refine AWP.goF (And.intro hix (And.intro hw (And.intro q0 (And.intro q1 (And.intro q2 q3))))) ?_
          try simp only [List.take_succ_cons, List.take_zero, List.drop_succ_cons, List.drop_zero, keysL, keysA, List.append_nil, List.nil_append, splice_zero_cons, splice_zero_nil, splice_succ, AV.closedAll, AV.closed, Bool.and_true, Bool.and_self]
          refine AWP.goF (And.intro hix (And.intro hw (And.intro q0 (And.intro q1 (And.intro q2 q3))))) ?_
          refine AWP.condA ?_ ?_ <;> intro hz
          rotate_left
          · cases hz
          refine AWP.goF (And.intro hix hw) ?_
          exact ⟨j + 1, by omega, by omega, Thin.to [64] rfl rfl rfl rfl rfl (by simp [envIn, eget, e]) (by rw [e, hq]; rfl)⟩
      · have hno : lateB now x = false := by simp only [lateB, q0, q1, q2, Bool.true_and, Bool.false_and, Bool.or_true, Bool.true_or, Bool.or_false, Bool.false_or, Bool.not_true, Bool.not_false, Bool.and_true, Bool.and_false, Bool.and_self]
        have e : lateJ now p (j + 1) = ks := by rw [hsn, hno]; simp
        refine AWP.goF (And.intro hix (And.intro hw (And.intro q0 (And.intro q1 q2)))) ?_
        try simp only [List.take_succ_cons, List.take_zero, List.drop_succ_cons, List.drop_zero, keysL, keysA, List.append_nil, List.nil_append, splice_zero_cons, splice_zero_nil, splice_succ, AV.closedAll, AV.closed, Bool.and_true, Bool.and_self]
        refine AWP.goF (And.intro hix (And.intro hw (And.intro q0 (And.intro q1 q2)))) ?_
        refine AWP.condA ?_ ?_ <;> intro hz
        rotate_left
        · cases hz
        refine AWP.goF (And.intro hix hw) ?_
        exact ⟨j + 1, by omega, by omega, Thin.to [64] rfl rfl rfl rfl rfl (by simp [envIn, eget, e]) (by rw [e, hq]; rfl)⟩
  · have hno : lateB now x = false := by simp only [lateB, q0, Bool.true_and, Bool.false_and, Bool.or_true, Bool.true_or, Bool.or_false, Bool.false_or, Bool.not_true, Bool.not_false, Bool.and_true, Bool.and_false, Bool.and_self]
    have e : lateJ now p (j + 1) = ks := by rw [hsn, hno]; simp
    refine AWP.goF (And.intro hix (And.intro hw q0)) ?_
    try simp only [List.take_succ_cons, List.take_zero, List.drop_succ_cons, List.drop_zero, keysL, keysA, List.append_nil, List.nil_append, splice_zero_cons, splice_zero_nil, splice_succ, AV.closedAll, AV.closed, Bool.and_true, Bool.and_self]
    refine AWP.goF (And.intro hix (And.intro hw q0)) ?_
    refine AWP.condA ?_ ?_ <;> intro hz
    rotate_left
    · cases hz
    refine AWP.goF (And.intro hix hw) ?_
    exact ⟨j + 1, by omega, by omega, Thin.to [64] rfl rfl rfl rfl rfl (by simp [envIn, eget, e]) (by rw [e, hq]; rfl)⟩
end Go.Qd
