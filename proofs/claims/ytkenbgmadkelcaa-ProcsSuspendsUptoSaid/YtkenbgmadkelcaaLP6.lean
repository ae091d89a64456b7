/- A part of the library of this claim: rules of an abstract machine (values in place of addresses), proved against the model, and contracts of the functions. -/
import Derived.Test.YtkenbgmadkelcaaW27
import Derived.Test.YtkenbgmadkelcaaW26
import Derived.Test.YtkenbgmadkelcaaW25
set_option linter.unusedVariables false
set_option linter.unusedSimpArgs false
set_option maxHeartbeats 8000000
set_option maxRecDepth 10000
namespace Go.Qd
open Go Go.Proofs
theorem suspend_cases (c : Conf) (p : Part) (i : Int) : (∃ k, (k = 3 ∨ k = 4 ∨ k = 1) ∧ opP (fun n => suspendP c p n) p i = (p, k)) ∨
    ∃ (n : Nat) (f : PConf) (x : Proc), i = n ∧ n < p.procs.length ∧ c.procs[n]? = some f ∧ p.procs[n]? = some x ∧ x.state ≠ 0 ∧ ¬ 0 < f.period ∧ x.susp = false ∧
      opP (fun n => suspendP c p n) p i = (setP p n { x with susp := true }, 0) := by
  rcases inOut i p.procs.length with h | ⟨n, rfl, h⟩
  · exact .inl ⟨3, .inl rfl, opP_out _ p i h⟩
  · rw [opP_in _ p n h]
    unfold suspendP
    cases hc : c.procs[n]? with
    | none => exact .inl ⟨3, .inl rfl, rfl⟩
    | some f =>
      rw [List.getElem?_eq_getElem h]
      simp only
      split
      · exact .inl ⟨4, .inr (.inl rfl), rfl⟩
      · rename_i h1
        split
        · exact .inl ⟨1, .inr (.inr rfl), rfl⟩
        · rename_i h2
          exact .inr ⟨n, f, p.procs[n], rfl, h, hc, by simp [h], fun e => h1 (.inl e), fun e => h1 (.inr e), by simpa using h2, rfl⟩
theorem eqProcE (a : Proc) : abin T10 .eql 49 (.agg (List.take 18 (encProc a))) (.agg (List.take 18 (encProc a))) = some (.bool true) := by
  have : abin T10 .eql 49 (.agg (List.take 18 (encProc a))) (.agg (List.take 18 (encProc a))) = some (.bool (((a.state == a.state) && ((a.prio == a.prio) && ((a.susp == a.susp) && ((a.pc == a.pc) && ((a.r0 == a.r0) && ((a.r1 == a.r1) && ((a.r2 == a.r2) && ((a.r3 == a.r3) && ((a.since == a.since) && ((a.till == a.till) && ((a.kind == a.kind) && ((a.obj == a.obj) && ((a.due == a.due) && ((a.next == a.next) && ((a.pend == a.pend) && ((a.code == a.code) && ((a.value == a.value) && ((a.call == a.call) && true)))))))))))))))))))) := rfl
  rw [this]
  simp
/-- law10.ProcsSuspends -/
theorem law6 (c : Conf) (p : Part) (i : Int) (hf : Fits10 p) : Con Try.prog 6 [Cf c, Pa p, iv i] (.bool true) [] := by
  refine ⟨⟨_, _, Try.func6, rfl, by decide⟩, ICall.of_body' T10_ok ⟨Try.func6, rfl, by decide⟩ (by simp [Try.f6]) ?_⟩
  have c17 := few17 p hf
  by_cases hfew : fewP p
  rotate_left
  · rw [decide_eq_false hfew] at c17
    refine AWP.goC (And.intro awake16 c17) ?_
    refine AWP.condA ?_ ?_ <;> intro hz
    · refine AWP.goA ?_
      refine AWP.ret ?_
      exact ⟨trivial, [], by simp, .bool true, rfl, rfl, rfl, rfl⟩
    · cases hz
  rw [decide_eq_true hfew] at c17
  have hs := hfew.small
  refine AWP.goC (And.intro awake16 c17) ?_
  refine AWP.condA ?_ ?_ <;> intro hz
  · refine AWP.goA ?_
    refine AWP.ret ?_
    exact ⟨trivial, [], by simp, .bool true, rfl, rfl, rfl, rfl⟩
  have q0 : ¬ ((c.procs.length : Int) > 20) := by simpa using hz
  have hself : ∀ a : Int, (a != a) = false := fun a => by simp
  have hself2 : ∀ a : Int, (a == a) = true := fun a => by simp
  have k1 := suspend30 c p i hs
  rcases suspend_cases c p i with ⟨k, hk, e⟩ | ⟨n, f, x, rfl, hn, hcf, hx0, hst, hper, hsu, e⟩
  · rw [e] at k1
    rcases hk with rfl | rfl | rfl
    · refine AWP.goC k1 ?_
      refine AWP.condA ?_ ?_ <;> intro hz2
      · refine AWP.goA ?_
        refine AWP.ret ?_
        exact ⟨trivial, [], by simp, .bool true, rfl, rfl, rfl, rfl⟩
      · cases hz2
    · refine AWP.goC k1 ?_
      refine AWP.condA ?_ ?_ <;> intro hz2
      · refine AWP.goA ?_
        refine AWP.ret ?_
        exact ⟨trivial, [], by simp, .bool true, rfl, rfl, rfl, rfl⟩
      · cases hz2
    · refine AWP.goC k1 ?_
      refine AWP.condA ?_ ?_ <;> intro hz2
      · refine AWP.goA ?_
        refine AWP.ret ?_
        exact ⟨trivial, [], by simp, .bool true, rfl, rfl, rfl, rfl⟩
      · cases hz2
  rw [e] at k1
  obtain ⟨hn', hx⟩ := List.getElem?_eq_some_iff.1 hx0
  obtain ⟨q, hq⟩ : ∃ q, setP p n { x with susp := true } = q := ⟨_, rfl⟩
  have hql : q.procs.length = p.procs.length := by rw [← hq]; simp [setP]
  have hqn : n < q.procs.length := by omega
  have hqx : q.procs[n] = { x with susp := true } := by subst hq; simp [setP]
  have hqs : Small 1000000 q := by rw [← hq]; exact small_setP hs _ _
  have hqt : q.next = p.next := by rw [← hq]; rfl
  rw [hq] at k1
  have k2 := suspend30 c q n hqs
  have e2 : opP (fun n => suspendP c q n) q n = (q, 1) := by
    rw [opP_in _ q n hqn]
    unfold suspendP
    rw [hcf, List.getElem?_eq_getElem hqn, hqx]
    simp only
    rw [if_neg (fun h => h.elim hst hper), if_pos trivial]
  rw [e2] at k2
  have k3 := resume31 q n hqs
  have e3 : opP (fun n => resumeP q n) q n = (if x.state = 1 then queueP q n x else setP q n x, 0) := by
    rw [opP_in _ q n hqn]
    unfold resumeP
    rw [List.getElem?_eq_getElem hqn, hqx]
    simp only
    rw [if_neg hst, if_pos trivial]
    have : ({ x with susp := false } : Proc) = x := by rw [← hsu]
    simp only [this]
  rw [e3] at k3
  obtain ⟨r, hr⟩ : ∃ r, (if x.state = 1 then queueP q n x else setP q n x) = r := ⟨_, rfl⟩
  have hrl : r.procs.length = p.procs.length := by rw [← hr]; split <;> simp [queueP, setP, hql]
  have hrn : n < r.procs.length := by omega
  rw [hr] at k3
  have hix := idx29 (l := p.procs) hn
  rw [hx] at hix
  simp only [encProc] at hix
  have hir := idx29 (l := r.procs) hrn
  have hn0 : decide ((n : Int) < 0) = false := by simp
  have hn1 : decide ((n : Int) ≥ (r.procs.length : Int)) = false := by simp; omega
  have hA := And.intro hix (And.intro hn0 hn1)
  by_cases h1 : x.state = 1
  · have hrx : r.procs[n] = { x with since := p.next } := by
      rw [if_pos h1] at hr
      subst hr
      simp [queueP, hqt]
    rw [hrx] at hir
    simp only [encProc] at hir
    have hxb : (x.state == 1) = true := by simpa using h1
    have heq : abin T10 .eql 49 (.agg (List.take 18 (encProc { x with since := p.next }))) (.agg (List.take 18 (encProc { x with since := p.next }))) = some (.bool true) := eqProcE _
    simp only [encProc] at heq
    refine AWP.goFC hA k1 ?_
    refine AWP.condA ?_ ?_ <;> intro hz2
    · cases hz2
    refine AWP.goFC hA (And.intro k2 k3) ?_
    refine AWP.condA ?_ ?_ <;> intro hz3
    · (simp at hz3) <;> omega
    refine AWP.goF (And.intro hA hir) ?_
    try simp only [List.take_succ_cons, List.take_zero, List.drop_succ_cons, List.drop_zero, keysL, keysA, List.append_nil, List.nil_append, splice_zero_cons, splice_zero_nil, splice_succ, AV.closedAll, AV.closed, Bool.and_true, Bool.and_self]
    refine AWP.goA ?_
    refine AWP.condA ?_ ?_ <;> intro hz4
    · refine AWP.goF heq ?_
      refine AWP.ret ?_
      exact ⟨trivial, [], by simp, .bool true, rfl, rfl, rfl, rfl⟩
    · rw [hxb] at hz4; cases hz4
  · have hrx : r.procs[n] = x := by
      rw [if_neg h1] at hr
      subst hr
      simp [setP]
    rw [hrx] at hir
    simp only [encProc] at hir
    have hxb : (x.state == 1) = false := by simpa using h1
    have heq : abin T10 .eql 49 (.agg (List.take 18 (encProc x))) (.agg (List.take 18 (encProc x))) = some (.bool true) := eqProcE _
    simp only [encProc] at heq
    refine AWP.goFC hA k1 ?_
    refine AWP.condA ?_ ?_ <;> intro hz2
    · cases hz2
    refine AWP.goFC hA (And.intro k2 k3) ?_
    refine AWP.condA ?_ ?_ <;> intro hz3
    · (simp at hz3) <;> omega
    refine AWP.goF (And.intro hA hir) ?_
    try simp only [List.take_succ_cons, List.take_zero, List.drop_succ_cons, List.drop_zero, keysL, keysA, List.append_nil, List.nil_append, splice_zero_cons, splice_zero_nil, splice_succ, AV.closedAll, AV.closed, Bool.and_true, Bool.and_self]
    refine AWP.goA ?_
    refine AWP.condA ?_ ?_ <;> intro hz4
    · rw [hxb] at hz4; cases hz4
    · refine AWP.goF heq ?_
      refine AWP.ret ?_
      exact ⟨trivial, [], by simp, .bool true, rfl, rfl, rfl, rfl⟩
end Go.Qd
