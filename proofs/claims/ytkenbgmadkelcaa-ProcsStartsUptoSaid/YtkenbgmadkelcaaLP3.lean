/- A part of the library of this claim: rules of an abstract machine (values in place of addresses), proved against the model, and contracts of the functions. -/
import Derived.Test.YtkenbgmadkelcaaW27
import Derived.Test.YtkenbgmadkelcaaW26
import Derived.Test.YtkenbgmadkelcaaW25
set_option linter.unusedVariables false
set_option linter.unusedSimpArgs false
set_option maxHeartbeats 8000000
set_option maxRecDepth 10000
namespace Go.Qd
open Go Go.Proofs
theorem start_cases (c : Conf) (p : Part) (i now : Int) : (∃ k, (k = 3 ∨ k = 1) ∧ opP (fun n => startP c p n now) p i = (p, k)) ∨
    ∃ (n : Nat) (f : PConf), i = n ∧ n < p.procs.length ∧ c.procs[n]? = some f ∧
      opP (fun n => startP c p n now) p i = (queueP p n { dormP f.prio with state := 1, pc := f.entry, due := behindP now f.limit, next := behindP now f.period }, 0) := by
  rcases inOut i p.procs.length with h | ⟨n, rfl, h⟩
  · exact .inl ⟨3, .inl rfl, opP_out _ p i h⟩
  · rw [opP_in _ p n h]
    unfold startP
    cases hc : c.procs[n]? with
    | none => exact .inl ⟨3, .inl rfl, rfl⟩
    | some f =>
      rw [List.getElem?_eq_getElem h]
      simp only
      split
      · exact .inr ⟨n, f, rfl, h, hc, rfl⟩
      · exact .inl ⟨1, .inr rfl, rfl⟩
/-- law10.ProcsStarts -/
theorem law3 (c : Conf) (p : Part) (i now : Int) (hf : Fits10 p) : Con Try.prog 3 [Cf c, Pa p, iv i, iv now] (.bool true) [] := by
  refine ⟨⟨_, _, Try.func3, rfl, by decide⟩, ICall.of_body' T10_ok ⟨Try.func3, rfl, by decide⟩ (by simp [Try.f3]) ?_⟩
  have c17 := few17 p hf
  by_cases hfew : fewP p
  rotate_left
  · rw [decide_eq_false hfew] at c17
    refine AWP.goC (And.intro awake16 c17) ?_
    refine AWP.condA ?_ ?_ <;> intro hz
    · refine AWP.goA ?_
      refine AWP.ret ?_
      exact ⟨trivial, [], by simp, .bool true, rfl, rfl, rfl, rfl⟩
    · cases hz
  rw [decide_eq_true hfew] at c17
  have hs := hfew.small
  by_cases q0 : (c.procs.length : Int) > 20
  · have q0b : decide ((c.procs.length : Int) > 20) = true := decide_eq_true q0
    refine AWP.goFC (q0b) (And.intro awake16 c17) ?_
    refine AWP.condA ?_ ?_ <;> intro hz
    · refine AWP.goA ?_
      refine AWP.ret ?_
      exact ⟨trivial, [], by simp, .bool true, rfl, rfl, rfl, rfl⟩
    · cases hz
  have q0b : decide ((c.procs.length : Int) > 20) = false := decide_eq_false q0
  by_cases q1 : now < 0
  · have q1b : decide (now < 0) = true := decide_eq_true q1
    refine AWP.goFC (And.intro q0b (q1b)) (And.intro awake16 c17) ?_
    refine AWP.condA ?_ ?_ <;> intro hz
    · refine AWP.goA ?_
      refine AWP.ret ?_
      exact ⟨trivial, [], by simp, .bool true, rfl, rfl, rfl, rfl⟩
    · cases hz
  have q1b : decide (now < 0) = false := decide_eq_false q1
  refine AWP.goFC (And.intro q0b (q1b)) (And.intro awake16 c17) ?_
  refine AWP.condA ?_ ?_ <;> intro hz
  · refine AWP.goA ?_
    refine AWP.ret ?_
    exact ⟨trivial, [], by simp, .bool true, rfl, rfl, rfl, rfl⟩
  have q2 : ¬ (now > 1099511627776) := by simpa using hz
  have hself : ∀ a : Int, (a != a) = false := fun a => by simp
  have hself2 : ∀ a : Int, (a == a) = true := fun a => by simp
  have c18 := start18 c p i now hs
  rcases start_cases c p i now with ⟨k, hk, e⟩ | ⟨n, f, rfl, hn, hcf, e⟩
  · rw [e] at c18
    have c19 := same19 p p hs
    rw [decide_eq_true rfl] at c19
    have hkb : (k != 0) = true := by rcases hk with rfl | rfl <;> rfl
    refine AWP.goFC hkb c18 ?_
    refine AWP.condA ?_ ?_ <;> intro hz2
    · refine AWP.goC c19 ?_
      refine AWP.ret ?_
      exact ⟨trivial, [], by simp, .bool true, rfl, rfl, rfl, rfl⟩
    · cases hz2
  obtain ⟨hcl, hcf2⟩ := List.getElem?_eq_some_iff.1 hcf
  obtain ⟨fa, fb, fc, fd, fe⟩ := f
  simp only at e
  obtain ⟨y, hy⟩ : ∃ y : Proc, { dormP fa with state := 1, pc := fd, due := behindP now fc, next := behindP now fb } = y := ⟨_, rfl⟩
  rw [hy] at e
  rw [e] at c18
  obtain ⟨q, hq⟩ : ∃ q, queueP p n y = q := ⟨_, rfl⟩
  have hql : q.procs.length = p.procs.length := by rw [← hq]; simp [queueP]
  have hqn : n < q.procs.length := by omega
  have hqx : q.procs[n] = { y with since := p.next } := by subst hq; simp [queueP]
  have hqs : Small 1000000 q := by rw [← hq]; exact small_queueP hs _ _
  have hqt : q.next = IntKind.i64.wrap (p.next + 1) := by rw [← hq]; rfl
  rw [hq] at c18
  have hixq := idx29 (l := q.procs) hqn
  rw [hqx, ← hy] at hixq
  simp only [encProc, dormP] at hixq
  have hidf := idxF (l := c.procs) hcl
  rw [hcf2] at hidf
  simp only [encPConf] at hidf
  have hn0 : decide ((n : Int) < 0) = false := by simp
  have hn1 : decide ((n : Int) ≥ (q.procs.length : Int)) = false := by simp; omega
  have hn2 : decide ((n : Int) ≥ (c.procs.length : Int)) = false := by simp; omega
  have hnx : (q.next != IntKind.i64.wrap (p.next + 1)) = false := by rw [hqt]; simp
  have hA := And.intro hixq (And.intro hidf (And.intro hn0 (And.intro hn1 (And.intro hn2 hnx))))
  have c20 := stop20 q n hqs
  have e2 : opP (fun n => stopP q n) q n = (setP (leaveP n q) n (dormP fa), 0) := by
    rw [opP_in _ q n hqn]
    unfold stopP
    rw [List.getElem?_eq_getElem hqn, hqx, ← hy]
    rfl
  rw [e2] at c20
  obtain ⟨r, hr⟩ : ∃ r, setP (leaveP n q) n (dormP fa) = r := ⟨_, rfl⟩
  rw [hr] at c20
  have hrl : n < r.procs.length := by rw [← hr]; simp [setP, leaveP, gPart]; exact hqn
  have hrx : r.procs[n] = dormP fa := by subst hr; simp [setP]
  have hixr := idx29 (l := r.procs) hrl
  rw [hrx] at hixr
  simp only [encProc, dormP] at hixr
  have hn3 : decide ((n : Int) ≥ (r.procs.length : Int)) = false := by simp; omega
  have hB := And.intro hixr (And.intro hidf (And.intro hn3 hself2))
  refine AWP.goFC hA c18 ?_
  refine AWP.condA ?_ ?_ <;> intro hz2
  · cases hz2
  refine AWP.goF hA ?_
  refine AWP.condA ?_ ?_ <;> intro hz3
  · (simp at hz3) <;> omega
  refine AWP.goF hA ?_
  try simp only [List.take_succ_cons, List.take_zero, List.drop_succ_cons, List.drop_zero, keysL, keysA, List.append_nil, List.nil_append, splice_zero_cons, splice_zero_nil, splice_succ, AV.closedAll, AV.closed, Bool.and_true, Bool.and_self]
  have hfin : ∀ D : Int, behindP now fc = D → True := fun _ _ => trivial
  by_cases hl : 0 < fc
  · have hD : behindP now fc = IntKind.i64.wrap (now + fc) := if_pos hl
    have h1 : decide (fc > 0) = true := decide_eq_true hl
    have h2 : decide (fc ≤ 0) = false := decide_eq_false (by omega)
    have h3 : (behindP now fc != IntKind.i64.wrap (now + fc)) = false := by rw [hD]; simp
    refine AWP.goF (And.intro hself (And.intro hnx (And.intro h1 (And.intro h2 h3)))) ?_
    refine AWP.condA ?_ ?_ <;> intro hz4
    · cases hz4
    refine AWP.goFC hn3 c20 ?_
    refine AWP.condA ?_ ?_ <;> intro hz5
    · (simp at hz5) <;> omega
    refine AWP.goA ?_
    apply AWP.anyR Zz_mixed
    focus
      (repeat (apply Trace.cons; (focus (first | exact Loc.opF hB | exact Loc.opYesF hB | exact Loc.opNoA)); (focus exact applyF hB)))
      exact Trace.nil _
    focus kernel_rfl
    simp only [Then, InBlock]
    refine AWP.goA ?_
    refine AWP.ret ?_
    exact ⟨trivial, [], by simp, .bool true, rfl, rfl, rfl, rfl⟩
  · have hD : behindP now fc = -1 := if_neg hl
    have h1 : decide (fc > 0) = false := decide_eq_false hl
    have h2 : decide (fc ≤ 0) = true := decide_eq_true (by omega)
    have h3 : (behindP now fc != -1) = false := by rw [hD]; rfl
    refine AWP.goF (And.intro hself (And.intro hnx (And.intro h1 (And.intro h2 h3)))) ?_
    refine AWP.condA ?_ ?_ <;> intro hz4
    · cases hz4
    refine AWP.goFC hn3 c20 ?_
    refine AWP.condA ?_ ?_ <;> intro hz5
    · (simp at hz5) <;> omega
    refine AWP.goA ?_
    apply AWP.anyR Zz_mixed
    focus
      (repeat (apply Trace.cons; (focus (first | exact Loc.opF hB | exact Loc.opYesF hB | exact Loc.opNoA)); (focus exact applyF hB)))
      exact Trace.nil _
    focus kernel_rfl
    simp only [Then, InBlock]
    refine AWP.goA ?_
    refine AWP.ret ?_
    exact ⟨trivial, [], by simp, .bool true, rfl, rfl, rfl, rfl⟩
end Go.Qd
