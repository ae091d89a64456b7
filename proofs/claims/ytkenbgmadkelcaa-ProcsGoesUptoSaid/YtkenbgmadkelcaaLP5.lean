/- A part of the library of this claim: rules of an abstract machine (values in place of addresses), proved against the model, and contracts of the functions. -/
import Derived.Test.YtkenbgmadkelcaaW27
import Derived.Test.YtkenbgmadkelcaaW26
import Derived.Test.YtkenbgmadkelcaaW25
set_option linter.unusedVariables false
set_option linter.unusedSimpArgs false
set_option maxHeartbeats 8000000
set_option maxRecDepth 10000
namespace Go.Qd
open Go Go.Proofs
theorem block_in (p : Part) (n : Nat) (x : Proc) (kind obj till call : Int) (hn : n < p.procs.length) (hx : p.procs[n] = x) : opQ (fun n => blockP p n kind obj till call) p n = if x.state = 1 then setP p n { x with state := 2, kind := kind, obj := obj, till := till, call := call } else p := by
  rw [opQ_in _ p n hn]
  unfold blockP
  rw [List.getElem?_eq_getElem hn, hx]
theorem go_in (p : Part) (n : Nat) (x : Proc) (code value : Int) (hn : n < p.procs.length) (hx : p.procs[n] = x) : opQ (fun n => (goP p n code value).1) p n = if x.state = 2 then queueP p n { x with state := 1, till := -1, kind := 0, obj := 0, pend := true, code := code, value := value, r0 := code, r1 := value } else p := by
  rw [opQ_in _ p n hn]
  unfold goP
  rw [List.getElem?_eq_getElem hn, hx]
  simp only
  split <;> rfl
/-- law10.ProcsGoes -/
theorem law5 (p : Part) (wa wb wc kind till : Int) (hf : Fits10 p) : Con Try.prog 5 [Pa p, .agg [iv wa, iv wb, iv wc], iv kind, iv till] (.bool true) [] := by
  refine ⟨⟨_, _, Try.func5, rfl, by decide⟩, ICall.of_body' T10_ok ⟨Try.func5, rfl, by decide⟩ (by simp [Try.f5]) ?_⟩
  have c17 := few17 p hf
  by_cases hfew : fewP p
  rotate_left
  · rw [decide_eq_false hfew] at c17
    refine AWP.goC (And.intro awake16 c17) ?_
    refine AWP.condA ?_ ?_ <;> intro hz
    · refine AWP.goA ?_
      refine AWP.ret ?_
      exact ⟨trivial, [], by simp, .bool true, rfl, rfl, rfl, rfl⟩
    · cases hz
  rw [decide_eq_true hfew] at c17
  have hs := hfew.small
  by_cases q0 : wa < 0
  · have q0b : decide (wa < 0) = true := decide_eq_true q0
    refine AWP.goFC (q0b) (And.intro awake16 c17) ?_
    refine AWP.condA ?_ ?_ <;> intro hz
    · refine AWP.goA ?_
      refine AWP.ret ?_
      exact ⟨trivial, [], by simp, .bool true, rfl, rfl, rfl, rfl⟩
    · cases hz
  have q0b : decide (wa < 0) = false := decide_eq_false q0
  refine AWP.goFC (q0b) (And.intro awake16 c17) ?_
  refine AWP.condA ?_ ?_ <;> intro hz
  · refine AWP.goA ?_
    refine AWP.ret ?_
    exact ⟨trivial, [], by simp, .bool true, rfl, rfl, rfl, rfl⟩
  have q1 : ¬ (wa ≥ (p.procs.length : Int)) := by simpa using hz
  have hself : ∀ a : Int, (a != a) = false := fun a => by simp
  have hself2 : ∀ a : Int, (a == a) = true := fun a => by simp
  obtain ⟨n, rfl⟩ := Int.eq_ofNat_of_zero_le (show 0 ≤ wa by omega)
  have hn : n < p.procs.length := by omega
  obtain ⟨x, hx⟩ : ∃ x, p.procs[n] = x := ⟨_, rfl⟩
  have k1 := block21 p n kind 0 till 3 hs
  rw [block_in p n x kind 0 till 3 hn hx] at k1
  have hix := idx29 (l := p.procs) hn
  rw [hx] at hix
  simp only [encProc] at hix
  have ha0 : ∀ (h : Heap) (k : Nat), aindexAddr' T10 h 45 (.ptr k 0 4) 0 = some (.ptr k 0 4) := fun h k => rfl
  have ha1 : ∀ (h : Heap) (k : Nat), aindexAddr' T10 h 45 (.ptr k 0 4) 1 = some (.ptr k 0 5) := fun h k => rfl
  have hl0 : ((p.procs.length : Int) != (p.procs.length : Int)) = false := by simp
  by_cases h1 : x.state = 1
  rotate_left
  · rw [if_neg h1] at k1
    have hxb : (x.state != 1) = true := by simpa using h1
    have g1 := go23 p n wb wc hs
    have hgl : (opQ (fun n => (goP p n wb wc).1) p n).procs.length = p.procs.length := by
      rw [go_in p n x wb wc hn hx]
      split
      · simp [queueP]
      · rfl
    obtain ⟨g, hg⟩ : ∃ g, opQ (fun n => (goP p n wb wc).1) p n = g := ⟨_, rfl⟩
    rw [hg] at g1 hgl
    have hl1 : ((g.procs.length : Int) != (p.procs.length : Int)) = false := by rw [hgl]; simp
    have c19 := same19 p p hs
    rw [decide_eq_true rfl] at c19
    have hA := And.intro hix (And.intro hl0 (And.intro hl1 hxb))
    refine AWP.goF hA ?_
    try simp only [List.take_succ_cons, List.take_zero, List.drop_succ_cons, List.drop_zero, keysL, keysA, List.append_nil, List.nil_append, splice_zero_cons, splice_zero_nil, splice_succ, AV.closedAll, AV.closed, Bool.and_true, Bool.and_self]
    refine AWP.goFC hA (And.intro k1 g1) ?_
    try simp only [List.take_succ_cons, List.take_zero, List.drop_succ_cons, List.drop_zero, keysL, keysA, List.append_nil, List.nil_append, splice_zero_cons, splice_zero_nil, splice_succ, AV.closedAll, AV.closed, Bool.and_true, Bool.and_self]
    refine AWP.goF hA ?_
    refine AWP.condA ?_ ?_ <;> intro hz2
    · cases hz2
    refine AWP.goF hA ?_
    refine AWP.condA ?_ ?_ <;> intro hz3
    · refine AWP.goC c19 ?_
      refine AWP.ret ?_
      exact ⟨trivial, [], by simp, .bool true, rfl, rfl, rfl, rfl⟩
    · cases hz3
  rw [if_pos h1] at k1
  have hxb : (x.state != 1) = false := by simpa using h1
  obtain ⟨q, hq⟩ : ∃ q, setP p n { x with state := 2, kind := kind, obj := 0, till := till, call := 3 } = q := ⟨_, rfl⟩
  have hql : q.procs.length = p.procs.length := by rw [← hq]; simp [setP]
  have hqn : n < q.procs.length := by omega
  have hqx : q.procs[n] = { x with state := 2, kind := kind, obj := 0, till := till, call := 3 } := by subst hq; simp [setP]
  have hqs : Small 1000000 q := by rw [← hq]; exact small_setP hs _ _
  rw [hq] at k1
  have g1 := go23 q n wb wc hqs
  rw [go_in q n _ wb wc hqn hqx, if_pos rfl] at g1
  obtain ⟨r, hr⟩ : ∃ r, queueP q n { ({ x with state := 2, kind := kind, obj := 0, till := till, call := 3 } : Proc) with state := 1, till := -1, kind := 0, obj := 0, pend := true, code := wb, value := wc, r0 := wb, r1 := wc } = r := ⟨_, rfl⟩
  have hrl : r.procs.length = p.procs.length := by rw [← hr, ← hq]; simp [queueP, setP]
  have hrn : n < r.procs.length := by omega
  have hrx : r.procs[n] = { x with state := 1, till := -1, kind := 0, obj := 0, pend := true, code := wb, value := wc, r0 := wb, r1 := wc, call := 3, since := q.next } := by subst hr; simp [queueP]
  rw [hr] at g1
  have hiq := idx29 (l := q.procs) hqn
  rw [hqx] at hiq
  simp only [encProc] at hiq
  have hir := idx29 (l := r.procs) hrn
  rw [hrx] at hir
  simp only [encProc] at hir
  have hlq : ((q.procs.length : Int) != (p.procs.length : Int)) = false := by rw [hql]; simp
  have hlr : ((r.procs.length : Int) != (p.procs.length : Int)) = false := by rw [hrl]; simp
  have still := go23 p n wb wc hs
  rw [go_in p n x wb wc hn hx, if_neg (by rw [h1]; decide)] at still
  have c19 := same19 p p hs
  rw [decide_eq_true rfl] at c19
  have hA := And.intro hix (And.intro hiq (And.intro hir (And.intro hlq (And.intro hlr hxb))))
  have hB := And.intro hself2 (And.intro ha0 ha1)
  refine AWP.goF hA ?_
  try simp only [List.take_succ_cons, List.take_zero, List.drop_succ_cons, List.drop_zero, keysL, keysA, List.append_nil, List.nil_append, splice_zero_cons, splice_zero_nil, splice_succ, AV.closedAll, AV.closed, Bool.and_true, Bool.and_self]
  refine AWP.goFC hA (And.intro k1 g1) ?_
  try simp only [List.take_succ_cons, List.take_zero, List.drop_succ_cons, List.drop_zero, keysL, keysA, List.append_nil, List.nil_append, splice_zero_cons, splice_zero_nil, splice_succ, AV.closedAll, AV.closed, Bool.and_true, Bool.and_self]
  refine AWP.goF hA ?_
  refine AWP.condA ?_ ?_ <;> intro hz2
  · cases hz2
  refine AWP.goF hA ?_
  refine AWP.condA ?_ ?_ <;> intro hz3
  · cases hz3
  refine AWP.goF hA ?_
  try simp only [List.take_succ_cons, List.take_zero, List.drop_succ_cons, List.drop_zero, keysL, keysA, List.append_nil, List.nil_append, splice_zero_cons, splice_zero_nil, splice_succ, AV.closedAll, AV.closed, Bool.and_true, Bool.and_self]
  refine AWP.goA ?_
  apply AWP.anyR Zz_mixed
  focus
    (repeat (apply Trace.cons; (focus (first | exact Loc.opF hA | exact Loc.opYesF hA | exact Loc.opNoA | exact Loc.conA still | exact Loc.conA c19)); (focus exact applyF hA)))
    exact Trace.nil _
  focus kernel_rfl
  simp only [Then, InBlock]
  refine AWP.goF hB ?_
  refine AWP.ret ?_
  exact ⟨trivial, [], by simp, .bool true, rfl, rfl, rfl, rfl⟩
end Go.Qd
