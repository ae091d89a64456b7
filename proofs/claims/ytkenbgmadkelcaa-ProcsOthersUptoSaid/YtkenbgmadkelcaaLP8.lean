/- A part of the library of this claim: rules of an abstract machine (values in place of addresses), proved against the model, and contracts of the functions. -/
import Derived.Test.YtkenbgmadkelcaaW27
import Derived.Test.YtkenbgmadkelcaaW26
import Derived.Test.YtkenbgmadkelcaaW25
set_option linter.unusedVariables false
set_option linter.unusedSimpArgs false
set_option maxHeartbeats 8000000
set_option maxRecDepth 10000
namespace Go.Qd
open Go Go.Proofs
/-- law10.ProcsOthers -/
theorem law8 (c : Conf) (p : Part) (i n k : Int) (hf : Fits10 p) : Con Try.prog 8 [Cf c, Pa p, iv i, iv n, iv k] (.bool true) [] := by
  refine ⟨⟨_, _, Try.func8, rfl, by decide⟩, ICall.of_body' T10_ok ⟨Try.func8, rfl, by decide⟩ (by simp [Try.f8]) ?_⟩
  have c17 := few17 p hf
  by_cases hfew : fewP p
  rotate_left
  · rw [decide_eq_false hfew] at c17
    refine AWP.goC (And.intro awake16 c17) ?_
    refine AWP.condA ?_ ?_ <;> intro hz
    · refine AWP.goA ?_
      refine AWP.ret ?_
      exact ⟨trivial, [], by simp, .bool true, rfl, rfl, rfl, rfl⟩
    · cases hz
  rw [decide_eq_true hfew] at c17
  have hs := hfew.small
  by_cases q0 : (c.procs.length : Int) > 20
  · have q0b : decide ((c.procs.length : Int) > 20) = true := decide_eq_true q0
    refine AWP.goFC (q0b) (And.intro awake16 c17) ?_
    refine AWP.condA ?_ ?_ <;> intro hz
    · refine AWP.goA ?_
      refine AWP.ret ?_
      exact ⟨trivial, [], by simp, .bool true, rfl, rfl, rfl, rfl⟩
    · cases hz
  have q0b : decide ((c.procs.length : Int) > 20) = false := decide_eq_false q0
  by_cases q1 : k < 0
  · have q1b : decide (k < 0) = true := decide_eq_true q1
    refine AWP.goFC (And.intro q0b (q1b)) (And.intro awake16 c17) ?_
    refine AWP.condA ?_ ?_ <;> intro hz
    · refine AWP.goA ?_
      refine AWP.ret ?_
      exact ⟨trivial, [], by simp, .bool true, rfl, rfl, rfl, rfl⟩
    · cases hz
  have q1b : decide (k < 0) = false := decide_eq_false q1
  refine AWP.goFC (And.intro q0b (q1b)) (And.intro awake16 c17) ?_
  refine AWP.condA ?_ ?_ <;> intro hz
  · refine AWP.goA ?_
    refine AWP.ret ?_
    exact ⟨trivial, [], by simp, .bool true, rfl, rfl, rfl, rfl⟩
  have q2 : ¬ (k > 4) := by simpa using hz
  have c32 := change32 c p k i n hs
  have hg := good_change c p k i n
  obtain ⟨r, hr⟩ : ∃ r, changeP c p k i n = r := ⟨_, rfl⟩
  rw [hr] at c32 hg
  have c19 := same19 p r.1 hs
  have h1 : ((r.1.procs.length : Int) != (p.procs.length : Int)) = false := by rw [hg.len]; simp
  have h2 : decide (r.2 < 0) = false := decide_eq_false (by have := hg.lo; omega)
  refine AWP.goFC (And.intro h1 h2) c32 ?_
  refine AWP.condA ?_ ?_ <;> intro hz2
  · have := hg.hi; (simp at hz2) <;> omega
  refine AWP.goA ?_
  try simp only [List.take_succ_cons, List.take_zero, List.drop_succ_cons, List.drop_zero, keysL, keysA, List.append_nil, List.nil_append, splice_zero_cons, splice_zero_nil, splice_succ, AV.closedAll, AV.closed, Bool.and_true, Bool.and_self]
  refine AWP.loopT (fun j : Nat => ⟨0, Try.f8.ntmps, [(2, iv i), (6, .ptr 48 0 0), (13, .ptr 104 0 0), (14, iv r.2), (15, iv j)], [(48, paRow p), (104, paRow r.1)], []⟩) (fun j => j ≤ p.procs.length) (fun j => p.procs.length - j) 0 (by simp)
    (Thin.to [40] rfl rfl rfl rfl rfl (by simp [envIn, eget, eput]) (by simp [killsH] <;> rfl)) ?_
  rintro j hj
  refine AWP.goA ?_
  refine AWP.condA ?_ ?_ <;> intro hc1
  · have hjl : j < p.procs.length := by simpa using hc1
    have hjr : j < r.1.procs.length := by rw [hg.len]; exact hjl
    have hw := wrap_succ (show j < 9223372036854775807 by have := hs.procs; omega)
    by_cases hji : (j : Int) = i
    · have hb : ((j : Int) != i) = false := by simpa using hji
      refine AWP.goF hb ?_
      refine AWP.condA ?_ ?_ <;> intro hz3
      · cases hz3
      refine AWP.goF hw ?_
      exact ⟨j + 1, by omega, by omega, Thin.to [] rfl rfl rfl rfl rfl (by simp [envIn, eget]) rfl⟩
    have hb : ((j : Int) != i) = true := by simpa using hji
    have hp := idx29 (l := p.procs) hjl
    have hq := idx29 (l := r.1.procs) hjr
    have hx : r.1.procs[j] = p.procs[j] := by
      have := hg.oth j hji
      rw [List.getElem?_eq_getElem hjl, List.getElem?_eq_getElem hjr] at this
      injection this
    rw [hx] at hq
    have he : abin T10 .neq 49 (.agg (encProc p.procs[j])) (.agg (encProc p.procs[j])) = some (.bool false) := by rw [eqProc]; simp
    have hA := And.intro hb (And.intro hp (And.intro hq (And.intro (fun (h : Heap) (x : Proc) => loadPr (h := h) (x := x)) he)))
    refine AWP.goA ?_
    apply AWP.anyR Zz_mixed
    focus
      (repeat (apply Trace.cons; (focus (first | exact Loc.opF hA | exact Loc.opYesF hA | exact Loc.opNoA)); (focus exact applyF hA)))
      exact Trace.nil _
    focus kernel_rfl
    simp only [Then, InBlock]
    refine AWP.condA ?_ ?_ <;> intro hz3
    · cases hz3
    refine AWP.goF hw ?_
    exact ⟨j + 1, by omega, by omega, Thin.to [] rfl rfl rfl rfl rfl (by simp [envIn, eget]) rfl⟩
  refine AWP.goC c19 ?_
  by_cases h0 : r.2 = 0
  · have hb : (r.2 == 0) = true := by simpa using h0
    refine AWP.goF hb ?_
    refine AWP.ret ?_
    exact ⟨trivial, [], by simp, .bool true, rfl, rfl, rfl, rfl⟩
  have hb : (r.2 == 0) = false := by simpa using h0
  have heq : p = r.1 := (hg.fail h0).symm
  rw [decide_eq_true heq]
  refine AWP.goF hb ?_
  refine AWP.ret ?_
  exact ⟨trivial, [], by simp, .bool true, rfl, rfl, rfl, rfl⟩
end Go.Qd
