/- A part of the library of this claim: rules of an abstract machine (values in place of addresses), proved against the model, and contracts of the functions. -/
import Derived.Test.YtkenbgmadkelcaaW44
import Derived.Test.YtkenbgmadkelcaaW27
import Derived.Test.YtkenbgmadkelcaaW26
import Derived.Test.YtkenbgmadkelcaaW25
set_option linter.unusedVariables false
set_option linter.unusedSimpArgs false
set_option maxHeartbeats 8000000
set_option maxRecDepth 10000
namespace Go.Qd
open Go Go.Proofs
/-! ### What is done to a partition leaves the first buffer's values -/
def KB (b0 : Buf) (q : Part) : Prop := ∃ b' bt', q.bufs = b' :: bt' ∧ b'.vals = b0.vals
theorem kb_leave {b0 : Buf} {p : Part} (h : KB b0 p) (i : Int) : KB b0 (leaveP i p) := by
  obtain ⟨b', bt', h1, h2⟩ := h
  exact ⟨gBuf (noP i) b', bt'.map (gBuf (noP i)), by simp [leaveP, gPart, h1], h2⟩
theorem kb_opP {b0 : Buf} {p : Part} (h : KB b0 p) (i : Int) (f : Nat → Part × Int) (hf : ∀ m, KB b0 (f m).1) : KB b0 (opP f p i).1 := by
  unfold opP
  split
  · exact hf _
  · exact h
theorem kb_start {b0 : Buf} {p : Part} (h : KB b0 p) (c : Conf) (m : Nat) (n : Int) : KB b0 (startP c p m n).1 := by
  unfold startP
  repeat (first | exact h | split)
theorem kb_stop {b0 : Buf} {p : Part} (h : KB b0 p) (m : Nat) : KB b0 (stopP p m).1 := by
  unfold stopP
  split
  · exact h
  · split
    · exact h
    · exact kb_leave h m
theorem kb_suspend {b0 : Buf} {p : Part} (h : KB b0 p) (c : Conf) (m : Nat) : KB b0 (suspendP c p m).1 := by
  unfold suspendP
  repeat (first | exact h | split)
theorem kb_resume {b0 : Buf} {p : Part} (h : KB b0 p) (m : Nat) : KB b0 (resumeP p m).1 := by
  unfold resumeP
  repeat (first | exact h | split | (dsimp only; split))
theorem kb_prio {b0 : Buf} {p : Part} (h : KB b0 p) (m : Nat) (v : Int) : KB b0 (prioP p m v).1 := by
  unfold prioP
  repeat (first | exact h | split | (dsimp only; split))
theorem kb_change {b0 : Buf} {p : Part} (h : KB b0 p) (c : Conf) (k i n : Int) : KB b0 (changeP c p k i n).1 := by
  unfold changeP
  split
  · exact kb_opP h _ _ fun m => kb_start h c m n
  · split
    · exact kb_opP h _ _ fun m => kb_stop h m
    · split
      · exact kb_opP h _ _ fun m => kb_suspend h c m
      · split
        · exact kb_opP h _ _ fun m => kb_resume h m
        · exact kb_opP h _ _ fun m => kb_prio h m n
/-- law10.ProcsOwn -/
theorem law9 (c : Conf) (p : Part) (i k : Int) (hf : Fits10 p) : Con Try.prog 9 [Cf c, Pa p, iv i, iv k] (.bool true) [] := by
  refine ⟨⟨_, _, Try.func9, rfl, by decide⟩, ICall.of_body' T10_ok ⟨Try.func9, rfl, by decide⟩ (by simp [Try.f9]) ?_⟩
  have c17 := few17 p hf
  by_cases hfew : fewP p
  rotate_left
  · rw [decide_eq_false hfew] at c17
    refine AWP.goC (And.intro awake16 c17) ?_
    refine AWP.condA ?_ ?_ <;> intro hz
    · refine AWP.goA ?_
      refine AWP.ret ?_
      exact ⟨trivial, [], by simp, .bool true, rfl, rfl, rfl, rfl⟩
    · cases hz
  rw [decide_eq_true hfew] at c17
  have hs := hfew.small
  by_cases q0 : (c.procs.length : Int) > 20
  · have q0b : decide ((c.procs.length : Int) > 20) = true := decide_eq_true q0
    refine AWP.goFC (q0b) (And.intro awake16 c17) ?_
    refine AWP.condA ?_ ?_ <;> intro hz
    · refine AWP.goA ?_
      refine AWP.ret ?_
      exact ⟨trivial, [], by simp, .bool true, rfl, rfl, rfl, rfl⟩
    · cases hz
  have q0b : decide ((c.procs.length : Int) > 20) = false := decide_eq_false q0
  by_cases q1 : k < 0
  · have q1b : decide (k < 0) = true := decide_eq_true q1
    refine AWP.goFC (And.intro q0b (q1b)) (And.intro awake16 c17) ?_
    refine AWP.condA ?_ ?_ <;> intro hz
    · refine AWP.goA ?_
      refine AWP.ret ?_
      exact ⟨trivial, [], by simp, .bool true, rfl, rfl, rfl, rfl⟩
    · cases hz
  have q1b : decide (k < 0) = false := decide_eq_false q1
  by_cases q2 : k > 4
  · have q2b : decide (k > 4) = true := decide_eq_true q2
    refine AWP.goFC (And.intro q0b (And.intro q1b (q2b))) (And.intro awake16 c17) ?_
    refine AWP.condA ?_ ?_ <;> intro hz
    · refine AWP.goA ?_
      refine AWP.ret ?_
      exact ⟨trivial, [], by simp, .bool true, rfl, rfl, rfl, rfl⟩
    · cases hz
  have q2b : decide (k > 4) = false := decide_eq_false q2
  by_cases q3 : p.procs.length = 0
  · have q3b : ((p.procs.length : Int) == 0) = true := by simpa using q3
    refine AWP.goFC (And.intro q0b (And.intro q1b (And.intro q2b (q3b)))) (And.intro awake16 c17) ?_
    refine AWP.condA ?_ ?_ <;> intro hz
    · refine AWP.goA ?_
      refine AWP.ret ?_
      exact ⟨trivial, [], by simp, .bool true, rfl, rfl, rfl, rfl⟩
    · cases hz
  have q3b : ((p.procs.length : Int) == 0) = false := by simpa using q3
  by_cases q4 : p.bufs.length = 0
  · have q4b : ((p.bufs.length : Int) == 0) = true := by simpa using q4
    refine AWP.goFC (And.intro q0b (And.intro q1b (And.intro q2b (And.intro q3b (q4b))))) (And.intro awake16 c17) ?_
    refine AWP.condA ?_ ?_ <;> intro hz
    · refine AWP.goA ?_
      refine AWP.ret ?_
      exact ⟨trivial, [], by simp, .bool true, rfl, rfl, rfl, rfl⟩
    · cases hz
  have q4b : ((p.bufs.length : Int) == 0) = false := by simpa using q4
  obtain ⟨b0, bt, hbf⟩ : ∃ b0 bt, p.bufs = b0 :: bt := by
    cases h : p.bufs with
    | nil => rw [h] at q4; exact absurd rfl q4
    | cons b t => exact ⟨b, t, rfl⟩
  have hi0 : ∀ h : Heap, aindexAddr' T10 h 31 (.lst (p.bufs.map encBuf)) 0 = some (.vptr (encBuf b0)) := fun h => by
    have h1 : 0 < p.bufs.length := by omega
    have h2 : p.bufs[0] = b0 := by simp [hbf]
    have h3 := idx31 (l := p.bufs) (i := 0) h1 h
    rw [h2] at h3
    exact h3
  simp only [encBuf] at hi0
  by_cases q5 : b0.vals.length = 0
  · have q5b : ((b0.vals.length : Int) == 0) = true := by simpa using q5
    refine AWP.goFC (And.intro q0b (And.intro q1b (And.intro q2b (And.intro q3b (And.intro q4b (And.intro hi0 (q5b))))))) (And.intro awake16 c17) ?_
    refine AWP.condA ?_ ?_ <;> intro hz
    · refine AWP.goA ?_
      refine AWP.ret ?_
      exact ⟨trivial, [], by simp, .bool true, rfl, rfl, rfl, rfl⟩
    · cases hz
  have q5b : ((b0.vals.length : Int) == 0) = false := by simpa using q5
  refine AWP.goFC (And.intro q0b (And.intro q1b (And.intro q2b (And.intro q3b (And.intro q4b (And.intro hi0 (q5b))))))) (And.intro awake16 c17) ?_
  refine AWP.condA ?_ ?_ <;> intro hz
  · cases hz
  have co := own29 p hs
  have cc := change32N c p k i 1 b0 bt hbf hs
  have c1 := same19 p p hs
  rw [decide_eq_true rfl] at c1
  have hkb := kb_change (b0 := b0) (p := p) ⟨b0, bt, hbf, rfl⟩ c k i 1
  have hlen := (good_change c p k i 1).len
  obtain ⟨r, hr⟩ : ∃ r, changeP c p k i 1 = r := ⟨_, rfl⟩
  rw [hr] at cc hkb hlen
  obtain ⟨b', bt', hb1, hb2⟩ := hkb
  have hvl : b'.vals.length = b0.vals.length := by rw [hb2]
  have ebf : bfOf 2 r.1 = bfObj 2 b' bt' := by unfold bfOf; rw [hb1]
  have evl : vlOf r.1 = vlObj b' := by unfold vlOf; rw [hb1]
  rw [ebf, evl] at cc
  obtain ⟨x, hx⟩ : ∃ x, r.1.procs[0]? = some x := ⟨_, List.getElem?_eq_getElem (by omega)⟩
  obtain ⟨v, hv⟩ : ∃ v, b'.vals[0]? = some v := ⟨_, List.getElem?_eq_getElem (by omega)⟩
  refine AWP.goC co ?_
  refine AWP.region ?_
  refine AOps.goA ?_
  refine AOps.conNB cc ?_
  refine AOps.goA ?_
  refine AOps.endA ?_
  simp only [Then]
  refine AWP.goC c1 ?_
  try simp only [List.take_succ_cons, List.take_zero, List.drop_succ_cons, List.drop_zero, keysL, keysA, List.append_nil, List.nil_append, splice_zero_cons, splice_zero_nil, splice_succ, AV.closedAll, AV.closed, Bool.and_true, Bool.and_self]
  have b3 : ((p.procs.length : Int) == 0) = false := q3b
  have b4 : ((p.bufs.length : Int) == 0) = false := q4b
  have b5 : ((b'.vals.length : Int) == 0) = false := by rw [hvl]; exact q5b
  have hixB : ∀ (h : Heap) (k : Nat), keySize h (.osl k 0 p.bufs.length) 4 = true → aindexAddr' T10 h 31 (.osl k 0 p.bufs.length) 0 = some (.ptr k 0 0) := idxOb (i := 0) (e := 69) rfl rfl rfl (by omega)
  have hixP : ∀ (h : Heap) (k : Nat), keySize h (.osl k 0 p.procs.length) 18 = true → aindexAddr' T10 h 29 (.osl k 0 p.procs.length) 0 = some (.ptr k 0 0) := idxOb (i := 0) (e := 49) rfl rfl rfl (by omega)
  have hixV : ∀ (h : Heap) (k : Nat), keySize h (.osl k 0 b'.vals.length) 1 = true → aindexAddr' T10 h 26 (.osl k 0 b'.vals.length) 0 = some (.ptr k 0 0) := idxOb (i := 0) (e := 3) rfl rfl rfl (by omega)
  have hldB : ∀ (h : Heap) (k : Nat), hget h k = some ⟨69, 4, false, encBufN 546 b' :: bt'.map encBuf⟩ → aload T10 h 26 (.ptr k 0 2) = some ⟨.osl 546 0 b'.vals.length, [], [k], []⟩ := load_at (i := 0) (q := 2) (r := encBufN 546 b') rfl rfl
  have hldP := ldP (n := 0) (q := 1) (t := 3) (v := iv x.prio) hx rfl
  have hstP := stP (n := 0) (q := 1) (t := 3) (v := iv (IntKind.i64.wrap (x.prio + 1))) { x with prio := IntKind.i64.wrap (x.prio + 1) } hx rfl rfl rfl (by simp) rfl rfl
  have hldV : ∀ (h : Heap) (k : Nat), hget h k = some (vlObj b') → aload T10 h 3 (.ptr k 0 0) = some ⟨iv v, [], [k], []⟩ := load_at (i := 0) (q := 0) (r := encI v) (by simp [hv]) rfl
  have hstV : ∀ (fb nt : Nat) (env : Env) (heap : Heap) (k : Nat), hget heap k = some (vlObj b') → astore T10 ⟨fb, nt, env, heap, []⟩ 3 (.ptr k 0 0) (iv (IntKind.i64.wrap (v + 1))) = some ⟨.tup [], [(k, ⟨3, 1, true, (b'.vals.map encI).set 0 [iv (IntKind.i64.wrap (v + 1))]⟩)], [k], []⟩ := store_at (i := 0) (q := 0) (r := encI v) (cs := [iv (IntKind.i64.wrap (v + 1))]) rfl rfl (by simp [hv]) rfl (by simp [encI]) rfl rfl
  simp only [encBufN] at hldB
  refine AWP.goF (And.intro b3 (And.intro b4 (And.intro b5 (And.intro hixB hldB)))) ?_
  refine AWP.condA ?_ ?_ <;> intro hz2
  · cases hz2
  refine AWP.goF (And.intro hixP (And.intro hldP hstP)) ?_
  refine AWP.goF (And.intro hixB (And.intro hldB (And.intro hixV (And.intro hldV hstV)))) ?_
  refine AWP.goC c1 ?_
  refine AWP.ret ?_
  exact ⟨trivial, [], by simp, .bool true, rfl, rfl, rfl, rfl⟩
end Go.Qd
