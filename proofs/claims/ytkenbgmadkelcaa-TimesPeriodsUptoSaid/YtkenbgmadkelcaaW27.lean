/- A part of the library of this claim: rules of an abstract machine (values in place of addresses), proved against the model, and contracts of the functions. -/
import Derived.Test.YtkenbgmadkelcaaW21
set_option linter.unusedVariables false
set_option linter.unusedSimpArgs false
set_option maxHeartbeats 8000000
set_option maxRecDepth 10000
namespace Go.Qd
open Go Go.Proofs
/-! ### What all that is done to a process has in common -/
theorem small_setP {m : Nat} {p : Part} (h : Small m p) (n : Nat) (x : Proc) : Small m (setP p n x) :=
  ⟨h.mem, by simpa [setP] using h.procs, h.boards, h.bufs, h.semas, h.events, h.samples, h.queues, h.lines, h.given, h.boardL, h.bufL, h.bufV, h.semaL, h.eventL, h.queueV⟩
theorem small_queueP {m : Nat} {p : Part} (h : Small m p) (n : Nat) (x : Proc) : Small m (queueP p n x) :=
  ⟨h.mem, by simpa [queueP] using h.procs, h.boards, h.bufs, h.semas, h.events, h.samples, h.queues, h.lines, h.given, h.boardL, h.bufL, h.bufV, h.semaL, h.eventL, h.queueV⟩
theorem small_leaveP {m : Nat} {p : Part} (h : Small m p) (i : Int) : Small m (leaveP i p) := by
  refine ⟨h.mem, h.procs, by simpa [leaveP, gPart] using h.boards, by simpa [leaveP, gPart] using h.bufs, by simpa [leaveP, gPart] using h.semas, by simpa [leaveP, gPart] using h.events, h.samples, h.queues, h.lines, h.given, ?_, ?_, ?_, ?_, ?_, h.queueV⟩
  · intro b hb
    obtain ⟨b0, h0, rfl⟩ := List.mem_map.1 hb
    exact Nat.le_trans (noP_len _ _) (h.boardL b0 h0)
  · intro b hb
    obtain ⟨b0, h0, rfl⟩ := List.mem_map.1 hb
    exact Nat.le_trans (noP_len _ _) (h.bufL b0 h0)
  · intro b hb
    obtain ⟨b0, h0, rfl⟩ := List.mem_map.1 hb
    exact h.bufV b0 h0
  · intro b hb
    obtain ⟨b0, h0, rfl⟩ := List.mem_map.1 hb
    exact Nat.le_trans (noP_len _ _) (h.semaL b0 h0)
  · intro b hb
    obtain ⟨b0, h0, rfl⟩ := List.mem_map.1 hb
    exact Nat.le_trans (noP_len _ _) (h.eventL b0 h0)
structure Good (p : Part) (n : Int) (r : Part × Int) : Prop where
  fail : r.2 ≠ 0 → r.1 = p
  len : r.1.procs.length = p.procs.length
  oth : ∀ j : Nat, (j : Int) ≠ n → r.1.procs[j]? = p.procs[j]?
  lo : 0 ≤ r.2
  hi : r.2 ≤ 4
  small : Small 1000000 p → Small 1000000 r.1
theorem good_same (p : Part) (n : Int) (c : Int) (h0 : 0 ≤ c) (h1 : c ≤ 4) : Good p n (p, c) := ⟨fun _ => rfl, rfl, fun _ _ => rfl, h0, h1, id⟩
theorem good_set (p : Part) (n : Nat) (x : Proc) : Good p n (setP p n x, 0) :=
  ⟨fun h => absurd rfl h, by simp [setP], fun j hj => by simp only [setP]; rw [List.getElem?_set_ne (by omega)], Int.le_refl _, (show (0 : Int) ≤ 4 by decide), fun h => small_setP h n x⟩
theorem good_queue (p : Part) (n : Nat) (x : Proc) : Good p n (queueP p n x, 0) :=
  ⟨fun h => absurd rfl h, by simp [queueP], fun j hj => by simp only [queueP]; rw [List.getElem?_set_ne (by omega)], Int.le_refl _, (show (0 : Int) ≤ 4 by decide), fun h => small_queueP h n x⟩
theorem good_start (c : Conf) (p : Part) (n : Nat) (now : Int) : Good p n (startP c p n now) := by
  unfold startP
  split
  · exact good_same _ _ _ (by decide) (by decide)
  · split
    · exact good_same _ _ _ (by decide) (by decide)
    · split
      · exact good_queue _ _ _
      · exact good_same _ _ _ (by decide) (by decide)
theorem good_stop (p : Part) (n : Nat) : Good p n (stopP p n) := by
  unfold stopP
  split
  · exact good_same _ _ _ (by decide) (by decide)
  · split
    · exact good_same _ _ _ (by decide) (by decide)
    · have h := good_set (leaveP n p) n (dormP (by assumption : Proc).prio)
      exact ⟨fun h => absurd rfl h, h.len, h.oth, Int.le_refl _, (show (0 : Int) ≤ 4 by decide), fun hs => small_setP (small_leaveP hs _) _ _⟩
theorem good_suspend (c : Conf) (p : Part) (n : Nat) : Good p n (suspendP c p n) := by
  unfold suspendP
  split
  · exact good_same _ _ _ (by decide) (by decide)
  · split
    · exact good_same _ _ _ (by decide) (by decide)
    · split
      · exact good_same _ _ _ (by decide) (by decide)
      · split
        · exact good_same _ _ _ (by decide) (by decide)
        · exact good_set _ _ _
theorem good_resume (p : Part) (n : Nat) : Good p n (resumeP p n) := by
  unfold resumeP
  split
  · exact good_same _ _ _ (by decide) (by decide)
  · split
    · exact good_same _ _ _ (by decide) (by decide)
    · split
      · split
        · exact good_queue _ _ _
        · exact good_set _ _ _
      · exact good_same _ _ _ (by decide) (by decide)
theorem good_prio (p : Part) (n : Nat) (v : Int) : Good p n (prioP p n v) := by
  unfold prioP
  split
  · exact good_same _ _ _ (by decide) (by decide)
  · split
    · exact good_same _ _ _ (by decide) (by decide)
    · split
      · exact good_same _ _ _ (by decide) (by decide)
      · split
        · exact good_queue _ _ _
        · exact good_set _ _ _
theorem good_opP (f : Nat → Part × Int) (p : Part) (i : Int) (h : ∀ n : Nat, Good p n (f n)) : Good p i (opP f p i) := by
  unfold opP
  split
  · rename_i hi
    have := h i.toNat
    rwa [Int.toNat_of_nonneg hi.1] at this
  · exact good_same _ _ _ (by decide) (by decide)
theorem good_change (c : Conf) (p : Part) (k i n : Int) : Good p i (changeP c p k i n) := by
  unfold changeP
  split
  · exact good_opP _ _ _ fun m => good_start c p m n
  · split
    · exact good_opP _ _ _ fun m => good_stop p m
    · split
      · exact good_opP _ _ _ fun m => good_suspend c p m
      · split
        · exact good_opP _ _ _ fun m => good_resume p m
        · exact good_opP _ _ _ fun m => good_prio p m n
theorem small_blockP {p : Part} (h : Small 1000000 p) (n : Nat) (a b c d : Int) : Small 1000000 (blockP p n a b c d) := by
  unfold blockP
  split
  · exact h
  · split
    · exact small_setP h _ _
    · exact h
theorem small_goP {p : Part} (h : Small 1000000 p) (n : Nat) (a b : Int) : Small 1000000 (goP p n a b).1 := by
  unfold goP
  split
  · exact h
  · split
    · exact small_queueP h _ _
    · exact h
theorem small_opQ {p : Part} (f : Nat → Part) (i : Int) (hp : Small 1000000 p) (h : ∀ n, Small 1000000 (f n)) : Small 1000000 (opQ f p i) := by
  unfold opQ
  split
  · exact h _
  · exact hp
end Go.Qd
