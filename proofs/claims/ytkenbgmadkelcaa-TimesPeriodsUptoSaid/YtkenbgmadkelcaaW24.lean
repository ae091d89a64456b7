/- A part of the library of this claim: rules of an abstract machine (values in place of addresses), proved against the model, and contracts of the functions. -/
import Derived.Test.YtkenbgmadkelcaaW22
set_option linter.unusedVariables false
set_option linter.unusedSimpArgs false
set_option maxHeartbeats 8000000
set_option maxRecDepth 10000
namespace Go.Qd
open Go Go.Proofs
def encL (l : List Wait) : List AV := [Wl l]
def mostL (ls : List (List Wait)) : Prop := ∀ l ∈ ls, l.length ≤ 20
instance (ls : List (List Wait)) : Decidable (mostL ls) := inferInstanceAs (Decidable (∀ l ∈ ls, l.length ≤ 20))
theorem idx76 {l : List (List Wait)} {i : Nat} (hi : i < l.length) (h : Heap) : aindexAddr' T10 h 76 (.lst (l.map encL)) (i : Int) = some (.vptr (encL l[i])) :=
  index_lst (e := 67) rfl rfl rfl (by simp [hi]) rfl
/-- law10.waits -/
theorem lwaits46 (n : Nat) (ls : List (List Wait)) (hl : ls.length ≤ 10000000) : Con Try.prog 46 [iv n, .lst (ls.map encL)] (.bool (decide (n ≤ 20 ∧ mostL ls))) [] := by
  refine ⟨⟨_, _, Try.func46, rfl, by decide⟩, ICall.of_body' T10_ok ⟨Try.func46, rfl, by decide⟩ (by simp [Try.f46]) ?_⟩
  refine AWP.goA ?_
  refine AWP.condA ?_ ?_ <;> intro hc
  · have hne : ¬ (n ≤ 20 ∧ mostL ls) := fun h => by have := h.1; simp at hc; omega
    refine AWP.goA ?_
    refine AWP.ret ?_
    exact ⟨trivial, [], by simp, .bool false, rfl, by rw [decide_eq_false hne]; rfl, rfl, rfl⟩
  have hn : n ≤ 20 := by simp at hc; omega
  refine AWP.goA ?_
  refine AWP.loopT (fun k : Nat => ⟨0, Try.f46.ntmps, [(1, .lst (ls.map encL)), (5, iv k)], [], []⟩) (fun k => k ≤ ls.length ∧ mostL (ls.take k)) (fun k => ls.length - k) 0 ⟨Nat.zero_le _, fun l h => by simp at h⟩
    (Thin.to [] rfl rfl rfl rfl rfl (by simp [envIn, eget, eput]) rfl) ?_
  rintro k ⟨hk, hm⟩
  refine AWP.goA ?_
  refine AWP.condA ?_ ?_ <;> intro hc1
  · have hkl : k < ls.length := by simpa using hc1
    have hw := wrap_succ (show k < 9223372036854775807 by omega)
    have hix := idx76 (l := ls) hkl
    simp only [encL] at hix
    refine AWP.goF hix ?_
    refine AWP.condA ?_ ?_ <;> intro hc2
    · have hne : ¬ (n ≤ 20 ∧ mostL ls) := fun h => by have := h.2 _ (List.getElem_mem hkl); simp at hc2; omega
      refine AWP.goA ?_
      refine AWP.ret ?_
      exact ⟨trivial, [], by simp, .bool false, rfl, by rw [decide_eq_false hne]; rfl, rfl, rfl⟩
    · refine AWP.goF hw ?_
      refine ⟨k + 1, ⟨by omega, fun l h => ?_⟩, by omega, Thin.to [] rfl rfl rfl rfl rfl (by simp [envIn, eget]) rfl⟩
      rw [List.take_succ_eq_append_getElem hkl] at h
      rcases List.mem_append.1 h with h | h
      · exact hm l h
      · simp only [List.mem_singleton] at h; subst h; simp at hc2; omega
  · have hke : k = ls.length := by simp at hc1; omega
    subst hke
    rw [List.take_length] at hm
    refine AWP.goA ?_
    refine AWP.ret ?_
    exact ⟨trivial, [], by simp, .bool true, rfl, by rw [decide_eq_true (And.intro hn hm)]; rfl, rfl, rfl⟩
/-- All lists of who waits. -/
def allL (p : Part) : List (List Wait) := p.boards.map Board.l ++ p.bufs.map Buf.l ++ p.semas.map Sema.l ++ p.events.map Event.l
def fewP (p : Part) : Prop := p.procs.length ≤ 20 ∧ p.samples.length ≤ 20 ∧ p.queues.length ≤ 20 ∧ p.mem.length ≤ 100 ∧ p.given.length ≤ 100 ∧ p.lines.length ≤ 100 ∧
  (∀ b ∈ p.bufs, b.vals.length ≤ 20) ∧ (∀ q ∈ p.queues, q.vals.length ≤ 20) ∧ (allL p).length ≤ 20 ∧ mostL (allL p)
instance (p : Part) : Decidable (fewP p) := inferInstanceAs (Decidable (_ ∧ _ ∧ _ ∧ _ ∧ _ ∧ _ ∧ _ ∧ _ ∧ _ ∧ _))
theorem fewP.small {p : Part} (h : fewP p) : Small 1000000 p := by
  obtain ⟨h1, h2, h3, h4, h5, h6, h7, h8, h9, h10⟩ := h
  have hl : p.boards.length + p.bufs.length + p.semas.length + p.events.length ≤ 20 := by simp [allL] at h9; omega
  have hm : ∀ l ∈ allL p, l.length ≤ 1000000 := fun l hl => by have := h10 l hl; omega
  exact ⟨by omega, by omega, by omega, by omega, by omega, by omega, by omega, by omega, by omega, by omega,
    fun b hb => hm _ (by simp only [allL, List.mem_append, List.mem_map]; exact .inl (.inl (.inl ⟨b, hb, rfl⟩))), fun b hb => hm _ (by simp only [allL, List.mem_append, List.mem_map]; exact .inl (.inl (.inr ⟨b, hb, rfl⟩))), fun b hb => by have := h7 b hb; omega,
    fun b hb => hm _ (by simp only [allL, List.mem_append, List.mem_map]; exact .inl (.inr ⟨b, hb, rfl⟩)), fun b hb => hm _ (by simp only [allL, List.mem_append, List.mem_map]; exact .inr ⟨b, hb, rfl⟩), fun b hb => by have := h8 b hb; omega⟩
/-- Nothing of a partition is too long for what Few makes of it. -/
structure Fits10 (p : Part) : Prop where
  boards : p.boards.length ≤ 1048576
  bufs : p.bufs.length ≤ 1048576
  semas : p.semas.length ≤ 1048576
  events : p.events.length ≤ 1048576
  queues : p.queues.length ≤ 1048576
theorem acc_succ {α : Type} (f : α → List Wait) (base : List (List Wait)) (l : List α) (k : Nat) (hk : k < l.length) : base ++ (l.take (k + 1)).map f = (base ++ (l.take k).map f) ++ [f l[k]] := by
  rw [List.take_succ_eq_append_getElem hk, List.map_append, List.append_assoc]; rfl
/-- What has been put together of them. -/
def acc0 (p : Part) (k : Nat) : List (List Wait) := (p.boards.take k).map Board.l
def acc1 (p : Part) (k : Nat) : List (List Wait) := p.boards.map Board.l ++ (p.bufs.take k).map Buf.l
def acc2 (p : Part) (k : Nat) : List (List Wait) := (p.boards.map Board.l ++ p.bufs.map Buf.l) ++ (p.semas.take k).map Sema.l
def acc3 (p : Part) (k : Nat) : List (List Wait) := (p.boards.map Board.l ++ p.bufs.map Buf.l ++ p.semas.map Sema.l) ++ (p.events.take k).map Event.l
theorem acc0_s (p : Part) (k : Nat) (hk : k < p.boards.length) : acc0 p (k + 1) = acc0 p k ++ [p.boards[k].l] := by simpa [acc0] using acc_succ Board.l [] p.boards k hk
theorem acc1_s (p : Part) (k : Nat) (hk : k < p.bufs.length) : acc1 p (k + 1) = acc1 p k ++ [p.bufs[k].l] := acc_succ Buf.l _ p.bufs k hk
theorem acc2_s (p : Part) (k : Nat) (hk : k < p.semas.length) : acc2 p (k + 1) = acc2 p k ++ [p.semas[k].l] := acc_succ Sema.l _ p.semas k hk
theorem acc3_s (p : Part) (k : Nat) (hk : k < p.events.length) : acc3 p (k + 1) = acc3 p k ++ [p.events[k].l] := acc_succ Event.l _ p.events k hk
theorem acc01 (p : Part) : acc0 p p.boards.length = acc1 p 0 := by simp [acc0, acc1]
theorem acc12 (p : Part) : acc1 p p.bufs.length = acc2 p 0 := by simp [acc1, acc2]
theorem acc23 (p : Part) : acc2 p p.semas.length = acc3 p 0 := by simp [acc2, acc3]
theorem acc34 (p : Part) : acc3 p p.events.length = allL p := by simp [acc3, allL]
theorem acc_len (p : Part) (hs : Fits10 p) (k : Nat) : (acc0 p k).length ≤ 4194304 ∧ (acc1 p k).length ≤ 4194304 ∧ (acc2 p k).length ≤ 4194304 ∧ (acc3 p k).length ≤ 4194304 := by
  have := hs.boards; have := hs.bufs; have := hs.semas; have := hs.events
  simp [acc0, acc1, acc2, acc3]; omega
abbrev lObj (l : List (List Wait)) : AObj := ⟨67, 1, true, l.map encL⟩
/-- law10.Few -/
theorem few17 (p : Part) (hs : Fits10 p) : Con Try.prog 17 [Pa p] (.bool (decide (fewP p))) [] := by
  refine ⟨⟨_, _, Try.func17, rfl, by decide⟩, ICall.of_body' T10_ok ⟨Try.func17, rfl, by decide⟩ (by simp [Try.f17]) ?_⟩
  refine AWP.goA ?_
  by_cases q0 : (p.procs.length : Int) > 20
  · have q0b : decide ((p.procs.length : Int) > 20) = true := decide_eq_true q0
    have q0n : ¬ fewP p := fun h => by have := h.1; omega
    refine AWP.goF (q0b) ?_
    refine AWP.condA ?_ ?_ <;> intro hz
    · refine AWP.goA ?_
      refine AWP.ret ?_
      exact ⟨trivial, [], by simp, .bool false, rfl, by rw [decide_eq_false q0n]; rfl, rfl, rfl⟩
    · cases hz
  have q0b : decide ((p.procs.length : Int) > 20) = false := decide_eq_false q0
  by_cases q1 : (p.samples.length : Int) > 20
  · have q1b : decide ((p.samples.length : Int) > 20) = true := decide_eq_true q1
    have q1n : ¬ fewP p := fun h => by have := h.2.1; omega
    refine AWP.goF (And.intro q0b (q1b)) ?_
    refine AWP.condA ?_ ?_ <;> intro hz
    · refine AWP.goA ?_
      refine AWP.ret ?_
      exact ⟨trivial, [], by simp, .bool false, rfl, by rw [decide_eq_false q1n]; rfl, rfl, rfl⟩
    · cases hz
  have q1b : decide ((p.samples.length : Int) > 20) = false := decide_eq_false q1
  by_cases q2 : (p.queues.length : Int) > 20
  · have q2b : decide ((p.queues.length : Int) > 20) = true := decide_eq_true q2
    have q2n : ¬ fewP p := fun h => by have := h.2.2.1; omega
    refine AWP.goF (And.intro q0b (And.intro q1b (q2b))) ?_
    refine AWP.condA ?_ ?_ <;> intro hz
    · refine AWP.goA ?_
      refine AWP.ret ?_
      exact ⟨trivial, [], by simp, .bool false, rfl, by rw [decide_eq_false q2n]; rfl, rfl, rfl⟩
    · cases hz
  have q2b : decide ((p.queues.length : Int) > 20) = false := decide_eq_false q2
  by_cases q3 : (p.mem.length : Int) > 100
  · have q3b : decide ((p.mem.length : Int) > 100) = true := decide_eq_true q3
    have q3n : ¬ fewP p := fun h => by have := h.2.2.2.1; omega
    refine AWP.goF (And.intro q0b (And.intro q1b (And.intro q2b (q3b)))) ?_
    refine AWP.condA ?_ ?_ <;> intro hz
    · refine AWP.goA ?_
      refine AWP.ret ?_
      exact ⟨trivial, [], by simp, .bool false, rfl, by rw [decide_eq_false q3n]; rfl, rfl, rfl⟩
    · cases hz
  have q3b : decide ((p.mem.length : Int) > 100) = false := decide_eq_false q3
  by_cases q4 : (p.given.length : Int) > 100
  · have q4b : decide ((p.given.length : Int) > 100) = true := decide_eq_true q4
    have q4n : ¬ fewP p := fun h => by have := h.2.2.2.2.1; omega
    refine AWP.goF (And.intro q0b (And.intro q1b (And.intro q2b (And.intro q3b (q4b))))) ?_
    refine AWP.condA ?_ ?_ <;> intro hz
    · refine AWP.goA ?_
      refine AWP.ret ?_
      exact ⟨trivial, [], by simp, .bool false, rfl, by rw [decide_eq_false q4n]; rfl, rfl, rfl⟩
    · cases hz
  have q4b : decide ((p.given.length : Int) > 100) = false := decide_eq_false q4
  by_cases q5 : (p.lines.length : Int) > 100
  · have q5b : decide ((p.lines.length : Int) > 100) = true := decide_eq_true q5
    have q5n : ¬ fewP p := fun h => by have := h.2.2.2.2.2.1; omega
    refine AWP.goF (And.intro q0b (And.intro q1b (And.intro q2b (And.intro q3b (And.intro q4b (q5b)))))) ?_
    refine AWP.condA ?_ ?_ <;> intro hz
    · refine AWP.goA ?_
      refine AWP.ret ?_
      exact ⟨trivial, [], by simp, .bool false, rfl, by rw [decide_eq_false q5n]; rfl, rfl, rfl⟩
    · cases hz
  have q5b : decide ((p.lines.length : Int) > 100) = false := decide_eq_false q5
  refine AWP.goF (And.intro q0b (And.intro q1b (And.intro q2b (And.intro q3b (And.intro q4b (q5b)))))) ?_
  refine AWP.condA ?_ ?_ <;> intro hz
  · cases hz
  refine AWP.goA ?_
  refine AWP.loopT (fun k : Nat => ⟨0, Try.f17.ntmps, [(1, .ptr 8 0 0), (3, .osl 480 0 (acc0 p k).length), (4, iv k)], [(8, paRow p), (480, lObj (acc0 p k))], []⟩) (fun k => k ≤ p.boards.length) (fun k => p.boards.length - k) 0 (Nat.zero_le _)
    ((Thin.ghost 3 480 67 1 (by rfl) (by rfl)).trans (Thin.to [] rfl rfl rfl rfl rfl (by simp [envIn, eget, eput, acc0]) (by simp [acc0] <;> rfl))) ?_
  rintro k hk
  refine AWP.goA ?_
  refine AWP.condA ?_ ?_ <;> intro hc1
  · have hkl : k < p.boards.length := by simpa using hc1
    have hw := wrap_succ (show k < 9223372036854775807 by have := hs.boards; omega)
    have hix := idx30 (l := p.boards) hkl
    obtain ⟨x, hx⟩ : ∃ x, p.boards[k] = x := ⟨_, rfl⟩
    rw [hx] at hix
    simp only [encBoard] at hix
    have e := acc0_s p k hkl
    rw [hx] at e
    have hlen : (acc0 p k).length ≤ 4194304 := (acc_len p hs k).1
    have e2 : lObj (acc0 p (k + 1)) = ⟨67, 1, true, (acc0 p k).map encL ++ [[Wl x.l]]⟩ := by rw [e]; simp [encL]
    have e3 : (acc0 p (k + 1)).length = (acc0 p k).length + 1 := by rw [e]; simp
    refine AWP.goF (And.intro hix hw) ?_
    exact ⟨k + 1, by omega, by omega, Thin.to [472] rfl rfl rfl rfl rfl (by simp [envIn, eget, e3]) (by rw [e2]; rfl)⟩
  have hk0 : k = p.boards.length := by simp at hc1; omega
  subst hk0
  rw [acc01]
  refine AWP.goA ?_
  refine AWP.loopT (fun k : Nat => ⟨0, Try.f17.ntmps, [(1, .ptr 8 0 0), (3, .osl 480 0 (acc1 p k).length), (5, iv k)], [(8, paRow p), (480, lObj (acc1 p k))], []⟩) (fun k => k ≤ p.bufs.length ∧ ∀ b ∈ p.bufs.take k, b.vals.length ≤ 20) (fun k => p.bufs.length - k) 0 ⟨Nat.zero_le _, fun b h => by simp at h⟩
    (Thin.to [] rfl rfl rfl rfl rfl (by simp [envIn, eget, eput]) (by simp [killsH])) ?_
  rintro k ⟨hk, hv⟩
  refine AWP.goA ?_
  refine AWP.condA ?_ ?_ <;> intro hc1
  · have hkl : k < p.bufs.length := by simpa using hc1
    have hw := wrap_succ (show k < 9223372036854775807 by have := hs.bufs; omega)
    have hix := idx31 (l := p.bufs) hkl
    obtain ⟨x, hx⟩ : ∃ x, p.bufs[k] = x := ⟨_, rfl⟩
    rw [hx] at hix
    simp only [encBuf] at hix
    have e := acc1_s p k hkl
    rw [hx] at e
    have hlen : (acc1 p k).length ≤ 4194304 := (acc_len p hs k).2.1
    have e2 : lObj (acc1 p (k + 1)) = ⟨67, 1, true, (acc1 p k).map encL ++ [[Wl x.l]]⟩ := by rw [e]; simp [encL]
    have e3 : (acc1 p (k + 1)).length = (acc1 p k).length + 1 := by rw [e]; simp
    refine AWP.goF hix ?_
    refine AWP.condA ?_ ?_ <;> intro hc2
    · have hne : ¬ fewP p := fun h => by have := h.2.2.2.2.2.2.1 x (hx ▸ List.getElem_mem hkl); simp at hc2; omega
      refine AWP.goA ?_
      refine AWP.ret ?_
      exact ⟨trivial, [], by simp, .bool false, rfl, by rw [decide_eq_false hne]; rfl, rfl, rfl⟩
    refine AWP.goF hw ?_
    refine ⟨k + 1, ⟨by omega, fun y hy => ?_⟩, by omega, Thin.to [600] rfl rfl rfl rfl rfl (by simp [envIn, eget, e3]) (by rw [e2]; rfl)⟩
    rw [List.take_succ_eq_append_getElem hkl] at hy
    rcases List.mem_append.1 hy with h | h
    · exact hv y h
    · simp only [List.mem_singleton] at h; subst h; rw [hx]; simp at hc2; omega
  have hk1 : k = p.bufs.length := by simp at hc1; omega
  subst hk1
  rw [acc12]
  rw [List.take_length] at hv
  refine AWP.goA ?_
  refine AWP.loopT (fun k : Nat => ⟨0, Try.f17.ntmps, [(1, .ptr 8 0 0), (3, .osl 480 0 (acc2 p k).length), (6, iv k)], [(8, paRow p), (480, lObj (acc2 p k))], []⟩) (fun k => k ≤ p.semas.length) (fun k => p.semas.length - k) 0 (Nat.zero_le _)
    (Thin.to [] rfl rfl rfl rfl rfl (by simp [envIn, eget, eput]) (by simp [killsH])) ?_
  rintro k hk
  refine AWP.goA ?_
  refine AWP.condA ?_ ?_ <;> intro hc1
  · have hkl : k < p.semas.length := by simpa using hc1
    have hw := wrap_succ (show k < 9223372036854775807 by have := hs.semas; omega)
    have hix := idx32 (l := p.semas) hkl
    obtain ⟨x, hx⟩ : ∃ x, p.semas[k] = x := ⟨_, rfl⟩
    rw [hx] at hix
    simp only [encSema] at hix
    have e := acc2_s p k hkl
    rw [hx] at e
    have hlen : (acc2 p k).length ≤ 4194304 := (acc_len p hs k).2.2.1
    have e2 : lObj (acc2 p (k + 1)) = ⟨67, 1, true, (acc2 p k).map encL ++ [[Wl x.l]]⟩ := by rw [e]; simp [encL]
    have e3 : (acc2 p (k + 1)).length = (acc2 p k).length + 1 := by rw [e]; simp
    refine AWP.goF (And.intro hix hw) ?_
    exact ⟨k + 1, by omega, by omega, Thin.to [792] rfl rfl rfl rfl rfl (by simp [envIn, eget, e3]) (by rw [e2]; rfl)⟩
  have hk2 : k = p.semas.length := by simp at hc1; omega
  subst hk2
  rw [acc23]
  refine AWP.goA ?_
  refine AWP.loopT (fun k : Nat => ⟨0, Try.f17.ntmps, [(1, .ptr 8 0 0), (3, .osl 480 0 (acc3 p k).length), (7, iv k)], [(8, paRow p), (480, lObj (acc3 p k))], []⟩) (fun k => k ≤ p.events.length) (fun k => p.events.length - k) 0 (Nat.zero_le _)
    (Thin.to [] rfl rfl rfl rfl rfl (by simp [envIn, eget, eput]) (by simp [killsH])) ?_
  rintro k hk
  refine AWP.goA ?_
  refine AWP.condA ?_ ?_ <;> intro hc1
  · have hkl : k < p.events.length := by simpa using hc1
    have hw := wrap_succ (show k < 9223372036854775807 by have := hs.events; omega)
    have hix := idx33 (l := p.events) hkl
    obtain ⟨x, hx⟩ : ∃ x, p.events[k] = x := ⟨_, rfl⟩
    rw [hx] at hix
    simp only [encEvent] at hix
    have e := acc3_s p k hkl
    rw [hx] at e
    have hlen : (acc3 p k).length ≤ 4194304 := (acc_len p hs k).2.2.2
    have e2 : lObj (acc3 p (k + 1)) = ⟨67, 1, true, (acc3 p k).map encL ++ [[Wl x.l]]⟩ := by rw [e]; simp [encL]
    have e3 : (acc3 p (k + 1)).length = (acc3 p k).length + 1 := by rw [e]; simp
    refine AWP.goF (And.intro hix hw) ?_
    exact ⟨k + 1, by omega, by omega, Thin.to [920] rfl rfl rfl rfl rfl (by simp [envIn, eget, e3]) (by rw [e2]; rfl)⟩
  have hk3 : k = p.events.length := by simp at hc1; omega
  subst hk3
  rw [acc34]
  refine AWP.goA ?_
  refine AWP.loopT (fun k : Nat => ⟨0, Try.f17.ntmps, [(1, .ptr 8 0 0), (3, .osl 480 0 (allL p).length), (8, iv k)], [(8, paRow p), (480, lObj (allL p))], []⟩) (fun k => k ≤ p.queues.length ∧ ∀ b ∈ p.queues.take k, b.vals.length ≤ 20) (fun k => p.queues.length - k) 0 ⟨Nat.zero_le _, fun b h => by simp at h⟩
    (Thin.to [] rfl rfl rfl rfl rfl (by simp [envIn, eget, eput]) (by simp [killsH])) ?_
  rintro k ⟨hk, hq⟩
  refine AWP.goA ?_
  refine AWP.condA ?_ ?_ <;> intro hc1
  · have hkl : k < p.queues.length := by simpa using hc1
    have hw := wrap_succ (show k < 9223372036854775807 by have := hs.queues; omega)
    have hix := idx35 (l := p.queues) hkl
    obtain ⟨x, hx⟩ : ∃ x, p.queues[k] = x := ⟨_, rfl⟩
    rw [hx] at hix
    simp only [encQueue] at hix
    refine AWP.goF hix ?_
    refine AWP.condA ?_ ?_ <;> intro hc2
    · have hne : ¬ fewP p := fun h => by have := h.2.2.2.2.2.2.2.1 x (hx ▸ List.getElem_mem hkl); simp at hc2; omega
      refine AWP.goA ?_
      refine AWP.ret ?_
      exact ⟨trivial, [], by simp, .bool false, rfl, by rw [decide_eq_false hne]; rfl, rfl, rfl⟩
    refine AWP.goF hw ?_
    refine ⟨k + 1, ⟨by omega, fun y hy => ?_⟩, by omega, Thin.to [] rfl rfl rfl rfl rfl (by simp [envIn, eget]) rfl⟩
    rw [List.take_succ_eq_append_getElem hkl] at hy
    rcases List.mem_append.1 hy with h | h
    · exact hq y h
    · simp only [List.mem_singleton] at h; subst h; rw [hx]; simp at hc2; omega
  have hk9 : k = p.queues.length := by simp at hc1; omega
  subst hk9
  rw [List.take_length] at hq
  have hlen : (allL p).length ≤ 10000000 := by rw [← acc34]; have := (acc_len p hs p.events.length).2.2.2; omega
  have c46 := lwaits46 (allL p).length (allL p) hlen
  have heq : decide ((allL p).length ≤ 20 ∧ mostL (allL p)) = decide (fewP p) := by
    rw [decide_eq_decide]
    exact ⟨fun h => ⟨by omega, by omega, by omega, by omega, by omega, by omega, hv, hq, h⟩, fun h => h.2.2.2.2.2.2.2.2⟩
  rw [heq] at c46
  refine AWP.goC c46 ?_
  refine AWP.ret ?_
  exact ⟨trivial, [], by simp, .bool (decide (fewP p)), rfl, rfl, rfl, rfl⟩
end Go.Qd
