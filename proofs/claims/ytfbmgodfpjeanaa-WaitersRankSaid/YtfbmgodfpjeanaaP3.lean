/- A part of the library of this claim: rules of an abstract machine (values in place of addresses), proved against the model, and contracts of the functions. -/
import Derived.Test.YtfbmgodfpjeanaaQsB
set_option linter.unusedVariables false
set_option linter.unusedSimpArgs false
namespace Go.Qd
/-! ### Who is put in by rank, one behind the other -/
def reW (l : List Wait) (n : Nat) : Wait := match l[n]? with
  | some x => ⟨x.proc, x.prio, n⟩
  | none => ⟨0, 0, n⟩
def rkW (l : List Wait) : Nat → List Wait
  | 0 => []
  | n + 1 => addW (rkW l n) (reW l n) true
theorem reW_at {l : List Wait} {i : Nat} (h : i < l.length) : reW l i = ⟨l[i].proc, l[i].prio, i⟩ := by
  unfold reW; rw [List.getElem?_eq_getElem h]
theorem reW_value (l : List Wait) (n : Nat) : (reW l n).value = n := by
  unfold reW; split <;> rfl
theorem rkW_len (l : List Wait) (n : Nat) : (rkW l n).length = n := by
  induction n with
  | zero => rfl
  | succ n ih => simp [rkW, addW_len, ih]
def rkR (a b : Wait) : Prop := b.prio < a.prio ∨ (b.prio = a.prio ∧ a.value < b.value)
structure RkOk (n : Nat) (m : List Wait) : Prop where
  len : m.length = n
  mem : ∀ x ∈ m, ∃ j : Nat, j < n ∧ x.value = j
  ord : m.Pairwise rkR
  dis : m.Pairwise fun a b => a.value ≠ b.value
theorem mem_insW {w z : Wait} {l : List Wait} : z ∈ insW w l ↔ z = w ∨ z ∈ l := by
  induction l with
  | nil => simp [insW]
  | cons x r ih =>
    simp only [insW]
    split
    · simp
    · simp only [List.mem_cons, ih]
      constructor
      · rintro (h | h | h)
        · exact .inr (.inl h)
        · exact .inl h
        · exact .inr (.inr h)
      · rintro (h | h | h)
        · exact .inr (.inl h)
        · exact .inl h
        · exact .inr (.inr h)
theorem insW_ord {w : Wait} : ∀ {l : List Wait}, l.Pairwise rkR → (∀ x ∈ l, x.value < w.value) → (insW w l).Pairwise rkR := by
  intro l
  induction l with
  | nil => intro _ _; simp [insW]
  | cons x r ih =>
    intro h hv
    rw [List.pairwise_cons] at h
    simp only [insW]
    split
    · rename_i hlt
      rw [List.pairwise_cons]
      refine ⟨fun y hy => ?_, List.pairwise_cons.2 h⟩
      rcases List.mem_cons.1 hy with rfl | hy
      · exact .inl hlt
      · have hq : y.prio < x.prio ∨ (y.prio = x.prio ∧ x.value < y.value) := h.1 y hy
        left; omega
    · rename_i hge
      rw [List.pairwise_cons]
      refine ⟨fun y hy => ?_, ih h.2 (fun z hz => hv z (List.mem_cons_of_mem _ hz))⟩
      rcases mem_insW.1 hy with rfl | hy
      · have := hv x (List.mem_cons_self ..)
        by_cases e : y.prio = x.prio
        · exact .inr ⟨e, this⟩
        · left; omega
      · exact h.1 y hy
theorem insW_dis {w : Wait} : ∀ {l : List Wait}, (l.Pairwise fun a b => a.value ≠ b.value) → (∀ x ∈ l, x.value < w.value) → (insW w l).Pairwise fun a b => a.value ≠ b.value := by
  intro l
  induction l with
  | nil => intro _ _; simp [insW]
  | cons x r ih =>
    intro h hv
    rw [List.pairwise_cons] at h
    simp only [insW]
    split
    · rw [List.pairwise_cons]
      refine ⟨fun y hy => ?_, List.pairwise_cons.2 h⟩
      have := hv y hy
      omega
    · rw [List.pairwise_cons]
      refine ⟨fun y hy => ?_, ih h.2 (fun z hz => hv z (List.mem_cons_of_mem _ hz))⟩
      rcases mem_insW.1 hy with rfl | hy
      · have := hv x (List.mem_cons_self ..); omega
      · exact h.1 y hy
theorem rkW_ok (l : List Wait) : ∀ n, RkOk n (rkW l n) := by
  intro n
  induction n with
  | zero => exact ⟨rfl, fun x h => (by simp [rkW] at h), List.Pairwise.nil, List.Pairwise.nil⟩
  | succ n ih =>
    have hv : ∀ x ∈ rkW l n, x.value < (reW l n).value := fun x hx => by
      obtain ⟨j, h1, h2⟩ := ih.mem x hx
      rw [reW_value, h2]; omega
    refine ⟨rkW_len l (n + 1), fun x hx => ?_, insW_ord ih.ord hv, insW_dis ih.dis hv⟩
    rcases mem_insW.1 hx with rfl | hx
    · exact ⟨n, by omega, reW_value l n⟩
    · obtain ⟨j, h1, h2⟩ := ih.mem x hx
      exact ⟨j, by omega, h2⟩
/-- Which values were met among the first i. -/
def seenB (m : List Wait) (i : Nat) (v : Nat) : Bool := (m.take i).any fun x => decide (x.value = (v : Int))
theorem seenB_zero (m : List Wait) (v : Nat) : seenB m 0 v = false := by simp [seenB]
theorem seenB_succ {m : List Wait} {i : Nat} (hi : i < m.length) (v : Nat) : seenB m (i + 1) v = (seenB m i v || decide (m[i].value = (v : Int))) := by
  unfold seenB
  rw [List.take_succ_eq_append_getElem hi, List.any_append]
  simp
theorem seenB_new {n : Nat} {m : List Wait} (h : RkOk n m) {i j : Nat} (hi : i < m.length) (hj : m[i].value = (j : Int)) : seenB m i j = false := by
  rw [Bool.eq_false_iff]
  intro hs
  obtain ⟨x, hx, hv⟩ := List.any_eq_true.1 hs
  obtain ⟨k, hk, rfl⟩ := List.mem_iff_getElem.1 hx
  rw [List.getElem_take] at hv
  have hk2 : k < i := by have := hk; simp at this; omega
  have := List.pairwise_iff_getElem.1 h.dis k i (by omega) hi hk2
  simp at hv
  rw [hv, hj] at this
  exact this rfl
end Go.Qd
