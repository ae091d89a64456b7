/- A part of the library of this claim: rules of an abstract machine (values in place of addresses), proved against the model, and contracts of the functions. -/
import Derived.Test.YtfbmgodfpjeanaaW14d
import Derived.Test.YtfbmgodfpjeanaaW14e
set_option linter.unusedVariables false
set_option linter.unusedSimpArgs false
set_option maxHeartbeats 8000000
set_option maxRecDepth 10000
namespace Go.Qd
open Go Go.Proofs
/-! What a buffer becomes, and what that returns. -/
structure BR where
  v : List Int
  l : List Wait
  e : Int
  x : Int
  k : List Wake
def snd (dp : Int) (rk : Bool) (v : List Int) (l : List Wait) (w : Wait) (may : Bool) : BR :=
  if v = [] ∧ l ≠ [] then ⟨[], l.tail, 0, 0, [⟨(fstW l).proc, 0, w.value⟩]⟩
  else if (v.length : Int) < dp then ⟨v ++ [w.value], l, 0, 0, []⟩
  else if may = true then ⟨v, addW l w rk, 6, 0, []⟩ else ⟨v, l, 2, 0, []⟩
def tak (rk : Bool) (v : List Int) (l : List Wait) (w : Wait) (may : Bool) : BR := match v with
  | a :: t => match l with
    | x :: r => ⟨t ++ [x.value], r, 0, a, [⟨x.proc, 0, 0⟩]⟩
    | [] => ⟨t, [], 0, a, []⟩
  | [] => if may = true then ⟨[], addW l w rk, 6, 0, []⟩ else ⟨[], l, 2, 0, []⟩
theorem snd_len (dp : Int) (rk : Bool) (v : List Int) (l : List Wait) (w : Wait) (may : Bool) : (snd dp rk v l w may).v.length ≤ v.length + 1 ∧ (snd dp rk v l w may).l.length ≤ l.length + 1 ∧ (snd dp rk v l w may).k.length ≤ 1 := by
  unfold snd
  split
  · simp; omega
  · split
    · simp
    · split
      · simp [addW_len]
      · simp
theorem tak_len (rk : Bool) (v : List Int) (l : List Wait) (w : Wait) (may : Bool) : (tak rk v l w may).v.length ≤ v.length + 1 ∧ (tak rk v l w may).l.length ≤ l.length + 1 ∧ (tak rk v l w may).k.length ≤ 1 := by
  unfold tak
  split
  · split <;> simp <;> omega
  · split <;> simp [addW_len]
theorem send62 (dp : Int) (rk : Bool) (v : List Int) (l : List Wait) (w : Wait) (may : Bool) (hv : v.length ≤ 10000) (hl : l.length ≤ 10000) : Con Try.prog 62 [Bu dp rk v l, .agg (encWait w), .bool may] (.tup [Bu dp rk (snd dp rk v l w may).v (snd dp rk v l w may).l, iv (snd dp rk v l w may).e, Kl (snd dp rk v l w may).k]) [] := by
  unfold snd
  split
  · rename_i h
    obtain ⟨rfl, h⟩ := h
    cases l with
    | nil => exact absurd rfl h
    | cons x r => exact send62_a dp rk x r w may (by simp at hl; omega)
  · rename_i h
    have h0 : v ≠ [] ∨ l = [] := by
      cases l with
      | nil => exact .inr rfl
      | cons x r => exact .inl fun hv => h ⟨hv, by simp⟩
    split
    · rename_i hd
      cases v with
      | nil =>
        have hn : l = [] := by simpa using h0
        subst hn
        exact send62_b dp rk w may (by simpa using hd)
      | cons a t => exact send62_c dp rk a t l w may (by simp at hv; omega) hl (by simpa using hd)
    · rename_i hd
      cases may
      · exact send62_no dp rk v l w hv hl h0 hd
      · exact send62_wait dp rk v l w hv hl h0 hd
theorem send63 (dp : Int) (rk : Bool) (v : List Int) (l : List Wait) (w : Wait) (may : Bool) (hv : v.length ≤ 10000) (hl : l.length ≤ 10000) : Con Try.prog 63 [Bu dp rk v l, .agg (encWait w), .bool may] (.tup [Bu dp rk (snd dp rk v l w may).v (snd dp rk v l w may).l, iv (snd dp rk v l w may).e, Kl (snd dp rk v l w may).k]) [] := by
  unfold snd
  split
  · rename_i h
    obtain ⟨rfl, h⟩ := h
    cases l with
    | nil => exact absurd rfl h
    | cons x r => exact send63_a dp rk x r w may (by simp at hl; omega)
  · rename_i h
    have h0 : v ≠ [] ∨ l = [] := by
      cases l with
      | nil => exact .inr rfl
      | cons x r => exact .inl fun hv => h ⟨hv, by simp⟩
    split
    · rename_i hd
      exact send63_b dp rk v l w may hv hl h0 hd
    · rename_i hd
      cases may
      · exact send63_no dp rk v l w hv hl h0 hd
      · exact send63_wait dp rk v l w hv hl h0 hd
theorem take65 (dp : Int) (rk : Bool) (v : List Int) (l : List Wait) (w : Wait) (may : Bool) (hv : v.length ≤ 10000) (hl : l.length ≤ 10000) : Con Try.prog 65 [Bu dp rk v l, .agg (encWait w), .bool may] (.tup [Bu dp rk (tak rk v l w may).v (tak rk v l w may).l, iv (tak rk v l w may).e, iv (tak rk v l w may).x, Kl (tak rk v l w may).k]) [] := by
  cases v with
  | cons a t => cases l with
    | nil => exact (take65_n dp rk a t w may (by simp at hv; omega)).close (by simp [convA, convL, enumH, hget, lsA, lsL, List.take_of_length_le, tak])
    | cons x r => exact (take65_c dp rk a t x r w may (by simp at hv; omega) (by simp at hl; omega)).close (by simp [convA, convL, enumH, hget, lsA, lsL, List.take_of_length_le, tak])
  | nil =>
    cases may
    · exact take65_no dp rk l w hl
    · exact take65_wait dp rk l w hl
theorem take66 (dp : Int) (rk : Bool) (v : List Int) (l : List Wait) (w : Wait) (may : Bool) (hv : v.length ≤ 10000) (hl : l.length ≤ 10000) : Con Try.prog 66 [Bu dp rk v l, .agg (encWait w), .bool may] (.tup [Bu dp rk (tak rk v l w may).v (tak rk v l w may).l, iv (tak rk v l w may).e, iv (tak rk v l w may).x, Kl (tak rk v l w may).k]) [] := by
  cases v with
  | cons a t => cases l with
    | nil => exact take66_n dp rk a t w may (by simp at hv; omega)
    | cons x r => exact take66_c dp rk a t x r w may (by simp at hv; omega) (by simp at hl; omega)
  | nil =>
    cases may
    · exact take66_no dp rk l w hl
    · exact take66_wait dp rk l w hl
theorem snd_room {dp : Int} {rk : Bool} {v : List Int} {l : List Wait} {w : Wait} {may : Bool} (h0 : v ≠ [] ∨ l = []) (hd : (v.length : Int) < dp) : snd dp rk v l w may = ⟨v ++ [w.value], l, 0, 0, []⟩ := by
  unfold snd
  rw [if_neg (by rintro ⟨rfl, h⟩; rcases h0 with h0 | h0; exact h0 rfl; exact h h0), if_pos hd]
theorem snd_wait {dp : Int} {rk : Bool} {v : List Int} {l : List Wait} {w : Wait} (h0 : v ≠ [] ∨ l = []) (hd : ¬ (v.length : Int) < dp) : snd dp rk v l w true = ⟨v, addW l w rk, 6, 0, []⟩ := by
  unfold snd
  rw [if_neg (by rintro ⟨rfl, h⟩; rcases h0 with h0 | h0; exact h0 rfl; exact h h0), if_neg hd, if_pos rfl]
theorem snd_no {dp : Int} {rk : Bool} {v : List Int} {l : List Wait} {w : Wait} (h0 : v ≠ [] ∨ l = []) (hd : ¬ (v.length : Int) < dp) : snd dp rk v l w false = ⟨v, l, 2, 0, []⟩ := by
  unfold snd
  rw [if_neg (by rintro ⟨rfl, h⟩; rcases h0 with h0 | h0; exact h0 rfl; exact h h0), if_neg hd, if_neg (by simp)]
theorem snd_next {dp : Int} {rk : Bool} {x : Wait} {r : List Wait} {w : Wait} {may : Bool} : snd dp rk [] (x :: r) w may = ⟨[], r, 0, 0, [⟨x.proc, 0, w.value⟩]⟩ := by
  unfold snd
  rw [if_pos ⟨rfl, by simp⟩]; rfl
/-- law14.awake -/
theorem awake61 : Con Try.prog 61 [] (.bool true) [] := by
  refine ⟨⟨_, _, Try.func61, rfl, by decide⟩, ICall.of_body' T12_ok ⟨Try.func61, rfl, by decide⟩ (by simp [Try.f61]) ?_⟩
  have c1 : Con Try.prog 62 [.agg [iv 1, .bool false, .lst [], .lst []], .agg [iv 0, iv 0, iv 5], .bool true] (.tup [.agg [iv 1, .bool false, .lst [[iv 5]], .lst []], iv 0, .lst []]) [] := send62_b 1 false ⟨0, 0, 5⟩ true (by decide)
  have c2 : Con Try.prog 62 [.agg [iv 1, .bool false, .lst [[iv 5]], .lst []], .agg [iv 3, iv 0, iv 6], .bool true] (.tup [.agg [iv 1, .bool false, .lst [[iv 5]], .lst [[iv 3, iv 0, iv 6]]], iv 6, .lst []]) [] := send62_wait 1 false [5] [] ⟨3, 0, 6⟩ (by decide) (by decide) (.inl (by decide)) (by decide)
  have c3 : Con Try.prog 65 [.agg [iv 1, .bool false, .lst [[iv 5]], .lst [[iv 3, iv 0, iv 6]]], .agg [iv 0, iv 0, iv 0], .bool false] (.tup [.agg [iv 1, .bool false, .lst [[iv 6]], .lst []], iv 0, iv 5, .lst [[iv 3, iv 0, iv 0]]]) [] := take65 1 false [5] [⟨3, 0, 6⟩] ⟨0, 0, 0⟩ false (by decide) (by decide)
  have c4 : Con Try.prog 65 [.agg [iv 1, .bool false, .lst [[iv 6]], .lst []], .agg [iv 0, iv 0, iv 0], .bool false] (.tup [.agg [iv 1, .bool false, .lst [], .lst []], iv 0, iv 6, .lst []]) [] := take65 1 false [6] [] ⟨0, 0, 0⟩ false (by decide) (by decide)
  refine AWP.goC (And.intro c1 (And.intro c2 (And.intro c3 c4))) ?_
  refine AWP.ret ?_
  exact ⟨trivial, [], by simp, .bool true, rfl, rfl, rfl, rfl⟩
/-- law14.BufferDoes -/
theorem law23 (dp : Int) (rk : Bool) (v : List Int) (l : List Wait) (w : Wait) (may : Bool) : Con Try.prog 23 [Bu dp rk v l, .agg (encWait w), .bool may] (.bool true) [] := by
  refine ⟨⟨_, _, Try.func23, rfl, by decide⟩, ICall.of_body' T12_ok ⟨Try.func23, rfl, by decide⟩ (by simp [Try.f23]) ?_⟩
  by_cases hl : l.length ≤ 60
  case neg =>
    have d1 : decide ((l.length : Int) > 60) = true := by simp; omega
    refine AWP.goFC d1 awake61 ?_
    refine AWP.condA ?_ ?_ <;> intro hc
    · refine AWP.goA ?_
      refine AWP.ret ?_
      exact ⟨trivial, [], by simp, .bool true, rfl, rfl, rfl, rfl⟩
    · cases hc
  have d1 : decide ((l.length : Int) > 60) = false := by simp; omega
  by_cases hv : v.length ≤ 60
  case neg =>
    have d2 : decide ((v.length : Int) > 60) = true := by simp; omega
    refine AWP.goFC (And.intro d1 d2) awake61 ?_
    refine AWP.condA ?_ ?_ <;> intro hc
    · refine AWP.goA ?_
      refine AWP.ret ?_
      exact ⟨trivial, [], by simp, .bool true, rfl, rfl, rfl, rfl⟩
    · cases hc
  have d2 : decide ((v.length : Int) > 60) = false := by simp; omega
  refine AWP.goFC (And.intro d1 d2) awake61 ?_
  refine AWP.condA ?_ ?_ <;> intro hc
  · cases hc
  have hs := snd_len dp rk v l w may
  have ht := tak_len rk v l w may
  have hq : ∀ a : Int, (a == a) = true := fun a => by simp
  refine AWP.goC (And.intro (send62 dp rk v l w may (by omega) (by omega)) (And.intro (send63 dp rk v l w may (by omega) (by omega)) (And.intro (same64 dp rk (snd dp rk v l w may).v (snd dp rk v l w may).l (by omega) (by omega)) (wakesK (snd dp rk v l w may).k (by omega))))) ?_
  refine AWP.goFC hq (And.intro (take65 dp rk v l w may (by omega) (by omega)) (And.intro (take66 dp rk v l w may (by omega) (by omega)) (And.intro (same64 dp rk (tak rk v l w may).v (tak rk v l w may).l (by omega) (by omega)) (wakesK (tak rk v l w may).k (by omega))))) ?_
  refine AWP.ret ?_
  exact ⟨trivial, [], by simp, .bool true, rfl, rfl, rfl, rfl⟩
end Go.Qd
