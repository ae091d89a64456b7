/- A part of the library of this claim: rules of an abstract machine (values in place of addresses), proved against the model, and contracts of the functions. -/
import Derived.Test.YtnodjmlldjdhdaaDoorQsA
set_option linter.unusedVariables false
set_option linter.unusedSimpArgs false
set_option maxHeartbeats 4000000
set_option maxRecDepth 10000
namespace Go.Qd
open Go Go.Proofs
/-! ### What the monitor does -/
def conc (x : Int) : Bool := decide (x = 1 ∨ x = 2)
def clip (v : Int) : Int := if 0 ≤ v ∧ v < 5 then v else 4
def act (l : List Int) (x : Int) : Int := if 1 ≤ x ∧ x < 7 ∧ x < l.length then clip (l[x.toNat]?.getD 0) else 0
/-- monitor.Concerns -/
theorem con11 (x : Int) : Con Tryd.prog 11 [iv x] (.bool (conc x)) [] := by
  refine ⟨⟨_, _, Tryd.func11, rfl, by decide⟩, ICall.of_body' T20_ok ⟨Tryd.func11, rfl, by decide⟩ (by simp [Tryd.f11]) ?_⟩
  by_cases h0 : 0 ≤ x
  case neg =>
    have f0 : decide (x ≥ 0) = false := by simpa using h0
    refine AWP.goF f0 ?_
    refine AWP.ret ?_
    exact ⟨trivial, [], by simp, .bool false, rfl, by rw [show conc x = false by simp [conc]; omega]; rfl, rfl, rfl⟩
  have f0 : decide (x ≥ 0) = true := by simpa using h0
  by_cases h5 : x < 5
  case neg =>
    have f1 : decide (x < 5) = false := by simpa using h5
    refine AWP.goF (And.intro f0 f1) ?_
    refine AWP.ret ?_
    exact ⟨trivial, [], by simp, .bool false, rfl, by rw [show conc x = false by simp [conc]; omega]; rfl, rfl, rfl⟩
  have hx : x = 0 ∨ x = 1 ∨ x = 2 ∨ x = 3 ∨ x = 4 := by omega
  rcases hx with rfl | rfl | rfl | rfl | rfl <;>
  · refine AWP.goA ?_
    refine AWP.ret ?_
    exact ⟨trivial, [], by simp, _, rfl, rfl, rfl, rfl⟩
/-- ref20.Concerns -/
theorem con9 (x : Int) : Con Tryd.prog 9 [iv x] (.bool (conc x)) [] := by
  refine ⟨⟨_, _, Tryd.func9, rfl, by decide⟩, ICall.of_body' T20_ok ⟨Tryd.func9, rfl, by decide⟩ (by simp [Tryd.f9]) ?_⟩
  by_cases h1 : x = 1
  · subst h1
    refine AWP.goA ?_
    refine AWP.ret ?_
    exact ⟨trivial, [], by simp, .bool true, rfl, rfl, rfl, rfl⟩
  · have f0 : (x == 1) = false := by simpa using h1
    by_cases h2 : x = 2
    · subst h2
      refine AWP.goA ?_
      refine AWP.ret ?_
      exact ⟨trivial, [], by simp, .bool true, rfl, rfl, rfl, rfl⟩
    · have f1 : (x == 2) = false := by simpa using h2
      refine AWP.goF (And.intro f0 f1) ?_
      refine AWP.ret ?_
      exact ⟨trivial, [], by simp, .bool false, rfl, by rw [show conc x = false by simp [conc]; omega]; rfl, rfl, rfl⟩
theorem act_out {l : List Int} {x : Int} (h : ¬ (1 ≤ x ∧ x < 7 ∧ x < l.length)) : act l x = 0 := if_neg h
theorem act_in {l : List Int} {i : Nat} (h1 : 1 ≤ i) (h2 : i < 7) (hi : i < l.length) : act l (i : Int) = clip l[i] := by
  unfold act
  rw [if_pos ⟨by omega, by omega, by omega⟩]
  simp [hi]
/-- ref20.Action -/
theorem con8 (l : List Int) (x : Int) : Con Tryd.prog 8 [Il l, iv x] (iv (act l x)) [] := by
  refine ⟨⟨_, _, Tryd.func8, rfl, by decide⟩, ICall.of_body' T20_ok ⟨Tryd.func8, rfl, by decide⟩ (by simp [Tryd.f8]) ?_⟩
  by_cases h1 : x < 1
  · have f1 : decide (x < 1) = true := by simpa using h1
    refine AWP.goF f1 ?_
    refine AWP.condA ?_ ?_ <;> intro hc
    case refine_2 => cases hc
    refine AWP.goA ?_
    refine AWP.ret ?_
    exact ⟨trivial, [], by simp, iv 0, rfl, by rw [act_out (by omega)]; rfl, rfl, rfl⟩
  have f1 : decide (x < 1) = false := by simpa using h1
  by_cases h7 : x ≥ 7
  · have f2 : decide (x ≥ 7) = true := by simpa using h7
    refine AWP.goF (And.intro f1 f2) ?_
    refine AWP.condA ?_ ?_ <;> intro hc
    case refine_2 => cases hc
    refine AWP.goA ?_
    refine AWP.ret ?_
    exact ⟨trivial, [], by simp, iv 0, rfl, by rw [act_out (by omega)]; rfl, rfl, rfl⟩
  have f2 : decide (x ≥ 7) = false := by simpa using h7
  by_cases hl : x ≥ (l.length : Int)
  · have f3 : decide (x ≥ (l.length : Int)) = true := by simpa using hl
    refine AWP.goF (And.intro f1 (And.intro f2 f3)) ?_
    refine AWP.condA ?_ ?_ <;> intro hc
    case refine_2 => cases hc
    refine AWP.goA ?_
    refine AWP.ret ?_
    exact ⟨trivial, [], by simp, iv 0, rfl, by rw [act_out (by omega)]; rfl, rfl, rfl⟩
  have f3 : decide (x ≥ (l.length : Int)) = false := by simpa using hl
  obtain ⟨i, rfl⟩ : ∃ i : Nat, x = (i : Int) := ⟨x.toNat, by omega⟩
  have hil : i < l.length := by omega
  refine AWP.goF (And.intro f1 (And.intro f2 f3)) ?_
  refine AWP.condA ?_ ?_ <;> intro hc
  · cases hc
  rw [act_in (by omega) (by omega) hil]
  by_cases h8 : l[i] < 0
  · have g1 : decide (l[i] < 0) = true := by simpa using h8
    refine AWP.goF (And.intro (idxI hil) g1) ?_
    refine AWP.condA ?_ ?_ <;> intro hc2
    case refine_2 => cases hc2
    refine AWP.goA ?_
    refine AWP.ret ?_
    exact ⟨trivial, [], by simp, iv 4, rfl, by rw [show clip l[i] = 4 from if_neg (by omega)]; rfl, rfl, rfl⟩
  have g1 : decide (l[i] < 0) = false := by simpa using h8
  by_cases h9 : l[i] ≥ 5
  · have g2 : decide (l[i] ≥ 5) = true := by simpa using h9
    refine AWP.goF (And.intro (idxI hil) (And.intro g1 g2)) ?_
    refine AWP.condA ?_ ?_ <;> intro hc2
    case refine_2 => cases hc2
    refine AWP.goA ?_
    refine AWP.ret ?_
    exact ⟨trivial, [], by simp, iv 4, rfl, by rw [show clip l[i] = 4 from if_neg (by omega)]; rfl, rfl, rfl⟩
  have g2 : decide (l[i] ≥ 5) = false := by simpa using h9
  refine AWP.goF (And.intro (idxI hil) (And.intro g1 g2)) ?_
  refine AWP.condA ?_ ?_ <;> intro hc2
  · cases hc2
  refine AWP.goA ?_
  refine AWP.ret ?_
  exact ⟨trivial, [], by simp, iv l[i], rfl, by rw [show clip l[i] = l[i] from if_pos (by omega)]; rfl, rfl, rfl⟩
/-- monitor.Action -/
theorem con10 (l : List Int) (x : Int) : Con Tryd.prog 10 [Il l, iv x] (iv (act l x)) [] := by
  refine ⟨⟨_, _, Tryd.func10, rfl, by decide⟩, ICall.of_body' T20_ok ⟨Tryd.func10, rfl, by decide⟩ (by simp [Tryd.f10]) ?_⟩
  by_cases h1 : x ≤ 0
  · have f1 : decide (x ≤ 0) = true := by simpa using h1
    refine AWP.goF f1 ?_
    refine AWP.condA ?_ ?_ <;> intro hc
    case refine_2 => cases hc
    refine AWP.goA ?_
    refine AWP.ret ?_
    exact ⟨trivial, [], by simp, iv 0, rfl, by rw [act_out (by omega)]; rfl, rfl, rfl⟩
  have f1 : decide (x ≤ 0) = false := by simpa using h1
  by_cases hl : x ≥ (if (l.length : Int) < 7 then (l.length : Int) else 7)
  · have f3 : decide (x ≥ (if (l.length : Int) < 7 then (l.length : Int) else 7)) = true := by simpa using hl
    refine AWP.goF (And.intro f1 f3) ?_
    refine AWP.condA ?_ ?_ <;> intro hc
    case refine_2 => cases hc
    refine AWP.goA ?_
    refine AWP.ret ?_
    exact ⟨trivial, [], by simp, iv 0, rfl, by rw [act_out (by split at hl <;> omega)]; rfl, rfl, rfl⟩
  have f3 : decide (x ≥ (if (l.length : Int) < 7 then (l.length : Int) else 7)) = false := by simpa using hl
  have hb : x < l.length ∧ x < 7 := by split at hl <;> omega
  obtain ⟨i, rfl⟩ : ∃ i : Nat, x = (i : Int) := ⟨x.toNat, by omega⟩
  have hil : i < l.length := by omega
  refine AWP.goF (And.intro f1 f3) ?_
  refine AWP.condA ?_ ?_ <;> intro hc
  · cases hc
  rw [act_in (by omega) (by omega) hil]
  by_cases h8 : l[i] ≥ 0
  case neg =>
    have g1 : decide (l[i] ≥ 0) = false := by simpa using h8
    refine AWP.goF (And.intro (idxI hil) g1) ?_
    refine AWP.condA ?_ ?_ <;> intro hc2
    · cases hc2
    refine AWP.goA ?_
    refine AWP.ret ?_
    exact ⟨trivial, [], by simp, iv 4, rfl, by rw [show clip l[i] = 4 from if_neg (by omega)]; rfl, rfl, rfl⟩
  have g1 : decide (l[i] ≥ 0) = true := by simpa using h8
  by_cases h9 : l[i] < 5
  case neg =>
    have g2 : decide (l[i] < 5) = false := by simpa using h9
    refine AWP.goF (And.intro (idxI hil) (And.intro g1 g2)) ?_
    refine AWP.condA ?_ ?_ <;> intro hc2
    · cases hc2
    refine AWP.goA ?_
    refine AWP.ret ?_
    exact ⟨trivial, [], by simp, iv 4, rfl, by rw [show clip l[i] = 4 from if_neg (by omega)]; rfl, rfl, rfl⟩
  have g2 : decide (l[i] < 5) = true := by simpa using h9
  refine AWP.goF (And.intro (idxI hil) (And.intro g1 g2)) ?_
  refine AWP.condA ?_ ?_ <;> intro hc2
  case refine_2 => cases hc2
  refine AWP.goA ?_
  refine AWP.ret ?_
  exact ⟨trivial, [], by simp, iv l[i], rfl, by rw [show clip l[i] = l[i] from if_pos (by omega)]; rfl, rfl, rfl⟩
/-- law20.awake -/
theorem awake7 : Con Tryd.prog 7 [] (.bool true) [] := by
  refine ⟨⟨_, _, Tryd.func7, rfl, by decide⟩, ICall.of_body' T20_ok ⟨Tryd.func7, rfl, by decide⟩ (by simp [Tryd.f7]) ?_⟩
  have c1 : Con Tryd.prog 10 [.lst [[iv 0], [iv 1], [iv 2]], iv 2] (iv 2) [] := con10 [0, 1, 2] 2
  have c2 : Con Tryd.prog 11 [iv 1] (.bool true) [] := con11 1
  have c3 : Con Tryd.prog 11 [iv 0] (.bool false) [] := con11 0
  refine AWP.goC (And.intro c1 (And.intro c2 c3)) ?_
  refine AWP.ret ?_
  exact ⟨trivial, [], by simp, .bool true, rfl, rfl, rfl, rfl⟩
end Go.Qd
