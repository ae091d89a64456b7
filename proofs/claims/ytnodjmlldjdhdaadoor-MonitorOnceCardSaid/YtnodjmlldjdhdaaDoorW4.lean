/- A part of the library of this claim: rules of an abstract machine (values in place of addresses), proved against the model, and contracts of the functions. -/
import Derived.Test.YtnodjmlldjdhdaaDoorW3
set_option linter.unusedVariables false
set_option linter.unusedSimpArgs false
set_option maxHeartbeats 8000000
set_option maxRecDepth 10000
namespace Go.Qd
open Go Go.Proofs
theorem idxOI {n i : Nat} (hi : i < n) : ∀ (h : Heap) (k : Nat), keySize h (.osl k 0 n) 1 = true → aindexAddr' T20 h 22 (.osl k 0 n) (i : Int) = some (.ptr k i 0) := fun h k hk => by
  have h1 : tget T20 22 = some { kind := .slice 3, size := 1, bytes := 24, zero := [.esl] } := rfl
  have h2 : tget T20 3 = some { kind := .int .i64, size := 1, bytes := 8, zero := [.int .i64 0] } := rfl
  unfold aindexAddr' aindexAddr
  simp only [h1, h2]
  rw [if_pos ⟨by omega, by omega⟩]
  simp only [hk, if_true]
  simp
theorem storeI {l : List Int} {j : Nat} (hj : j < l.length) (z : Int) : ∀ (fb nt : Nat) (env : Env) (heap : Heap) (k : Nat), hget heap k = some ⟨3, 1, true, l.map encI⟩ →
    astore T20 ⟨fb, nt, env, heap, []⟩ 3 (.ptr k j 0) (iv z) = some ⟨.tup [], [(k, ⟨3, 1, true, (l.set j z).map encI⟩)], [k], []⟩ := fun fb nt env heap k hk => by
  have h2 : tget T20 3 = some { kind := .int .i64, size := 1, bytes := 8, zero := [.int .i64 0] } := rfl
  unfold astore
  have hc : cellsOf (iv z) = some [iv z] := rfl
  simp only [h2, hc, hk]
  have : (l.map encI)[j]? = some (encI l[j]) := by simp [hj]
  rw [this]
  simp only
  rw [if_pos ⟨rfl, by simp [encI], by simp⟩]
  rw [List.map_set]
  rfl
theorem act_set (l : List Int) (j : Nat) (z x : Int) (h : (j : Int) ≠ x) : act (l.set j z) x = act l x := by
  unfold act
  rw [List.length_set]
  split
  · rw [List.getElem?_set_ne (by omega)]
  · rfl
theorem closeI {l : List Int} {j : Nat} {z : Int} : ((l.set j z).map encI).length = l.length := by simp
theorem act_ge (l : List Int) (x : Int) : 0 ≤ act l x ∧ act l x < 5 := by
  unfold act; split
  · unfold clip; split <;> omega
  · omega
/-- law20.MonitorOnce -/
theorem law4 (l : List Int) (x y z : Int) : Con Tryd.prog 4 [Il l, iv x, iv y, iv z] (.bool true) [] := by
  refine ⟨⟨_, _, Tryd.func4, rfl, by decide⟩, ICall.of_body' T20_ok ⟨Tryd.func4, rfl, by decide⟩ (by simp [Tryd.f4]) ?_⟩
  refine AWP.goC awake7 ?_
  refine AWP.condA ?_ ?_ <;> intro hc
  · refine AWP.goA ?_
    refine AWP.ret ?_
    exact ⟨trivial, [], by simp, .bool true, rfl, rfl, rfl, rfl⟩
  have hl : l.length ≤ 100 := by simp at hc; omega
  obtain ⟨hA0, hA5⟩ := act_ge l x
  have cA := con10 l x
  have hout : ¬ (1 ≤ x ∧ x < 7) → act l x = 0 := fun h => act_out (fun h2 => h ⟨h2.1, h2.2.1⟩)
  have hset : ∀ j : Nat, (j : Int) ≠ x → Con Tryd.prog 10 [Il (l.set j z), iv x] (iv (act l x)) [] := fun j h => by
    have := con10 (l.set j z) x
    rw [act_set l j z x h] at this; exact this
  generalize act l x = A at *
  have f0 : decide (A < 0) = false := by simpa using hA0
  have f1 : decide (A ≥ 5) = false := by simpa using hA5
  have e1 : ∀ a : Int, (a == a) = true := fun a => by simp
  by_cases a1 : x < 1
  · have g1 : decide (x < 1) = true := by simpa using a1
    have hz0 : A = 0 := hout (by omega)
    subst hz0
    refine AWP.goFC g1 cA ?_
    refine AWP.condA ?_ ?_ <;> intro hc2
    · cases hc2
    by_cases y1 : y = x
    · have k1 : (y == x) = true := by simpa using y1
      refine AWP.goF k1 ?_
      refine AWP.condA ?_ ?_ <;> intro hc3
      case refine_2 => cases hc3
      refine AWP.goA ?_
      refine AWP.ret ?_
      exact ⟨trivial, [], by simp, .bool true, rfl, rfl, rfl, rfl⟩
    have k1 : (y == x) = false := by simpa using y1
    by_cases y2 : y < 0
    · have k2 : decide (y < 0) = true := by simpa using y2
      refine AWP.goF (And.intro k1 k2) ?_
      refine AWP.condA ?_ ?_ <;> intro hc3
      case refine_2 => cases hc3
      refine AWP.goA ?_
      refine AWP.ret ?_
      exact ⟨trivial, [], by simp, .bool true, rfl, rfl, rfl, rfl⟩
    have k2 : decide (y < 0) = false := by simpa using y2
    by_cases y3 : y ≥ (l.length : Int)
    · have k3 : decide (y ≥ (l.length : Int)) = true := by simpa using y3
      refine AWP.goF (And.intro k1 (And.intro k2 k3)) ?_
      refine AWP.condA ?_ ?_ <;> intro hc3
      case refine_2 => cases hc3
      refine AWP.goA ?_
      refine AWP.ret ?_
      exact ⟨trivial, [], by simp, .bool true, rfl, rfl, rfl, rfl⟩
    have k3 : decide (y ≥ (l.length : Int)) = false := by simpa using y3
    refine AWP.goF (And.intro k1 (And.intro k2 k3)) ?_
    refine AWP.condA ?_ ?_ <;> intro hc3
    · cases hc3
    obtain ⟨j, rfl⟩ : ∃ j : Nat, y = (j : Int) := ⟨y.toNat, by omega⟩
    have hjl : j < l.length := by omega
    have cB := hset j y1
    refine AWP.goFC (And.intro (idxOI hjl) (storeI hjl z)) (appI (l := l) (by omega)) ?_
    refine AWP.region ?_
    refine AOps.goA ?_
    refine AOps.conF (closeI (l := l) (j := j) (z := z)) cB ?_
    refine AOps.goF e1 ?_
    refine AOps.endA ?_
    simp only [Then]
    refine AWP.goA ?_
    refine AWP.ret ?_
    exact ⟨trivial, [], by simp, .bool true, rfl, rfl, rfl, rfl⟩
  have g1 : decide (x < 1) = false := by simpa using a1
  by_cases a2 : x ≥ 7
  · have g2 : decide (x ≥ 7) = true := by simpa using a2
    have hz0 : A = 0 := hout (by omega)
    subst hz0
    refine AWP.goFC (And.intro g1 g2) cA ?_
    refine AWP.condA ?_ ?_ <;> intro hc2
    · cases hc2
    by_cases y1 : y = x
    · have k1 : (y == x) = true := by simpa using y1
      refine AWP.goF k1 ?_
      refine AWP.condA ?_ ?_ <;> intro hc3
      case refine_2 => cases hc3
      refine AWP.goA ?_
      refine AWP.ret ?_
      exact ⟨trivial, [], by simp, .bool true, rfl, rfl, rfl, rfl⟩
    have k1 : (y == x) = false := by simpa using y1
    by_cases y2 : y < 0
    · have k2 : decide (y < 0) = true := by simpa using y2
      refine AWP.goF (And.intro k1 k2) ?_
      refine AWP.condA ?_ ?_ <;> intro hc3
      case refine_2 => cases hc3
      refine AWP.goA ?_
      refine AWP.ret ?_
      exact ⟨trivial, [], by simp, .bool true, rfl, rfl, rfl, rfl⟩
    have k2 : decide (y < 0) = false := by simpa using y2
    by_cases y3 : y ≥ (l.length : Int)
    · have k3 : decide (y ≥ (l.length : Int)) = true := by simpa using y3
      refine AWP.goF (And.intro k1 (And.intro k2 k3)) ?_
      refine AWP.condA ?_ ?_ <;> intro hc3
      case refine_2 => cases hc3
      refine AWP.goA ?_
      refine AWP.ret ?_
      exact ⟨trivial, [], by simp, .bool true, rfl, rfl, rfl, rfl⟩
    have k3 : decide (y ≥ (l.length : Int)) = false := by simpa using y3
    refine AWP.goF (And.intro k1 (And.intro k2 k3)) ?_
    refine AWP.condA ?_ ?_ <;> intro hc3
    · cases hc3
    obtain ⟨j, rfl⟩ : ∃ j : Nat, y = (j : Int) := ⟨y.toNat, by omega⟩
    have hjl : j < l.length := by omega
    have cB := hset j y1
    refine AWP.goFC (And.intro (idxOI hjl) (storeI hjl z)) (appI (l := l) (by omega)) ?_
    refine AWP.region ?_
    refine AOps.goA ?_
    refine AOps.conF (closeI (l := l) (j := j) (z := z)) cB ?_
    refine AOps.goF e1 ?_
    refine AOps.endA ?_
    simp only [Then]
    refine AWP.goA ?_
    refine AWP.ret ?_
    exact ⟨trivial, [], by simp, .bool true, rfl, rfl, rfl, rfl⟩
  have g2 : decide (x ≥ 7) = false := by simpa using a2
  refine AWP.goFC (And.intro f0 (And.intro f1 (And.intro g1 g2))) cA ?_
  refine AWP.condA ?_ ?_ <;> intro hc2
  · cases hc2
  by_cases y1 : y = x
  · have k1 : (y == x) = true := by simpa using y1
    refine AWP.goF k1 ?_
    refine AWP.condA ?_ ?_ <;> intro hc3
    case refine_2 => cases hc3
    refine AWP.goA ?_
    refine AWP.ret ?_
    exact ⟨trivial, [], by simp, .bool true, rfl, rfl, rfl, rfl⟩
  have k1 : (y == x) = false := by simpa using y1
  by_cases y2 : y < 0
  · have k2 : decide (y < 0) = true := by simpa using y2
    refine AWP.goF (And.intro k1 k2) ?_
    refine AWP.condA ?_ ?_ <;> intro hc3
    case refine_2 => cases hc3
    refine AWP.goA ?_
    refine AWP.ret ?_
    exact ⟨trivial, [], by simp, .bool true, rfl, rfl, rfl, rfl⟩
  have k2 : decide (y < 0) = false := by simpa using y2
  by_cases y3 : y ≥ (l.length : Int)
  · have k3 : decide (y ≥ (l.length : Int)) = true := by simpa using y3
    refine AWP.goF (And.intro k1 (And.intro k2 k3)) ?_
    refine AWP.condA ?_ ?_ <;> intro hc3
    case refine_2 => cases hc3
    refine AWP.goA ?_
    refine AWP.ret ?_
    exact ⟨trivial, [], by simp, .bool true, rfl, rfl, rfl, rfl⟩
  have k3 : decide (y ≥ (l.length : Int)) = false := by simpa using y3
  refine AWP.goF (And.intro k1 (And.intro k2 k3)) ?_
  refine AWP.condA ?_ ?_ <;> intro hc3
  · cases hc3
  obtain ⟨j, rfl⟩ : ∃ j : Nat, y = (j : Int) := ⟨y.toNat, by omega⟩
  have hjl : j < l.length := by omega
  have cB := hset j y1
  refine AWP.goFC (And.intro (idxOI hjl) (storeI hjl z)) (appI (l := l) (by omega)) ?_
  refine AWP.region ?_
  refine AOps.goA ?_
  refine AOps.conF (closeI (l := l) (j := j) (z := z)) cB ?_
  refine AOps.goF e1 ?_
  refine AOps.endA ?_
  simp only [Then]
  refine AWP.goA ?_
  refine AWP.ret ?_
  exact ⟨trivial, [], by simp, .bool true, rfl, rfl, rfl, rfl⟩
end Go.Qd
