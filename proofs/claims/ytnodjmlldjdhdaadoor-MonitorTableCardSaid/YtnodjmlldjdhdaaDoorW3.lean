/- A part of the library of this claim: rules of an abstract machine (values in place of addresses), proved against the model, and contracts of the functions. -/
import Derived.Test.YtnodjmlldjdhdaaDoorW2
set_option linter.unusedVariables false
set_option linter.unusedSimpArgs false
set_option maxHeartbeats 8000000
set_option maxRecDepth 10000
namespace Go.Qd
open Go Go.Proofs
/-- law20.MonitorActs -/
theorem law3 (l : List Int) (x y : Int) : Con Tryd.prog 3 [Il l, iv x, iv y] (.bool true) [] := by
  refine ⟨⟨_, _, Tryd.func3, rfl, by decide⟩, ICall.of_body' T20_ok ⟨Tryd.func3, rfl, by decide⟩ (by simp [Tryd.f3]) ?_⟩
  refine AWP.goC awake7 ?_
  refine AWP.condA ?_ ?_ <;> intro hc
  · refine AWP.goA ?_
    refine AWP.ret ?_
    exact ⟨trivial, [], by simp, .bool true, rfl, rfl, rfl, rfl⟩
  have e1 : ∀ a : Int, (a == a) = true := fun a => by simp
  have e2 : ∀ a : Bool, (a == a) = true := fun a => by simp
  refine AWP.goFC (And.intro e1 e2) (And.intro (con8 l x) (And.intro (con9 y) (And.intro (con10 l x) (con11 y)))) ?_
  refine AWP.ret ?_
  exact ⟨trivial, [], by simp, .bool true, rfl, rfl, rfl, rfl⟩
def cnt (i : Int) : Int := if i ≤ 1 then 0 else if i ≤ 2 then 1 else 2
/-- law20.MonitorWhom -/
theorem law6 (x : Int) : Con Tryd.prog 6 [iv x] (.bool true) [] := by
  refine ⟨⟨_, _, Tryd.func6, rfl, by decide⟩, ICall.of_body' T20_ok ⟨Tryd.func6, rfl, by decide⟩ (by simp [Tryd.f6]) ?_⟩
  refine AWP.goC awake7 ?_
  refine AWP.loopT (fun i : Int => ⟨0, Tryd.f6.ntmps, [(0, iv x), (2, .bool false), (3, .bool true), (4, iv (cnt i)), (5, iv i)], [], []⟩) (fun i => -2 ≤ i ∧ i ≤ 9) (fun i => (9 - i).toNat) (-2) (by simp)
    (Thin.to [] rfl rfl rfl rfl rfl (by simp [envIn, eget, eput, cnt]) rfl) ?_
  rintro i ⟨hi1, hi2⟩
  refine AWP.goA ?_
  refine AWP.condA ?_ ?_ <;> intro hc
  · have hi9 : i < 9 := by simpa using hc
    have hw : IntKind.i64.wrap (i + 1) = i + 1 := wrap_i (by omega) (by omega)
    refine AWP.goC (con11 i) ?_
    refine AWP.condA ?_ ?_ <;> intro hc2
    · have h12 : i = 1 ∨ i = 2 := by simpa [conc] using hc2
      have hk : IntKind.i64.wrap (cnt i + 1) = cnt (i + 1) := by rcases h12 with rfl | rfl <;> rfl
      refine AWP.goF (And.intro hw hk) ?_
      exact ⟨i + 1, ⟨by omega, by omega⟩, by omega, Thin.to [] rfl rfl rfl rfl rfl (by simp [envIn, eget]) rfl⟩
    · have h12 : ¬ (i = 1 ∨ i = 2) := by simpa [conc] using hc2
      have hk : cnt i = cnt (i + 1) := by unfold cnt; split <;> split <;> (try split) <;> (try split) <;> omega
      rw [hk]
      refine AWP.goF hw ?_
      exact ⟨i + 1, ⟨by omega, by omega⟩, by omega, Thin.to [] rfl rfl rfl rfl rfl (by simp [envIn, eget]) rfl⟩
  · have hi9 : i = 9 := by simp at hc; omega
    subst hi9
    have e2 : ∀ a : Bool, (a == a) = true := fun a => by simp
    rw [show cnt 9 = 2 from rfl]
    by_cases h1 : x = 1
    · subst h1
      have c1 : Con Tryd.prog 11 [iv 1] (.bool true) [] := con11 1
      refine AWP.goC c1 ?_
      refine AWP.ret ?_
      exact ⟨trivial, [], by simp, .bool true, rfl, rfl, rfl, rfl⟩
    · have f1 : (x == 1) = false := by simpa using h1
      have c1 : Con Tryd.prog 11 [iv x] (.bool (x == 2)) [] := by
        have := con11 x
        rw [show conc x = (x == 2) by rw [Bool.eq_iff_iff]; simp [conc, h1]] at this
        exact this
      refine AWP.goFC (And.intro f1 e2) c1 ?_
      refine AWP.ret ?_
      exact ⟨trivial, [], by simp, .bool true, rfl, rfl, rfl, rfl⟩
/-- law20.MonitorTable -/
theorem law5 (l : List Int) : Con Tryd.prog 5 [Il l] (.bool true) [] := by
  refine ⟨⟨_, _, Tryd.func5, rfl, by decide⟩, ICall.of_body' T20_ok ⟨Tryd.func5, rfl, by decide⟩ (by simp [Tryd.f5]) ?_⟩
  refine AWP.goC awake7 ?_
  refine AWP.condA ?_ ?_ <;> intro hc
  · refine AWP.goA ?_
    refine AWP.ret ?_
    exact ⟨trivial, [], by simp, .bool true, rfl, rfl, rfl, rfl⟩
  refine AWP.goA ?_
  refine AWP.loopT (fun i : Int => ⟨0, Tryd.f5.ntmps, [(0, Il l), (2, .bool false), (4, iv i)], [], []⟩) (fun i => -1 ≤ i ∧ i ≤ 8) (fun i => (8 - i).toNat) (-1) (by simp)
    (Thin.to [] rfl rfl rfl rfl rfl (by simp [envIn, eget, eput]) rfl) ?_
  rintro i ⟨hi1, hi2⟩
  refine AWP.goA ?_
  refine AWP.condA ?_ ?_ <;> intro hc
  case refine_2 =>
    refine AWP.goA ?_
    refine AWP.ret ?_
    exact ⟨trivial, [], by simp, .bool true, rfl, rfl, rfl, rfl⟩
  have hi7 : i ≤ 7 := by simpa using hc
  have hw : IntKind.i64.wrap (i + 1) = i + 1 := wrap_i (by omega) (by omega)
  by_cases hin : 1 ≤ i ∧ i < 7 ∧ i < (l.length : Int)
  case neg =>
    have c1 : Con Tryd.prog 10 [Il l, iv i] (iv 0) [] := by
      have := con10 l i
      rw [act_out hin] at this; exact this
    have fin : ∀ K : Prop, K → K := fun _ h => h
    by_cases g1 : 1 ≤ i
    case neg =>
      have f1 : decide (i ≥ 1) = false := by simpa using g1
      refine AWP.goFC f1 c1 ?_
      refine AWP.condA ?_ ?_ <;> intro hc2
      · cases hc2
      refine AWP.goA ?_
      refine AWP.condA ?_ ?_ <;> intro hc3
      · cases hc3
      refine AWP.goF hw ?_
      exact ⟨i + 1, ⟨by omega, by omega⟩, by omega, Thin.to [] rfl rfl rfl rfl rfl (by simp [envIn, eget]) rfl⟩
    have f1 : decide (i ≥ 1) = true := by simpa using g1
    by_cases g2 : i < 7
    case neg =>
      have f2 : decide (i < 7) = false := by simpa using g2
      refine AWP.goFC (And.intro f1 f2) c1 ?_
      refine AWP.condA ?_ ?_ <;> intro hc2
      · cases hc2
      refine AWP.goA ?_
      refine AWP.condA ?_ ?_ <;> intro hc3
      · cases hc3
      refine AWP.goF hw ?_
      exact ⟨i + 1, ⟨by omega, by omega⟩, by omega, Thin.to [] rfl rfl rfl rfl rfl (by simp [envIn, eget]) rfl⟩
    have f2 : decide (i < 7) = true := by simpa using g2
    have f3 : decide (i < (l.length : Int)) = false := by simp; omega
    refine AWP.goFC (And.intro f1 (And.intro f2 f3)) c1 ?_
    refine AWP.condA ?_ ?_ <;> intro hc2
    · cases hc2
    refine AWP.goA ?_
    refine AWP.condA ?_ ?_ <;> intro hc3
    · cases hc3
    refine AWP.goF hw ?_
    exact ⟨i + 1, ⟨by omega, by omega⟩, by omega, Thin.to [] rfl rfl rfl rfl rfl (by simp [envIn, eget]) rfl⟩
  obtain ⟨n, rfl⟩ : ∃ n : Nat, i = (n : Int) := ⟨i.toNat, by omega⟩
  have hnl : n < l.length := by omega
  have f1 : decide ((n : Int) ≥ 1) = true := by simp; omega
  have f2 : decide ((n : Int) < 7) = true := by simp; omega
  have f3 : decide ((n : Int) < (l.length : Int)) = true := by simp; omega
  have c1 : Con Tryd.prog 10 [Il l, iv n] (iv (clip l[n])) [] := by
    have := con10 l n
    rw [act_in (by omega) (by omega) hnl] at this; exact this
  refine AWP.goFC (And.intro f1 (And.intro f2 f3)) c1 ?_
  refine AWP.condA ?_ ?_ <;> intro hc2
  case refine_2 => cases hc2
  have fin4 : ∀ v : Int, clip v = v → (clip v != v) = false := fun v h => by simp [h]
  by_cases h8 : l[n] < 0
  · have g1 : decide (l[n] < 0) = true := by simpa using h8
    have g3 : (clip l[n] != 4) = false := by rw [show clip l[n] = 4 from if_neg (by omega)]; rfl
    refine AWP.goF (And.intro (idxI hnl) g1) ?_
    refine AWP.condA ?_ ?_ <;> intro hc3
    case refine_2 => cases hc3
    refine AWP.goF g3 ?_
    refine AWP.condA ?_ ?_ <;> intro hc4
    · cases hc4
    refine AWP.goF hw ?_
    exact ⟨(n : Int) + 1, ⟨by omega, by omega⟩, by omega, Thin.to [] rfl rfl rfl rfl rfl (by simp [envIn, eget]) rfl⟩
  have g1 : decide (l[n] < 0) = false := by simpa using h8
  by_cases h9 : l[n] > 4
  · have g2 : decide (l[n] > 4) = true := by simpa using h9
    have g3 : (clip l[n] != 4) = false := by rw [show clip l[n] = 4 from if_neg (by omega)]; rfl
    refine AWP.goF (And.intro (idxI hnl) (And.intro g1 g2)) ?_
    refine AWP.condA ?_ ?_ <;> intro hc3
    case refine_2 => cases hc3
    refine AWP.goF g3 ?_
    refine AWP.condA ?_ ?_ <;> intro hc4
    · cases hc4
    refine AWP.goF hw ?_
    exact ⟨(n : Int) + 1, ⟨by omega, by omega⟩, by omega, Thin.to [] rfl rfl rfl rfl rfl (by simp [envIn, eget]) rfl⟩
  have g2 : decide (l[n] > 4) = false := by simpa using h9
  have g3 : (clip l[n] != l[n]) = false := fin4 _ (if_pos (by omega))
  refine AWP.goF (And.intro (idxI hnl) (And.intro g1 g2)) ?_
  refine AWP.condA ?_ ?_ <;> intro hc3
  · cases hc3
  refine AWP.goF g3 ?_
  refine AWP.condA ?_ ?_ <;> intro hc4
  · cases hc4
  refine AWP.goF hw ?_
  exact ⟨(n : Int) + 1, ⟨by omega, by omega⟩, by omega, Thin.to [] rfl rfl rfl rfl rfl (by simp [envIn, eget]) rfl⟩
end Go.Qd
