/- A part of the library of this claim: rules of an abstract machine (values in place of addresses), proved against the model, and contracts of the functions. -/
import Derived.Test.YtfbmgodfpjeanaaLW14a
import Derived.Test.YtfbmgodfpjeanaaLW15d
set_option linter.unusedVariables false
set_option linter.unusedSimpArgs false
set_option maxHeartbeats 8000000
set_option maxRecDepth 10000
namespace Go.Qd
open Go Go.Proofs
theorem eqlSelf (a b c : Int) : abin T12 .eql 53 (.agg [iv a, iv b, iv c]) (.agg [iv a, iv b, iv c]) = some (.bool true) := by
  have := eqlK (x := ⟨a, b, c⟩) (y := ⟨a, b, c⟩)
  simpa [encWake] using this
/-- law14.BufferRanks -/
theorem law26 (l : List Wait) (rk : Bool) (x : Int) : Con Try.prog 26 [Wl l, .bool rk, iv x] (.bool true) [] := by
  refine ⟨⟨_, _, Try.func26, rfl, by decide⟩, ICall.of_body' T12_ok ⟨Try.func26, rfl, by decide⟩ (by simp [Try.f26]) ?_⟩
  by_cases hl0 : 1 ≤ l.length
  case neg =>
    have d1 : decide ((l.length : Int) < 1) = true := by simp; omega
    refine AWP.goFC d1 awake61 ?_
    refine AWP.condA ?_ ?_ <;> intro hc
    · refine AWP.goA ?_
      refine AWP.ret ?_
      exact ⟨trivial, [], by simp, .bool true, rfl, rfl, rfl, rfl⟩
    · cases hc
  have d1 : decide ((l.length : Int) < 1) = false := by simp; omega
  by_cases hl : l.length ≤ 60
  case neg =>
    have d2 : decide ((l.length : Int) > 60) = true := by simp; omega
    refine AWP.goFC (And.intro d1 d2) awake61 ?_
    refine AWP.condA ?_ ?_ <;> intro hc
    · refine AWP.goA ?_
      refine AWP.ret ?_
      exact ⟨trivial, [], by simp, .bool true, rfl, rfl, rfl, rfl⟩
    · cases hc
  have d2 : decide ((l.length : Int) > 60) = false := by simp; omega
  refine AWP.goFC (And.intro d1 d2) awake61 ?_
  refine AWP.condA ?_ ?_ <;> intro hc
  · cases hc
  refine AWP.goA ?_
  refine AWP.loopT (fun y : Nat × Nat × List Wait => ⟨0, Try.f26.ntmps, [(0, Wl l), (1, .bool rk), (2, iv x), (8, .ptr 64 0 0), (9, iv y.2.1), (10, iv y.1)], [(64, ⟨84, 4, true, [[iv 1, .bool rk, .lst [], Wl y.2.2]]⟩)], []⟩)
    (fun x => x.1 ≤ l.length ∧ x.2.1 < l.length ∧ x.2.2.length = x.1 ∧ (x.1 = 0 → x.2.1 = 0) ∧ (0 < x.1 → ∃ r, x.2.2 = (l[x.2.1]?.getD ⟨0, 0, 0⟩) :: r)) (fun x => l.length - x.1) (0, 0, []) (by simp; omega)
    ((Thin.ls 64 rfl).trans (Thin.to [] rfl rfl rfl rfl rfl (by simp [envIn, eget, eput]) rfl)) ?_
  rintro ⟨i, b, L⟩ ⟨hi, hb, hL, hz, hh⟩
  simp only at hi hb hL hz hh
  refine AWP.goA ?_
  refine AWP.condA ?_ ?_ <;> intro hc3
  case refine_2 =>
    have hie : i = l.length := by simp at hc3; omega
    obtain ⟨r, hr⟩ := hh (by omega)
    have hbx : l[b]?.getD ⟨0, 0, 0⟩ = l[b] := by simp [hb]
    rw [hbx] at hr; subst hr
    have hrl : r.length + 1 = l.length := by simp at hL; omega
    have cc : Con Try.prog 62 [.agg [iv 1, .bool rk, .lst [], Wl (l[b] :: r)], .agg [iv 0, iv 0, iv x], .bool false] (.tup [.agg [iv 1, .bool rk, .lst [], Wl r], iv 0, .lst [[iv l[b].proc, iv 0, iv x]]]) [] := send62_a 1 rk l[b] r ⟨0, 0, x⟩ false (by omega)
    have f1 : IntKind.i64.wrap ((l.length : Int) - 1) = (r.length : Int) := by rw [IntKind.wrap_i64]; omega
    have f2 : ∀ a : Int, (a == a) = true := fun a => by simp
    refine AWP.goFC (And.intro (idxW hb) (And.intro f1 (And.intro f2 eqlSelf))) cc ?_
    refine AWP.ret ?_
    exact ⟨trivial, [], by simp, .bool true, rfl, rfl, rfl, rfl⟩
  have hil : i < l.length := by simp at hc3; omega
  have hw := wrap_succ (show i < 9223372036854775807 by omega)
  have hal := addW_len L l[i] rk
  have cc : Con Try.prog 65 [.agg [iv 1, .bool rk, .lst [], Wl L], .agg (encWait l[i]), .bool true] (.tup [.agg [iv 1, .bool rk, .lst [], Wl (addW L l[i] rk)], iv 6, iv 0, .lst []]) [] := take65_wait 1 rk L l[i] (by omega)
  refine AWP.goFC (idxW hil) cc ?_
  refine AWP.condA ?_ ?_ <;> intro hc4
  · cases hc4
  cases rk with
  | false =>
    refine AWP.goA ?_
    refine AWP.condA ?_ ?_ <;> intro hc5
    · cases hc5
    refine AWP.goF hw ?_
    refine ⟨(i + 1, b, addW L l[i] false), ⟨by omega, by dsimp only; omega, by dsimp only; omega, by simp, ?_⟩, by simp; omega, Thin.to [88] rfl rfl rfl rfl rfl (by simp [envIn, eget, eput]) rfl⟩
    intro _
    dsimp only
    by_cases h0 : i = 0
    · subst h0
      have : b = 0 := hz rfl
      subst this
      have : L = [] := by simpa using hL
      subst this
      exact ⟨[], by simp [addW, hil]⟩
    · obtain ⟨r, hr⟩ := hh (by omega)
      subst hr
      exact ⟨_, addW_first _ _ _⟩
  | true =>
    by_cases hgt : l[b].prio < l[i].prio
    · have f1 : decide (l[i].prio > l[b].prio) = true := by simpa using hgt
      refine AWP.goF (And.intro (idxW hil) (And.intro (idxW hb) f1)) ?_
      refine AWP.condA ?_ ?_ <;> intro hc5
      case refine_2 => cases hc5
      refine AWP.goF hw ?_
      refine ⟨(i + 1, i, addW L l[i] true), ⟨by omega, by dsimp only; omega, by dsimp only; omega, by simp, ?_⟩, by simp; omega, Thin.to [88] rfl rfl rfl rfl rfl (by simp [envIn, eget, eput]) rfl⟩
      intro _
      dsimp only
      by_cases h0 : i = 0
      · subst h0
        have : b = 0 := hz rfl
        subst this
        omega
      · obtain ⟨r, hr⟩ := hh (by omega)
        have hbx : l[b]?.getD ⟨0, 0, 0⟩ = l[b] := by simp [hb]
        rw [hbx] at hr; subst hr
        exact ⟨l[b] :: r, by rw [addW_ahead _ _ _ hgt]; simp [hil]⟩
    · have f1 : decide (l[i].prio > l[b].prio) = false := by simpa using hgt
      refine AWP.goF (And.intro (idxW hil) (And.intro (idxW hb) f1)) ?_
      refine AWP.condA ?_ ?_ <;> intro hc5
      · cases hc5
      refine AWP.goF hw ?_
      refine ⟨(i + 1, b, addW L l[i] true), ⟨by omega, by dsimp only; omega, by dsimp only; omega, by simp, ?_⟩, by simp; omega, Thin.to [88] rfl rfl rfl rfl rfl (by simp [envIn, eget, eput]) rfl⟩
      intro _
      dsimp only
      by_cases h0 : i = 0
      · subst h0
        have : b = 0 := hz rfl
        subst this
        have : L = [] := by simpa using hL
        subst this
        exact ⟨[], by simp [addW, insW, hil]⟩
      · obtain ⟨r, hr⟩ := hh (by omega)
        have hbx : l[b]?.getD ⟨0, 0, 0⟩ = l[b] := by simp [hb]
        rw [hbx] at hr ⊢; subst hr
        exact ⟨_, addW_behind _ _ _ hgt⟩
end Go.Qd
