/- A part of the library of this claim: rules of an abstract machine (values in place of addresses), proved against the model, and contracts of the functions. -/
import Derived.Test.YtfbmgodfpjeanaaW15c
import Derived.Test.YtfbmgodfpjeanaaLW16c
set_option linter.unusedVariables false
set_option linter.unusedSimpArgs false
set_option maxHeartbeats 8000000
set_option maxRecDepth 10000
namespace Go.Qd
open Go Go.Proofs
/-- law15.SemaDoes -/
theorem law18 (c m : Int) (r : Bool) (l : List Wait) (w : Wait) (may : Bool) : Con Try.prog 18 [Se c m r l, .agg (encWait w), .bool may] (.bool true) [] := by
  refine ⟨⟨_, _, Try.func18, rfl, by decide⟩, ICall.of_body' T12_ok ⟨Try.func18, rfl, by decide⟩ (by simp [Try.f18]) ?_⟩
  refine AWP.goC awake55 ?_
  refine AWP.condA ?_ ?_ <;> intro hc
  · refine AWP.goA ?_
    refine AWP.ret ?_
    exact ⟨trivial, [], by simp, .bool true, rfl, rfl, rfl, rfl⟩
  · have hl : l.length ≤ 60 := by simp at hc; omega
    have hx := gL_len c r l w may
    have hk : (pK l).length ≤ 1000000 := by unfold pK; split <;> simp
    refine AWP.goC (And.intro (get56 c m r l w may (by omega)) (And.intro (get57 c m r l w may (by omega)) (And.intro (put58 c m r l (by omega)) (put59 c m r l (by omega))))) ?_
    refine AWP.goC (And.intro (same60 (gC c) m r (gL c r l w may) (by omega)) (And.intro (same60 (pC c m l) m r l.tail (by simp; omega)) (wakesK (pK l) hk))) ?_
    refine AWP.ret ?_
    exact ⟨trivial, [], by simp, .bool true, rfl, rfl, rfl, rfl⟩
/-- What is done to a semaphore. -/
structure Os where
  put : Bool
  may : Bool
  w : Wait
def encOs (o : Os) : List AV := [.bool o.put, .bool o.may, iv o.w.proc, iv o.w.prio, iv o.w.value]
abbrev Osl (l : List Os) : AV := .lst (l.map encOs)
theorem idxOs {l : List Os} {i : Nat} (hi : i < l.length) (h : Heap) : aindexAddr' T12 h 76 (.lst (l.map encOs)) (i : Int) = some (.vptr (encOs l[i])) :=
  index_lst (e := 78) rfl rfl rfl (by simp [hi]) rfl
abbrev sOs : Sh := .struct [.bool, .bool, sW]
theorem aOs {N : Nat} {a : AV} (h : shA N (.slice sOs) a) : ∃ l : List Os, a = Osl l := by
  obtain ⟨rows, h0, _, _, h⟩ := h
  obtain ⟨l, rfl⟩ := rows_map (enc := encOs) fun r hr => by
    obtain ⟨a, b, rfl, h1, c, d, rfl, h2, e, f, rfl, h3, rfl⟩ := h r hr
    obtain ⟨k, rfl⟩ := h1
    obtain ⟨m, rfl⟩ := h2
    obtain ⟨w, rfl⟩ := shW h3
    exact ⟨⟨k, m, w⟩, rfl⟩
  exact ⟨l, by simpa using h0⟩
set_option maxHeartbeats 16000000 in
/-- law15.SemaCounts -/
theorem law19 (count most : Int) (rk : Bool) (l : List Os) : Con Try.prog 19 [iv count, iv most, .bool rk, Osl l] (.bool true) [] := by
  refine ⟨⟨_, _, Try.func19, rfl, by decide⟩, ICall.of_body' T12_ok ⟨Try.func19, rfl, by decide⟩ (by simp [Try.f19]) ?_⟩
  by_cases hl : l.length ≤ 60
  case neg =>
    have d0 : decide ((l.length : Int) > 60) = true := by simp; omega
    refine AWP.goFC d0 awake55 ?_
    refine AWP.condA ?_ ?_ <;> intro hc
    · refine AWP.goA ?_
      refine AWP.ret ?_
      exact ⟨trivial, [], by simp, .bool true, rfl, rfl, rfl, rfl⟩
    · cases hc
  have d0 : decide ((l.length : Int) > 60) = false := by simp; omega
  by_cases h2 : 1 ≤ most
  case neg =>
    have d1 : decide (most < 1) = true := by simp; omega
    refine AWP.goFC (And.intro d1 d0) awake55 ?_
    refine AWP.condA ?_ ?_ <;> intro hc
    · refine AWP.goA ?_
      refine AWP.ret ?_
      exact ⟨trivial, [], by simp, .bool true, rfl, rfl, rfl, rfl⟩
    · cases hc
  have d1 : decide (most < 1) = false := by simp; omega
  by_cases h3 : most ≤ 8
  case neg =>
    have d2 : decide (most > 8) = true := by simp; omega
    refine AWP.goFC (And.intro d2 (And.intro d0 d1)) awake55 ?_
    refine AWP.condA ?_ ?_ <;> intro hc
    · refine AWP.goA ?_
      refine AWP.ret ?_
      exact ⟨trivial, [], by simp, .bool true, rfl, rfl, rfl, rfl⟩
    · cases hc
  have d2 : decide (most > 8) = false := by simp; omega
  by_cases h4 : 0 ≤ count
  case neg =>
    have d3 : decide (count < 0) = true := by simp; omega
    refine AWP.goFC (And.intro d3 (And.intro d0 (And.intro d1 d2))) awake55 ?_
    refine AWP.condA ?_ ?_ <;> intro hc
    · refine AWP.goA ?_
      refine AWP.ret ?_
      exact ⟨trivial, [], by simp, .bool true, rfl, rfl, rfl, rfl⟩
    · cases hc
  have d3 : decide (count < 0) = false := by simp; omega
  by_cases h5 : count ≤ most
  case neg =>
    have d4 : decide (count > most) = true := by simp; omega
    refine AWP.goFC (And.intro d4 (And.intro d0 (And.intro d1 (And.intro d2 d3)))) awake55 ?_
    refine AWP.condA ?_ ?_ <;> intro hc
    · refine AWP.goA ?_
      refine AWP.ret ?_
      exact ⟨trivial, [], by simp, .bool true, rfl, rfl, rfl, rfl⟩
    · cases hc
  have d4 : decide (count > most) = false := by simp; omega
  refine AWP.goFC (And.intro d0 (And.intro d1 (And.intro d2 (And.intro d3 d4)))) awake55 ?_
  refine AWP.condA ?_ ?_ <;> intro hc
  · cases hc
  refine AWP.goA ?_
  refine AWP.loopT (fun x : Nat × Int × List Wait => ⟨0, Try.f19.ntmps, [(0, iv count), (1, iv most), (2, .bool rk), (3, Osl l), (8, .bool false), (10, .ptr 80 0 0), (11, iv x.2.1), (12, iv x.1)], [(80, ⟨69, 4, true, [[iv x.2.1, iv most, .bool rk, Wl x.2.2]]⟩)], []⟩)
    (fun x => x.1 ≤ l.length ∧ 0 ≤ x.2.1 ∧ x.2.1 ≤ most ∧ x.2.2.length ≤ x.1 ∧ (0 < x.2.1 → x.2.2 = [])) (fun x => l.length - x.1) (0, count, []) (by simp; omega)
    ((Thin.ls 80 rfl).trans (Thin.to [] rfl rfl rfl rfl rfl (by simp [envIn, eget, eput]) rfl)) ?_
  rintro ⟨i, c, L⟩ ⟨hi, hc0, hcm, hL, hLn⟩
  simp only at hi hc0 hcm hL hLn
  refine AWP.goA ?_
  refine AWP.condA ?_ ?_ <;> intro hc3
  case refine_2 =>
    refine AWP.goA ?_
    refine AWP.ret ?_
    exact ⟨trivial, [], by simp, .bool true, rfl, rfl, rfl, rfl⟩
  have hil : i < l.length := by simp at hc3; omega
  have hw := wrap_succ (show i < 9223372036854775807 by omega)
  refine AWP.goF (idxOs hil) ?_
  cases hput : (l[i]).put
  · refine AWP.condA ?_ ?_ <;> intro hp
    · cases hp
    -- it is taken
    by_cases hpos : 0 < c
    · have hLe := hLn hpos
      subst hLe
      have hwc : IntKind.i64.wrap (c - 1) = c - 1 := by rw [IntKind.wrap_i64]; omega
      have cc : Con Try.prog 56 [.agg [iv c, iv most, .bool rk, .lst []], .agg (encWait (l[i]).w), .bool (l[i]).may] (.tup [.agg [iv (c - 1), iv most, .bool rk, .lst []], iv 0]) [] := by
        have := get56 c most rk [] (l[i]).w (l[i]).may (by simp)
        rw [show gC c = c - 1 by rw [gC, if_pos hpos, hwc], show gL c rk [] (l[i]).w (l[i]).may = [] from if_pos hpos, show gE c (l[i]).may = 0 from if_pos hpos] at this
        exact this
      have f2 : decide (c - 1 < 0) = false := by simp; omega
      have f3 : decide (c - 1 > most) = false := by simp; omega
      refine AWP.goFC (idxOs hil) cc ?_
      refine AWP.condA ?_ ?_ <;> intro hc4
      · by_cases hz : 0 < c - 1
        · have f4 : decide (c - 1 > 0) = true := by simpa using hz
          have f5 : decide (((0 : Nat) : Int) > 0) = false := by simp
          refine AWP.goF (And.intro hwc (And.intro f2 (And.intro f3 (And.intro f4 (And.intro f5 bneS))))) ?_
          refine AWP.condA ?_ ?_ <;> intro hc9
          · cases hc9
          · refine AWP.goF hw ?_
            exact ⟨(i + 1, c - 1, []), ⟨by omega, by dsimp only; omega, by dsimp only; omega, by simp <;> omega, by simp⟩, by simp; omega, Thin.to [128] rfl rfl rfl rfl rfl (by simp [envIn, eget, eput]) rfl⟩
        · have f4 : decide (c - 1 > 0) = false := by simpa using hz
          refine AWP.goF (And.intro hwc (And.intro f2 (And.intro f3 (And.intro f4 bneS)))) ?_
          refine AWP.condA ?_ ?_ <;> intro hc9
          · cases hc9
          · refine AWP.goF hw ?_
            exact ⟨(i + 1, c - 1, []), ⟨by omega, by dsimp only; omega, by dsimp only; omega, by simp <;> omega, by simp⟩, by simp; omega, Thin.to [128] rfl rfl rfl rfl rfl (by simp [envIn, eget, eput]) rfl⟩
      · cases hc4
    · have hz : c = 0 := by omega
      subst hz
      have f2 : decide ((0 : Int) < 0) = false := rfl
      have f3 : decide ((0 : Int) > most) = false := by simp; omega
      cases hm : (l[i]).may
      · have cc : Con Try.prog 56 [Se 0 most rk L, .agg (encWait (l[i]).w), .bool (l[i]).may] (.tup [Se 0 most rk L, iv 2]) [] := by
          have := get56 0 most rk L (l[i]).w false (by omega)
          rw [hm]; exact this
        refine AWP.goFC (idxOs hil) cc ?_
        refine AWP.condA ?_ ?_ <;> intro hc4
        · cases hc4
        · refine AWP.goF (And.intro f2 (And.intro f3 bneS)) ?_
          refine AWP.condA ?_ ?_ <;> intro hc9
          · cases hc9
          · refine AWP.goF hw ?_
            exact ⟨(i + 1, 0, L), ⟨by omega, by dsimp only; omega, by dsimp only; omega, by simp <;> omega, by simp⟩, by simp; omega, Thin.to [128] rfl rfl rfl rfl rfl (by simp [envIn, eget, eput]) rfl⟩
      · have cc : Con Try.prog 56 [Se 0 most rk L, .agg (encWait (l[i]).w), .bool (l[i]).may] (.tup [Se 0 most rk (addW L (l[i]).w rk), iv 6]) [] := by
          have := get56 0 most rk L (l[i]).w true (by omega)
          rw [hm]; exact this
        have hal := addW_len L (l[i]).w rk
        refine AWP.goFC (idxOs hil) cc ?_
        refine AWP.condA ?_ ?_ <;> intro hc4
        · cases hc4
        · refine AWP.goF (And.intro f2 (And.intro f3 bneS)) ?_
          refine AWP.condA ?_ ?_ <;> intro hc9
          · cases hc9
          · refine AWP.goF hw ?_
            exact ⟨(i + 1, 0, addW L (l[i]).w rk), ⟨by omega, by dsimp only; omega, by dsimp only; omega, by simp <;> omega, by simp⟩, by simp; omega, Thin.to [128] rfl rfl rfl rfl rfl (by simp [envIn, eget, eput]) rfl⟩
  · refine AWP.condA ?_ ?_ <;> intro hp
    case refine_2 => cases hp
    -- one is given
    cases L with
    | cons x r =>
      have hz : c = 0 := by
        by_cases h : 0 < c
        · exact absurd (hLn h) (by simp)
        · omega
      subst hz
      have hrl : r.length ≤ 60 := by simp at hL; omega
      have cc : Con Try.prog 58 [Se 0 most rk (x :: r)] (.tup [Se 0 most rk r, iv 0, .lst [[iv x.proc, iv 0, iv 0]]]) [] := put58 0 most rk (x :: r) (by omega)
      have f2 : decide ((0 : Int) < 0) = false := rfl
      have f3 : decide ((0 : Int) > most) = false := by simp; omega
      have hwn : IntKind.i64.wrap (IntKind.i64.wrap ((0 : Int) + 1) - ((1 : Nat) : Int)) = 0 := by decide
      refine AWP.goC cc ?_
      refine AWP.condA ?_ ?_ <;> intro hc4
      · refine AWP.goF (And.intro hwn (And.intro f2 (And.intro f3 bneS))) ?_
        refine AWP.condA ?_ ?_ <;> intro hc9
        · cases hc9
        · refine AWP.goF hw ?_
          exact ⟨(i + 1, 0, r), ⟨by omega, by dsimp only; omega, by dsimp only; omega, by simp at hL ⊢; omega, by simp⟩, by simp; omega, Thin.to [104] rfl rfl rfl rfl rfl (by simp [envIn, eget, eput]) rfl⟩
      · cases hc4
    | nil =>
      by_cases hlt : c < most
      · have hwc : IntKind.i64.wrap (c + 1) = c + 1 := by rw [IntKind.wrap_i64]; omega
        have hwn : IntKind.i64.wrap (c + 1 - ((0 : Nat) : Int)) = c + 1 := by rw [IntKind.wrap_i64]; omega
        have cc : Con Try.prog 58 [.agg [iv c, iv most, .bool rk, .lst []]] (.tup [.agg [iv (c + 1), iv most, .bool rk, .lst []], iv 0, .lst []]) [] := by
          have := put58 c most rk [] (by simp)
          rw [show pC c most [] = c + 1 by rw [pC, if_pos hlt, hwc], show pE c most [] = 0 from if_pos hlt] at this
          exact this
        have f2 : decide (c + 1 < 0) = false := by simp; omega
        have f3 : decide (c + 1 > most) = false := by simp; omega
        have f4 : decide (c + 1 > 0) = true := by simp; omega
        have f5 : decide (((0 : Nat) : Int) > 0) = false := by simp
        refine AWP.goC cc ?_
        refine AWP.condA ?_ ?_ <;> intro hc4
        · refine AWP.goF (And.intro hwc (And.intro hwn (And.intro f2 (And.intro f3 (And.intro f4 (And.intro f5 bneS)))))) ?_
          refine AWP.condA ?_ ?_ <;> intro hc9
          · cases hc9
          · refine AWP.goF hw ?_
            exact ⟨(i + 1, c + 1, []), ⟨by omega, by dsimp only; omega, by dsimp only; omega, by simp <;> omega, by simp⟩, by simp; omega, Thin.to [104] rfl rfl rfl rfl rfl (by simp [envIn, eget, eput]) rfl⟩
        · cases hc4
      · have cc : Con Try.prog 58 [.agg [iv c, iv most, .bool rk, .lst []]] (.tup [.agg [iv c, iv most, .bool rk, .lst []], iv 1, .lst []]) [] := by
          have := put58 c most rk [] (by simp)
          rw [show pC c most [] = c from if_neg hlt, show pE c most [] = 1 from if_neg hlt] at this
          exact this
        have f2 : decide (c < 0) = false := by simp; omega
        have f3 : decide (c > most) = false := by simp; omega
        have f4 : decide (c > 0) = true := by simp; omega
        have f5 : decide (((0 : Nat) : Int) > 0) = false := by simp
        refine AWP.goC cc ?_
        refine AWP.condA ?_ ?_ <;> intro hc4
        · cases hc4
        · refine AWP.goF (And.intro f2 (And.intro f3 (And.intro f4 (And.intro f5 bneS)))) ?_
          refine AWP.condA ?_ ?_ <;> intro hc9
          · cases hc9
          · refine AWP.goF hw ?_
            exact ⟨(i + 1, c, []), ⟨by omega, by dsimp only; omega, by dsimp only; omega, by simp <;> omega, by simp⟩, by simp; omega, Thin.to [104] rfl rfl rfl rfl rfl (by simp [envIn, eget, eput]) rfl⟩
end Go.Qd
