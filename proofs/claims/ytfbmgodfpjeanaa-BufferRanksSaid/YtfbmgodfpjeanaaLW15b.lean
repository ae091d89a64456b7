/- A part of the library of this claim: rules of an abstract machine (values in place of addresses), proved against the model, and contracts of the functions. -/
import Derived.Test.YtfbmgodfpjeanaaLW15a
set_option linter.unusedVariables false
set_option linter.unusedSimpArgs false
set_option maxHeartbeats 8000000
set_option maxRecDepth 10000
namespace Go.Qd
open Go Go.Proofs
/-- law15.SemaFull -/
theorem law20 (most : Int) (w : Wait) : Con Try.prog 20 [iv most, .agg (encWait w)] (.bool true) [] := by
  refine ⟨⟨_, _, Try.func20, rfl, by decide⟩, ICall.of_body' T12_ok ⟨Try.func20, rfl, by decide⟩ (by simp [Try.f20]) ?_⟩
  by_cases h2 : 1 ≤ most
  case neg =>
    have d1 : decide (most < 1) = true := by simp; omega
    refine AWP.goFC d1 awake55 ?_
    refine AWP.condA ?_ ?_ <;> intro hc
    · refine AWP.goA ?_
      refine AWP.ret ?_
      exact ⟨trivial, [], by simp, .bool true, rfl, rfl, rfl, rfl⟩
    · cases hc
  have d1 : decide (most < 1) = false := by simp; omega
  by_cases h3 : most ≤ 8
  case neg =>
    have d2 : decide (most > 8) = true := by simp; omega
    refine AWP.goFC (And.intro d1 d2) awake55 ?_
    refine AWP.condA ?_ ?_ <;> intro hc
    · refine AWP.goA ?_
      refine AWP.ret ?_
      exact ⟨trivial, [], by simp, .bool true, rfl, rfl, rfl, rfl⟩
    · cases hc
  have d2 : decide (most > 8) = false := by simp; omega
  refine AWP.goFC (And.intro d1 d2) awake55 ?_
  refine AWP.condA ?_ ?_ <;> intro hc
  · cases hc
  have p1 : Con Try.prog 58 [.agg [iv most, iv most, .bool false, .lst []]] (.tup [.agg [iv most, iv most, .bool false, .lst []], iv 1, .lst []]) [] := put58_c most most false (by omega)
  refine AWP.goC p1 ?_
  refine AWP.loopT (fun i : Nat => ⟨0, Try.f20.ntmps, [(0, iv most), (3, .ptr 24 0 0), (4, .bool false), (6, .ptr 48 0 0), (8, iv 1), (10, iv i)], [(24, ⟨25, 3, true, [encWait w]⟩), (48, ⟨69, 4, true, [[iv (most - i), iv most, .bool false, .lst []]]⟩)], []⟩) (fun i => (i : Int) ≤ most) (fun i => most.toNat - i) 0 (by simp; omega)
    ((Thin.ls 48 rfl).trans (Thin.to [56] rfl rfl rfl rfl rfl (by simp [envIn, eget, eput]) (by simp [killsH, killH, killO, hput, lsL, lsA]))) ?_
  rintro i hi
  refine AWP.goA ?_
  refine AWP.condA ?_ ?_ <;> intro hc3
  · have hil : (i : Int) < most := by simpa using hc3
    have hwc : IntKind.i64.wrap (most - (i : Int) - 1) = most - ((i + 1 : Nat) : Int) := by rw [IntKind.wrap_i64]; omega
    have cc : Con Try.prog 56 [.agg [iv (most - i), iv most, .bool false, .lst []], .agg (encWait w), .bool false] (.tup [.agg [iv (most - ((i + 1 : Nat) : Int)), iv most, .bool false, .lst []], iv 0]) [] := by
      have := get56 (most - i) most false [] w false (by simp)
      rw [show gC (most - i) = most - ((i + 1 : Nat) : Int) by rw [gC, if_pos (by omega), hwc], show gL (most - i) false [] w false = [] from if_pos (by omega), show gE (most - i) false = 0 from if_pos (by omega)] at this
      exact this
    refine AWP.goC cc ?_
    refine AWP.condA ?_ ?_ <;> intro hc4
    · cases hc4
    · refine AWP.goA ?_
      exact ⟨i + 1, by omega, by omega, Thin.to [88] rfl rfl rfl rfl rfl (by simp [envIn, eget, wrap_succ (show i < 9223372036854775807 by omega)]) rfl⟩
  · have hie : most - (i : Int) = 0 := by simp at hc3; omega
    rw [hie]
    have c1 : Con Try.prog 56 [.agg [iv 0, iv most, .bool false, .lst []], .agg (encWait w), .bool false] (.tup [.agg [iv 0, iv most, .bool false, .lst []], iv 2]) [] := get56 0 most false [] w false (by simp)
    have c2 : Con Try.prog 60 [.agg [iv 0, iv most, .bool false, .lst []], .agg [iv 0, iv most, .bool false, .lst []]] (.bool true) [] := same60 0 most false [] (by simp)
    refine AWP.goC (And.intro c1 c2) ?_
    refine AWP.loopT (fun i : Nat => ⟨0, Try.f20.ntmps, [(0, iv most), (4, .bool false), (6, .ptr 48 0 0), (8, iv 1), (14, iv 2), (15, .bool true), (16, iv i)], [(48, ⟨69, 4, true, [[iv i, iv most, .bool false, .lst []]]⟩)], []⟩) (fun i => (i : Int) ≤ most) (fun i => most.toNat - i) 0 (by simp; omega)
      (Thin.to [24, 104] rfl rfl rfl rfl rfl (by simp [envIn, eget, eput]) rfl) ?_
    rintro i hi
    refine AWP.goA ?_
    refine AWP.condA ?_ ?_ <;> intro hc5
    · have hil : (i : Int) < most := by simpa using hc5
      have hwc := wrap_succ (show i < 9223372036854775807 by omega)
      have cc : Con Try.prog 58 [.agg [iv i, iv most, .bool false, .lst []]] (.tup [.agg [iv ((i + 1 : Nat) : Int), iv most, .bool false, .lst []], iv 0, .lst []]) [] := by
        have := put58_b i most false hil
        rw [hwc] at this; exact this
      refine AWP.goC cc ?_
      refine AWP.condA ?_ ?_ <;> intro hc6
      · cases hc6
      · refine AWP.goA ?_
        exact ⟨i + 1, by omega, by omega, Thin.to [136] rfl rfl rfl rfl rfl (by simp [envIn, eget, hwc]) rfl⟩
    · have hie : (i : Int) = most := by simp at hc5; omega
      have he : ((i : Int) == most) = true := by simpa using hie
      refine AWP.goF he ?_
      refine AWP.ret ?_
      exact ⟨trivial, [], by simp, .bool true, rfl, rfl, rfl, rfl⟩
end Go.Qd
