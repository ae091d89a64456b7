/- A part of the library of this claim: rules of an abstract machine (values in place of addresses), proved against the model, and contracts of the functions. -/
import Derived.Test.YtfbmgodfpjeanaaLW14a
set_option linter.unusedVariables false
set_option linter.unusedSimpArgs false
set_option maxHeartbeats 8000000
set_option maxRecDepth 10000
namespace Go.Qd
open Go Go.Proofs
/-- law14.BufferFull -/
theorem law25 (dp : Int) (w : Wait) : Con Try.prog 25 [iv dp, .agg (encWait w)] (.bool true) [] := by
  refine ⟨⟨_, _, Try.func25, rfl, by decide⟩, ICall.of_body' T12_ok ⟨Try.func25, rfl, by decide⟩ (by simp [Try.f25]) ?_⟩
  by_cases h2 : 1 ≤ dp
  case neg =>
    have d1 : decide (dp < 1) = true := by simp; omega
    refine AWP.goFC d1 awake61 ?_
    refine AWP.condA ?_ ?_ <;> intro hc
    · refine AWP.goA ?_
      refine AWP.ret ?_
      exact ⟨trivial, [], by simp, .bool true, rfl, rfl, rfl, rfl⟩
    · cases hc
  have d1 : decide (dp < 1) = false := by simp; omega
  by_cases h3 : dp ≤ 8
  case neg =>
    have d2 : decide (dp > 8) = true := by simp; omega
    refine AWP.goFC (And.intro d1 d2) awake61 ?_
    refine AWP.condA ?_ ?_ <;> intro hc
    · refine AWP.goA ?_
      refine AWP.ret ?_
      exact ⟨trivial, [], by simp, .bool true, rfl, rfl, rfl, rfl⟩
    · cases hc
  have d2 : decide (dp > 8) = false := by simp; omega
  refine AWP.goFC (And.intro d1 d2) awake61 ?_
  refine AWP.condA ?_ ?_ <;> intro hc
  · cases hc
  refine AWP.goA ?_
  refine AWP.loopT (fun x : Nat × List Int => ⟨0, Try.f25.ntmps, [(0, iv dp), (3, .ptr 24 0 0), (4, .bool false), (6, .ptr 48 0 0), (7, iv x.1)], [(24, ⟨25, 3, true, [encWait w]⟩), (48, ⟨84, 4, true, [[iv dp, .bool false, Il x.2, .lst []]]⟩)], []⟩) (fun x => (x.1 : Int) ≤ dp ∧ x.2.length = x.1) (fun x => dp.toNat - x.1) (0, []) (by simp; omega)
    ((Thin.ls 48 rfl).trans (Thin.to [] rfl rfl rfl rfl rfl (by simp [envIn, eget, eput]) rfl)) ?_
  rintro ⟨i, V⟩ ⟨hi, hV⟩
  simp only at hi hV
  refine AWP.goA ?_
  refine AWP.condA ?_ ?_ <;> intro hc3
  · have hil : (i : Int) < dp := by simpa using hc3
    have hw := wrap_succ (show i < 9223372036854775807 by omega)
    have hlen : (V ++ [w.value]).length = i + 1 := by simp; omega
    have cc : Con Try.prog 62 [.agg [iv dp, .bool false, Il V, .lst []], .agg (encWait w), .bool false] (.tup [.agg [iv dp, .bool false, Il (V ++ [w.value]), .lst []], iv 0, .lst []]) [] := by
      have := send62 dp false V [] w false (by omega) (by simp)
      rw [snd_room (.inr rfl) (by omega)] at this; exact this
    refine AWP.goFC (And.intro hw (And.intro hlen bneS)) cc ?_
    refine AWP.condA ?_ ?_ <;> intro hc4
    · cases hc4
    refine AWP.goF hw ?_
    exact ⟨(i + 1, V ++ [w.value]), ⟨by dsimp only; omega, hlen⟩, by simp; omega, Thin.to [64] rfl rfl rfl rfl rfl (by simp [envIn, eget, eput]) rfl⟩
  · have hie : (i : Int) = dp := by simp at hc3; omega
    have cc : Con Try.prog 62 [.agg [iv dp, .bool false, Il V, .lst []], .agg (encWait w), .bool false] (.tup [.agg [iv dp, .bool false, Il V, .lst []], iv 2, .lst []]) [] := by
      have := send62 dp false V [] w false (by omega) (by simp)
      rw [snd_no (.inr rfl) (by omega)] at this; exact this
    have c2 : Con Try.prog 64 [.agg [iv dp, .bool false, Il V, .lst []], .agg [iv dp, .bool false, Il V, .lst []]] (.bool true) [] := same64 dp false V [] (by omega) (by simp)
    have c3 : Con Try.prog 65 [.agg [iv dp, .bool false, .lst [], .lst []], .agg (encWait w), .bool false] (.tup [.agg [iv dp, .bool false, .lst [], .lst []], iv 2, iv 0, .lst []]) [] := take65_no dp false [] w (by simp)
    refine AWP.goC (And.intro cc (And.intro c2 c3)) ?_
    refine AWP.ret ?_
    exact ⟨trivial, [], by simp, .bool true, rfl, rfl, rfl, rfl⟩
end Go.Qd
