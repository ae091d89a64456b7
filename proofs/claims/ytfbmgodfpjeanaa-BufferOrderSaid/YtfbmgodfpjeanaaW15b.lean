/- A part of the library of this claim: rules of an abstract machine (values in place of addresses), proved against the model, and contracts of the functions. -/
import Derived.Test.YtfbmgodfpjeanaaW15
import Derived.Test.YtfbmgodfpjeanaaLW12b
set_option linter.unusedVariables false
set_option linter.unusedSimpArgs false
set_option maxHeartbeats 8000000
set_option maxRecDepth 10000
namespace Go.Qd
open Go Go.Proofs
/-- sema.Put, where somebody waits -/
theorem put58_a (c m : Int) (rk : Bool) (x : Wait) (r : List Wait) (hl : r.length ≤ 100000) : Con Try.prog 58 [Se c m rk (x :: r)] (.tup [.agg [iv c, iv m, .bool rk, .osl 0 0 r.length], iv 0, Kl [⟨x.proc, 0, 0⟩]]) [⟨25, 3, true, r.map encWait⟩] := by
  refine ⟨⟨_, _, Try.func58, rfl, by decide⟩, ICall.of_body' T12_ok ⟨Try.func58, rfl, by decide⟩ (by simp [Try.f58]) ?_⟩
  refine AWP.goA ?_
  refine AWP.region ?_
  refine AOps.goA ?_
  refine AOps.inlineL T12_ok M12_ok rfl rfl (by (simp only [acall, aev, aevs, eget, reduceIte, Nat.reduceEqDiff, Option.getD, List.append_nil, List.nil_append, List.cons_append]) <;> rfl) ⟨Try.func77, rfl, by decide⟩ (by simp [Try.f77]) ?_
  refine AWP.enterF (show Try.f58.ntmps = 21 from rfl) ?_
  refine AWP.goC (clone68 (x :: r) (by simp; omega)) ?_
  refine AWP.ret ?_
  refine ⟨trivial, .ptr 240 0 0, rfl, [(240, 72), (208, 73)], rfl, ?_⟩
  refine AOps.backF (show Try.f58.ntmps = 21 from rfl) ?_
  refine AOps.goA ?_
  refine AOps.endA ?_
  simp only [Then]
  refine AWP.goA ?_
  refine AWP.region ?_
  refine AOps.goA ?_
  refine AOps.inlineL T12_ok M12_ok rfl rfl (by (simp only [acall, aev, aevs, eget, reduceIte, Nat.reduceEqDiff, Option.getD, List.append_nil, List.nil_append, List.cons_append]) <;> rfl) ⟨Try.func79, rfl, by decide⟩ (by simp [Try.f79]) ?_
  refine AWP.enterF (show Try.f58.ntmps = 21 from rfl) ?_
  refine AWP.goC (first31_cons x r (by omega)) ?_
  refine AWP.condA ?_ ?_ <;> intro hc2
  · refine AWP.goA ?_
    refine AWP.ret ?_
    refine ⟨trivial, .tup [iv 0, .osl 376 0 1], rfl, [(272, 97)], rfl, ?_⟩
    refine AOps.backF (show Try.f58.ntmps = 21 from rfl) ?_
    refine AOps.goA ?_
    refine AOps.endA ?_
    simp only [Then]
    refine AWP.goA ?_
    refine AWP.ret ?_
    exact ⟨trivial, [97], by simp, .tup [.agg [iv c, iv m, .bool rk, .osl 97 0 r.length], iv 0, Kl [⟨x.proc, 0, 0⟩]], rfl, rfl, rfl, rfl⟩
  · cases hc2
/-- sema.Put, where nobody waits, and there may be one more -/
theorem put58_b (c m : Int) (rk : Bool) (hc : c < m) : Con Try.prog 58 [Se c m rk []] (.tup [Se (IntKind.i64.wrap (c + 1)) m rk [], iv 0, .lst []]) [] := by
  have hge : decide (c ≥ m) = false := by simp; omega
  refine ⟨⟨_, _, Try.func58, rfl, by decide⟩, ICall.of_body' T12_ok ⟨Try.func58, rfl, by decide⟩ (by simp [Try.f58]) ?_⟩
  refine AWP.goA ?_
  refine AWP.region ?_
  refine AOps.goA ?_
  refine AOps.inlineL T12_ok M12_ok rfl rfl (by (simp only [acall, aev, aevs, eget, reduceIte, Nat.reduceEqDiff, Option.getD, List.append_nil, List.nil_append, List.cons_append]) <;> rfl) ⟨Try.func77, rfl, by decide⟩ (by simp [Try.f77]) ?_
  refine AWP.enterF (show Try.f58.ntmps = 21 from rfl) ?_
  refine AWP.goC (clone68 [] (by simp)) ?_
  refine AWP.ret ?_
  refine ⟨trivial, .ptr 240 0 0, rfl, [(240, 72)], rfl, ?_⟩
  refine AOps.backF (show Try.f58.ntmps = 21 from rfl) ?_
  refine AOps.goA ?_
  refine AOps.endA ?_
  simp only [Then]
  refine AWP.goA ?_
  refine AWP.region ?_
  refine AOps.goA ?_
  refine AOps.inlineL T12_ok M12_ok rfl rfl (by (simp only [acall, aev, aevs, eget, reduceIte, Nat.reduceEqDiff, Option.getD, List.append_nil, List.nil_append, List.cons_append]) <;> rfl) ⟨Try.func79, rfl, by decide⟩ (by simp [Try.f79]) ?_
  refine AWP.enterF (show Try.f58.ntmps = 21 from rfl) ?_
  refine AWP.goC firstN ?_
  refine AWP.condA ?_ ?_ <;> intro hc2
  · cases hc2
  · refine AWP.goF hge ?_
    refine AWP.condA ?_ ?_ <;> intro hc3
    · cases hc3
    · refine AWP.goA ?_
      refine AWP.ret ?_
      refine ⟨trivial, .tup [iv 0, .esl], rfl, [], rfl, ?_⟩
      refine AOps.backF (show Try.f58.ntmps = 21 from rfl) ?_
      refine AOps.goA ?_
      refine AOps.endA ?_
      simp only [Then]
      refine AWP.goA ?_
      refine AWP.ret ?_
      exact ⟨trivial, [], by simp, .tup [.agg [iv (IntKind.i64.wrap (c + 1)), iv m, .bool rk, .lst []], iv 0, .esl], rfl, rfl, rfl, rfl⟩
/-- sema.Put, where nobody waits, and there may be no more -/
theorem put58_c (c m : Int) (rk : Bool) (hc : ¬ c < m) : Con Try.prog 58 [Se c m rk []] (.tup [Se c m rk [], iv 1, .lst []]) [] := by
  have hge : decide (c ≥ m) = true := by simp; omega
  refine ⟨⟨_, _, Try.func58, rfl, by decide⟩, ICall.of_body' T12_ok ⟨Try.func58, rfl, by decide⟩ (by simp [Try.f58]) ?_⟩
  refine AWP.goA ?_
  refine AWP.region ?_
  refine AOps.goA ?_
  refine AOps.inlineL T12_ok M12_ok rfl rfl (by (simp only [acall, aev, aevs, eget, reduceIte, Nat.reduceEqDiff, Option.getD, List.append_nil, List.nil_append, List.cons_append]) <;> rfl) ⟨Try.func77, rfl, by decide⟩ (by simp [Try.f77]) ?_
  refine AWP.enterF (show Try.f58.ntmps = 21 from rfl) ?_
  refine AWP.goC (clone68 [] (by simp)) ?_
  refine AWP.ret ?_
  refine ⟨trivial, .ptr 240 0 0, rfl, [(240, 72)], rfl, ?_⟩
  refine AOps.backF (show Try.f58.ntmps = 21 from rfl) ?_
  refine AOps.goA ?_
  refine AOps.endA ?_
  simp only [Then]
  refine AWP.goA ?_
  refine AWP.region ?_
  refine AOps.goA ?_
  refine AOps.inlineL T12_ok M12_ok rfl rfl (by (simp only [acall, aev, aevs, eget, reduceIte, Nat.reduceEqDiff, Option.getD, List.append_nil, List.nil_append, List.cons_append]) <;> rfl) ⟨Try.func79, rfl, by decide⟩ (by simp [Try.f79]) ?_
  refine AWP.enterF (show Try.f58.ntmps = 21 from rfl) ?_
  refine AWP.goC firstN ?_
  refine AWP.condA ?_ ?_ <;> intro hc2
  · cases hc2
  · refine AWP.goF hge ?_
    refine AWP.condA ?_ ?_ <;> intro hc3
    · refine AWP.goA ?_
      refine AWP.ret ?_
      refine ⟨trivial, .tup [iv 1, .esl], rfl, [], rfl, ?_⟩
      refine AOps.backF (show Try.f58.ntmps = 21 from rfl) ?_
      refine AOps.goA ?_
      refine AOps.endA ?_
      simp only [Then]
      refine AWP.goA ?_
      refine AWP.ret ?_
      exact ⟨trivial, [], by simp, .tup [.agg [iv c, iv m, .bool rk, .lst []], iv 1, .esl], rfl, rfl, rfl, rfl⟩
    · cases hc3
end Go.Qd
