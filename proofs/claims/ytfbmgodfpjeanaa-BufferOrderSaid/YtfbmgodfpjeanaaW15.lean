/- A part of the library of this claim: rules of an abstract machine (values in place of addresses), proved against the model, and contracts of the functions. -/
import Derived.Test.YtfbmgodfpjeanaaW16b
set_option linter.unusedVariables false
set_option linter.unusedSimpArgs false
set_option maxHeartbeats 8000000
set_option maxRecDepth 10000
namespace Go.Qd
open Go Go.Proofs
/-! ### Semaphores -/
abbrev Se (c m : Int) (r : Bool) (l : List Wait) : AV := .agg [iv c, iv m, .bool r, Wl l]
/-- sema.Get, where one is there -/
theorem get56_a (c m : Int) (r : Bool) (l : List Wait) (w : Wait) (may : Bool) (hl : l.length ≤ 100000) (hc : 0 < c) : Con Try.prog 56 [Se c m r l, .agg (encWait w), .bool may] (.tup [.agg [iv (IntKind.i64.wrap (c - 1)), iv m, .bool r, .osl 0 0 l.length], iv 0]) [⟨25, 3, true, l.map encWait⟩] := by
  have hgt : decide (c > 0) = true := by simpa using hc
  refine ⟨⟨_, _, Try.func56, rfl, by decide⟩, ICall.of_body' T12_ok ⟨Try.func56, rfl, by decide⟩ (by simp [Try.f56]) ?_⟩
  refine AWP.goA ?_
  refine AWP.region ?_
  refine AOps.goA ?_
  refine AOps.inlineL T12_ok M12_ok rfl rfl (by (simp only [acall, aev, aevs, eget, reduceIte, Nat.reduceEqDiff, Option.getD, List.append_nil, List.nil_append, List.cons_append]) <;> rfl) ⟨Try.func77, rfl, by decide⟩ (by simp [Try.f77]) ?_
  refine AWP.enterF (show Try.f56.ntmps = 21 from rfl) ?_
  refine AWP.goC (clone68 l (by omega)) ?_
  refine AWP.ret ?_
  refine ⟨trivial, .ptr 240 0 0, rfl, [(240, 88), (208, 89)], rfl, ?_⟩
  refine AOps.backF (show Try.f56.ntmps = 21 from rfl) ?_
  refine AOps.goA ?_
  refine AOps.endA ?_
  simp only [Then]
  refine AWP.goA ?_
  refine AWP.region ?_
  refine AOps.goA ?_
  refine AOps.inlineL T12_ok M12_ok rfl rfl (by (simp only [acall, aev, aevs, eget, reduceIte, Nat.reduceEqDiff, Option.getD, List.append_nil, List.nil_append, List.cons_append]) <;> rfl) ⟨Try.func78, rfl, by decide⟩ (by simp [Try.f78]) ?_
  refine AWP.enterF (show Try.f56.ntmps = 21 from rfl) ?_
  refine AWP.goF hgt ?_
  refine AWP.condA ?_ ?_ <;> intro hc2
  · refine AWP.goA ?_
    refine AWP.ret ?_
    refine ⟨trivial, iv 0, rfl, [], rfl, ?_⟩
    refine AOps.backF (show Try.f56.ntmps = 21 from rfl) ?_
    refine AOps.goA ?_
    refine AOps.endA ?_
    simp only [Then]
    refine AWP.goA ?_
    refine AWP.ret ?_
    exact ⟨trivial, [89], by simp, .tup [.agg [iv (IntKind.i64.wrap (c - 1)), iv m, .bool r, .osl 89 0 l.length], iv 0], rfl, rfl, rfl, rfl⟩
  · cases hc2
/-- sema.Get, where none is there, by who may not wait -/
theorem get56_b (c m : Int) (r : Bool) (l : List Wait) (w : Wait) (hl : l.length ≤ 100000) (hc : ¬ 0 < c) : Con Try.prog 56 [Se c m r l, .agg (encWait w), .bool false] (.tup [.agg [iv c, iv m, .bool r, .osl 0 0 l.length], iv 2]) [⟨25, 3, true, l.map encWait⟩] := by
  have hgt : decide (c > 0) = false := by simpa using hc
  refine ⟨⟨_, _, Try.func56, rfl, by decide⟩, ICall.of_body' T12_ok ⟨Try.func56, rfl, by decide⟩ (by simp [Try.f56]) ?_⟩
  refine AWP.goA ?_
  refine AWP.region ?_
  refine AOps.goA ?_
  refine AOps.inlineL T12_ok M12_ok rfl rfl (by (simp only [acall, aev, aevs, eget, reduceIte, Nat.reduceEqDiff, Option.getD, List.append_nil, List.nil_append, List.cons_append]) <;> rfl) ⟨Try.func77, rfl, by decide⟩ (by simp [Try.f77]) ?_
  refine AWP.enterF (show Try.f56.ntmps = 21 from rfl) ?_
  refine AWP.goC (clone68 l (by omega)) ?_
  refine AWP.ret ?_
  refine ⟨trivial, .ptr 240 0 0, rfl, [(240, 88), (208, 89)], rfl, ?_⟩
  refine AOps.backF (show Try.f56.ntmps = 21 from rfl) ?_
  refine AOps.goA ?_
  refine AOps.endA ?_
  simp only [Then]
  refine AWP.goA ?_
  refine AWP.region ?_
  refine AOps.goA ?_
  refine AOps.inlineL T12_ok M12_ok rfl rfl (by (simp only [acall, aev, aevs, eget, reduceIte, Nat.reduceEqDiff, Option.getD, List.append_nil, List.nil_append, List.cons_append]) <;> rfl) ⟨Try.func78, rfl, by decide⟩ (by simp [Try.f78]) ?_
  refine AWP.enterF (show Try.f56.ntmps = 21 from rfl) ?_
  refine AWP.goF hgt ?_
  refine AWP.condA ?_ ?_ <;> intro hc2
  · cases hc2
  · refine AWP.goA ?_
    refine AWP.condA ?_ ?_ <;> intro hc3
    · refine AWP.goA ?_
      refine AWP.ret ?_
      refine ⟨trivial, iv 2, rfl, [], rfl, ?_⟩
      refine AOps.backF (show Try.f56.ntmps = 21 from rfl) ?_
      refine AOps.goA ?_
      refine AOps.endA ?_
      simp only [Then]
      refine AWP.goA ?_
      refine AWP.ret ?_
      exact ⟨trivial, [89], by simp, .tup [.agg [iv c, iv m, .bool r, .osl 89 0 l.length], iv 2], rfl, rfl, rfl, rfl⟩
    · cases hc3
/-- sema.Get, where none is there, by who may wait -/
theorem get56_c (c m : Int) (r : Bool) (l : List Wait) (w : Wait) (hl : l.length ≤ 100000) (hc : ¬ 0 < c) : Con Try.prog 56 [Se c m r l, .agg (encWait w), .bool true] (.tup [.agg [iv c, iv m, .bool r, .osl 0 0 (l.length + 1)], iv 6]) [⟨25, 3, true, (addW l w r).map encWait⟩] := by
  have hgt : decide (c > 0) = false := by simpa using hc
  have c29 := add29 l w r (by omega)
  refine ⟨⟨_, _, Try.func56, rfl, by decide⟩, ICall.of_body' T12_ok ⟨Try.func56, rfl, by decide⟩ (by simp [Try.f56]) ?_⟩
  refine AWP.goA ?_
  refine AWP.region ?_
  refine AOps.goA ?_
  refine AOps.inlineL T12_ok M12_ok rfl rfl (by (simp only [acall, aev, aevs, eget, reduceIte, Nat.reduceEqDiff, Option.getD, List.append_nil, List.nil_append, List.cons_append]) <;> rfl) ⟨Try.func77, rfl, by decide⟩ (by simp [Try.f77]) ?_
  refine AWP.enterF (show Try.f56.ntmps = 21 from rfl) ?_
  refine AWP.goC (clone68 l (by omega)) ?_
  refine AWP.ret ?_
  refine ⟨trivial, .ptr 240 0 0, rfl, [(240, 88), (208, 89)], rfl, ?_⟩
  refine AOps.backF (show Try.f56.ntmps = 21 from rfl) ?_
  refine AOps.goA ?_
  refine AOps.endA ?_
  simp only [Then]
  refine AWP.goA ?_
  refine AWP.region ?_
  refine AOps.goA ?_
  refine AOps.inlineL T12_ok M12_ok rfl rfl (by (simp only [acall, aev, aevs, eget, reduceIte, Nat.reduceEqDiff, Option.getD, List.append_nil, List.nil_append, List.cons_append]) <;> rfl) ⟨Try.func78, rfl, by decide⟩ (by simp [Try.f78]) ?_
  refine AWP.enterF (show Try.f56.ntmps = 21 from rfl) ?_
  refine AWP.goF hgt ?_
  refine AWP.condA ?_ ?_ <;> intro hc2
  · cases hc2
  · refine AWP.goA ?_
    refine AWP.condA ?_ ?_ <;> intro hc3
    · cases hc3
    · refine AWP.skip ?_
      simp only [Then, InBlock]
      refine AWP.seq ?_
      apply AWP.anyR Zz_mixed
      focus
        (repeat (apply Trace.cons; (focus (first | exact Loc.opA | exact Loc.opYesA | exact Loc.opNoA)); (focus exact applyA)))
        (apply Trace.cons; (focus exact Loc.conF closeW c29); (focus exact applyA))
        (repeat (apply Trace.cons; (focus (first | exact Loc.opA | exact Loc.opYesA | exact Loc.opNoA)); (focus exact applyA)))
        exact Trace.nil _
      focus kernel_rfl
      simp only [Then]
      refine AWP.goA ?_
      refine AWP.ret ?_
      refine ⟨trivial, iv 6, rfl, [(472, 121)], rfl, ?_⟩
      refine AOps.backF (show Try.f56.ntmps = 21 from rfl) ?_
      refine AOps.goA ?_
      refine AOps.endA ?_
      simp only [Then]
      refine AWP.goA ?_
      refine AWP.ret ?_
      exact ⟨trivial, [121], by simp, .tup [.agg [iv c, iv m, .bool r, .osl 121 0 (l.length + 1)], iv 6], rfl, rfl, rfl, rfl⟩
end Go.Qd
