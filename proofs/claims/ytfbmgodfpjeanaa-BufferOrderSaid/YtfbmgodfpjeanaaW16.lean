/- A part of the library of this claim: rules of an abstract machine (values in place of addresses), proved against the model, and contracts of the functions. -/
import Derived.Test.YtfbmgodfpjeanaaW13
import Derived.Test.YtfbmgodfpjeanaaWk2
set_option linter.unusedVariables false
set_option linter.unusedSimpArgs false
set_option maxHeartbeats 8000000
set_option maxRecDepth 10000
namespace Go.Qd
open Go Go.Proofs
/-! ### Events -/
abbrev Ev (up : Bool) (l : List Wait) : AV := .agg [.bool up, Wl l]
/-- event.up -/
theorem up75 (b : Bool) : Con Try.prog 75 [.bool b] (.fn 89 [] [.vptr [.bool b]]) [] := by
  refine ⟨⟨_, _, Try.func75, rfl, by decide⟩, ICall.of_body' T12_ok ⟨Try.func75, rfl, by decide⟩ (by simp [Try.f75]) ?_⟩
  refine AWP.goA ?_
  refine AWP.ret ?_
  exact ⟨trivial, [], by simp, .fn 89 [] [.ptr 8 0 0], rfl, rfl, rfl, rfl⟩
/-- event.more -/
theorem more73 (w : Wait) : Con Try.prog 73 [.agg (encWait w)] (.fn 88 [] [.vptr (encWait w)]) [] := by
  refine ⟨⟨_, _, Try.func73, rfl, by decide⟩, ICall.of_body' T12_ok ⟨Try.func73, rfl, by decide⟩ (by simp [Try.f73]) ?_⟩
  refine AWP.goA ?_
  refine AWP.ret ?_
  exact ⟨trivial, [], by simp, .fn 88 [] [.ptr 8 0 0], rfl, rfl, rfl, rfl⟩
theorem closeW : ∀ (h : Heap) (w : Wait), closeL h (encWait w) = encWait w := fun _ _ => rfl
theorem w01 : IntKind.i64.wrap (0 + 1) = 1 := by decide
theorem w12 : IntKind.i64.wrap (1 + 1) = 2 := by decide
/-- event.with, to which nothing is done -/
theorem with72_none (up : Bool) (l : List Wait) (hl : l.length ≤ 1000000) : Con Try.prog 72 [Ev up l, .lst []] (.agg [.bool up, .osl 0 0 l.length]) [⟨25, 3, true, l.map encWait⟩] := by
  refine ⟨⟨_, _, Try.func72, rfl, by decide⟩, ICall.of_body' T12_ok ⟨Try.func72, rfl, by decide⟩ (by simp [Try.f72]) ?_⟩
  refine AWP.goC (clone68 l hl) ?_
  refine AWP.unroll 1 (AR.step ?_)
  refine AWP.goA ?_
  refine AWP.condA ?_ ?_ <;> intro hc
  · cases hc
  · refine AWP.goA ?_
    refine AWP.ret ?_
    exact ⟨trivial, [72], by simp, .agg [.bool up, .osl 72 0 l.length], rfl, rfl, rfl, rfl⟩
/-- event.with, told up or down -/
theorem with72_up (up b : Bool) (l : List Wait) (hl : l.length ≤ 1000000) : Con Try.prog 72 [Ev up l, .lst [[.fn 89 [] [.vptr [.bool b]]]]] (.agg [.bool b, .osl 0 0 l.length]) [⟨25, 3, true, l.map encWait⟩] := by
  refine ⟨⟨_, _, Try.func72, rfl, by decide⟩, ICall.of_body' T12_ok ⟨Try.func72, rfl, by decide⟩ (by simp [Try.f72]) ?_⟩
  refine AWP.goC (clone68 l hl) ?_
  refine AWP.unroll 2 (AR.step ?_)
  refine AWP.goA ?_
  refine AWP.condA ?_ ?_ <;> intro hc
  · refine AWP.goA ?_
    refine AWP.region ?_
    refine AOps.goA ?_
    refine AOps.inlineL T12_ok M12_ok rfl rfl (by (simp only [acall, aev, aevs, eget, reduceIte, Nat.reduceEqDiff, Option.getD, List.append_nil, List.nil_append, List.cons_append]) <;> rfl) ⟨Try.func89, rfl, by decide⟩ (by simp [Try.f89]) ?_
    refine AWP.enterF (show Try.f72.ntmps = 21 from rfl) ?_
    refine AWP.goA ?_
    refine ⟨trivial, .tup [], rfl, [], rfl, ?_⟩
    refine AOps.backF (show Try.f72.ntmps = 21 from rfl) ?_
    refine AOps.endA ?_
    simp only [Then, InBlock]
    refine AWP.goA ?_
    refine AWP.condA ?_ ?_ <;> intro hc2
    · simp at hc2
    · refine AWP.goA ?_
      refine AWP.ret ?_
      exact ⟨trivial, [72], by simp, .agg [.bool b, .osl 72 0 l.length], rfl, rfl, rfl, rfl⟩
  · cases hc
/-- event.with, told up, and nobody waits -/
theorem with72_set (up : Bool) (l : List Wait) (hl : l.length ≤ 1000000) : Con Try.prog 72 [Ev up l, .lst [[.fn 89 [] [.vptr [.bool true]]], [.fn 76 [] []]]] (Ev true []) [] := by
  refine ⟨⟨_, _, Try.func72, rfl, by decide⟩, ICall.of_body' T12_ok ⟨Try.func72, rfl, by decide⟩ (by simp [Try.f72]) ?_⟩
  refine AWP.goC (clone68 l hl) ?_
  refine AWP.unroll 3 (AR.step ?_)
  refine AWP.goA ?_
  refine AWP.condA ?_ ?_ <;> intro hc
  · refine AWP.goA ?_
    refine AWP.region ?_
    refine AOps.goA ?_
    refine AOps.inlineL T12_ok M12_ok rfl rfl (by (simp only [acall, aev, aevs, eget, reduceIte, Nat.reduceEqDiff, Option.getD, List.append_nil, List.nil_append, List.cons_append]) <;> rfl) ⟨Try.func89, rfl, by decide⟩ (by simp [Try.f89]) ?_
    refine AWP.enterF (show Try.f72.ntmps = 21 from rfl) ?_
    refine AWP.goA ?_
    refine ⟨trivial, .tup [], rfl, [], rfl, ?_⟩
    refine AOps.backF (show Try.f72.ntmps = 21 from rfl) ?_
    refine AOps.endA ?_
    simp only [Then, InBlock]
    refine AWP.goF w01 ?_
    refine AWP.condA ?_ ?_ <;> intro hc2
    · refine AWP.goF w01 ?_
      refine AWP.region ?_
      refine AOps.goA ?_
      refine AOps.inlineL T12_ok M12_ok rfl rfl (by (simp only [acall, aev, aevs, eget, reduceIte, Nat.reduceEqDiff, Option.getD, List.append_nil, List.nil_append, List.cons_append]) <;> rfl) ⟨Try.func76, rfl, by decide⟩ (by simp [Try.f76]) ?_
      refine AWP.enterF (show Try.f72.ntmps = 21 from rfl) ?_
      refine AWP.goA ?_
      refine ⟨trivial, .tup [], rfl, [], rfl, ?_⟩
      refine AOps.backF (show Try.f72.ntmps = 21 from rfl) ?_
      refine AOps.endA ?_
      simp only [Then, InBlock]
      refine AWP.goF w12 ?_
      refine AWP.condA ?_ ?_ <;> intro hc3
      · simp at hc3
      · refine AWP.goA ?_
        refine AWP.ret ?_
        exact ⟨trivial, [], by simp, .agg [.bool true, .esl], rfl, rfl, rfl, rfl⟩
    · simp at hc2
  · cases hc
/-- event.with, one more waits -/
theorem with72_more (up : Bool) (l : List Wait) (w : Wait) (hl : l.length ≤ 100000) : Con Try.prog 72 [Ev up l, .lst [[.fn 88 [] [.vptr (encWait w)]]]] (.agg [.bool up, .osl 0 0 (l.length + 1)]) [⟨25, 3, true, (l ++ [w]).map encWait⟩] := by
  refine ⟨⟨_, _, Try.func72, rfl, by decide⟩, ICall.of_body' T12_ok ⟨Try.func72, rfl, by decide⟩ (by simp [Try.f72]) ?_⟩
  refine AWP.goC (clone68 l (by omega)) ?_
  refine AWP.unroll 2 (AR.step ?_)
  refine AWP.goA ?_
  refine AWP.condA ?_ ?_ <;> intro hc
  · refine AWP.goA ?_
    refine AWP.region ?_
    refine AOps.goA ?_
    refine AOps.inlineL T12_ok M12_ok rfl rfl (by (simp only [acall, aev, aevs, eget, reduceIte, Nat.reduceEqDiff, Option.getD, List.append_nil, List.nil_append, List.cons_append]) <;> rfl) ⟨Try.func88, rfl, by decide⟩ (by simp [Try.f88]) ?_
    refine AWP.enterF (show Try.f72.ntmps = 21 from rfl) ?_
    have c : Con Try.prog 29 [Wl l, .agg (encWait w), .bool false] (.osl 0 0 (l.length + 1)) [⟨25, 3, true, (l ++ [w]).map encWait⟩] := add29 l w false (by omega)
    apply AWP.anyR Zz_mixed
    focus
      (repeat (apply Trace.cons; (focus (first | exact Loc.opA | exact Loc.opYesA | exact Loc.opNoA)); (focus exact applyA)))
      (apply Trace.cons; (focus exact Loc.conF closeW c); (focus exact applyA))
      (repeat (apply Trace.cons; (focus (first | exact Loc.opA | exact Loc.opYesA | exact Loc.opNoA)); (focus exact applyA)))
      exact Trace.nil _
    focus kernel_rfl
    refine ⟨trivial, .tup [], rfl, [(240, 144)], rfl, ?_⟩
    refine AOps.backF (show Try.f72.ntmps = 21 from rfl) ?_
    refine AOps.endA ?_
    simp only [Then, InBlock]
    refine AWP.goF w01 ?_
    refine AWP.condA ?_ ?_ <;> intro hc2
    · simp at hc2
    · refine AWP.goA ?_
      refine AWP.ret ?_
      exact ⟨trivial, [144], by simp, .agg [.bool up, .osl 144 0 (l.length + 1)], rfl, rfl, rfl, rfl⟩
  · cases hc
end Go.Qd
