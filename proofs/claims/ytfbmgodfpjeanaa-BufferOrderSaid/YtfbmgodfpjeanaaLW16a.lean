/- A part of the library of this claim: rules of an abstract machine (values in place of addresses), proved against the model, and contracts of the functions. -/
import Derived.Test.YtfbmgodfpjeanaaW16b
import Derived.Test.YtfbmgodfpjeanaaLW13c
set_option linter.unusedVariables false
set_option linter.unusedSimpArgs false
set_option maxHeartbeats 8000000
set_option maxRecDepth 10000
namespace Go.Qd
open Go Go.Proofs
/-- law16.EventWaits -/
theorem law8 (l : List Wait) (w : Wait) : Con Try.prog 8 [Wl l, .agg (encWait w)] (.bool true) [] := by
  refine ⟨⟨_, _, Try.func8, rfl, by decide⟩, ICall.of_body' T12_ok ⟨Try.func8, rfl, by decide⟩ (by simp [Try.f8]) ?_⟩
  refine AWP.goC awake39 ?_
  refine AWP.condA ?_ ?_ <;> intro hc
  · refine AWP.goA ?_
    refine AWP.ret ?_
    exact ⟨trivial, [], by simp, .bool true, rfl, rfl, rfl, rfl⟩
  · have hl : l.length ≤ 60 := by simp at hc; omega
    have h1 : IntKind.i64.wrap ((l.length : Int) + 1) = ((l ++ [w]).length : Int) := by rw [wrap_succ (by omega)]; simp
    have h2 : ∀ h : Heap, aindexAddr' T12 h 22 (.lst ((l ++ [w]).map encWait)) (l.length : Int) = some (.vptr (encWait w)) := fun h => idxLast h
    have h3 : ∀ x : Wait, decide (x = x) = true := fun x => by simp
    have c1 : Con Try.prog 40 [Ev false l, .agg (encWait w), .bool true] (.tup [Ev false (l ++ [w]), iv 6]) [] := await40 false l w true (by omega)
    refine AWP.goFC (And.intro h1 (And.intro h2 h3)) (And.intro c1 (And.intro (await40_no l w (by omega)) (await40_up l w true (by omega)))) ?_
    refine AWP.ret ?_
    exact ⟨trivial, [], by simp, .bool true, rfl, rfl, rfl, rfl⟩
/-- law16.EventDoes -/
theorem law14 (up : Bool) (l : List Wait) (w : Wait) (may : Bool) : Con Try.prog 14 [Ev up l, .agg (encWait w), .bool may] (.bool true) [] := by
  refine ⟨⟨_, _, Try.func14, rfl, by decide⟩, ICall.of_body' T12_ok ⟨Try.func14, rfl, by decide⟩ (by simp [Try.f14]) ?_⟩
  refine AWP.goC awake39 ?_
  refine AWP.condA ?_ ?_ <;> intro hc
  · refine AWP.goA ?_
    refine AWP.ret ?_
    exact ⟨trivial, [], by simp, .bool true, rfl, rfl, rfl, rfl⟩
  · have hl : l.length ≤ 60 := by simp at hc; omega
    refine AWP.goC (And.intro (set49 up l (by omega)) (And.intro (set50 up l (by omega)) (And.intro (same51 true [] (by simp)) (wakesK (l.map (mkWake 0 0)) (by simp; omega))))) ?_
    refine AWP.goC (And.intro (reset52C up l (by omega)) (And.intro (reset53 up l (by omega)) (same51 false l (by omega)))) ?_
    have hx : (awL up l w may).length ≤ 1000000 := by unfold awL; split <;> (try simp) <;> omega
    refine AWP.goC (And.intro (await40 up l w may (by omega)) (And.intro (await54 up l w may (by omega)) (same51 up (awL up l w may) hx))) ?_
    refine AWP.ret ?_
    exact ⟨trivial, [], by simp, .bool true, rfl, rfl, rfl, rfl⟩
/-- law16.EventTwice -/
theorem law16 (up : Bool) (l : List Wait) : Con Try.prog 16 [Ev up l] (.bool true) [] := by
  refine ⟨⟨_, _, Try.func16, rfl, by decide⟩, ICall.of_body' T12_ok ⟨Try.func16, rfl, by decide⟩ (by simp [Try.f16]) ?_⟩
  refine AWP.goC awake39 ?_
  refine AWP.condA ?_ ?_ <;> intro hc
  · refine AWP.goA ?_
    refine AWP.ret ?_
    exact ⟨trivial, [], by simp, .bool true, rfl, rfl, rfl, rfl⟩
  · have hl : l.length ≤ 60 := by simp at hc; omega
    have hlen : (l.map (mkWake 0 0)).length = l.length := by simp
    have c2 : Con Try.prog 49 [.agg [.bool true, .lst []]] (.tup [.agg [.bool true, .lst []], .lst []]) [] := set49 true [] (by simp)
    have c3 : Con Try.prog 52 [.agg [.bool true, .lst []]] (.agg [.bool false, .lst []]) [] := reset52C true [] (by simp)
    have c4 : Con Try.prog 51 [.agg [.bool true, .lst []], .agg [.bool true, .lst []]] (.bool true) [] := same51 true [] (by simp)
    refine AWP.goFC hlen (And.intro (set49 up l (by omega)) (And.intro c2 (And.intro c3 c4))) ?_
    refine AWP.ret ?_
    exact ⟨trivial, [], by simp, .bool true, rfl, rfl, rfl, rfl⟩
/-- law16.EventOwn -/
theorem law17 (up : Bool) (l : List Wait) (w : Wait) : Con Try.prog 17 [Ev up l, .agg (encWait w)] (.bool true) [] := by
  refine ⟨⟨_, _, Try.func17, rfl, by decide⟩, ICall.of_body' T12_ok ⟨Try.func17, rfl, by decide⟩ (by simp [Try.f17]) ?_⟩
  refine AWP.goC awake39 ?_
  refine AWP.condA ?_ ?_ <;> intro hc
  · refine AWP.goA ?_
    refine AWP.ret ?_
    exact ⟨trivial, [], by simp, .bool true, rfl, rfl, rfl, rfl⟩
  · have hl : l.length ≤ 60 := by simp at hc; omega
    refine AWP.goC (And.intro (appF (l := l) (by omega)) (And.intro (set49 up l (by omega)) (reset52 up l (by omega)))) ?_
    cases up
    · cases l with
      | nil =>
        have c1 : Con Try.prog 40 [.agg [.bool false, .lst []], .agg (encWait w), .bool true] (.tup [.agg [.bool false, .osl 0 0 1], iv 6]) [⟨25, 3, true, [encWait w]⟩] := await40_wait [] w (by simp)
        have c2 : Con Try.prog 51 [.agg [.bool false, .lst []], .agg [.bool false, .lst []]] (.bool true) [] := same51 false [] (by simp)
        refine AWP.goFC (idx0O) c1 ?_
        refine AWP.condA ?_ ?_ <;> intro hc2
        · simp at hc2
        · refine AWP.goA ?_
          refine AWP.condA ?_ ?_ <;> intro hc3
          · refine AWP.goFC (idx0O) c2 ?_
            refine AWP.ret ?_
            exact ⟨trivial, [], by simp, .bool true, rfl, rfl, rfl, rfl⟩
          · simp at hc3
      | cons z r =>
        have c1 : Con Try.prog 40 [Ev false (z :: r), .agg (encWait w), .bool true] (.tup [.agg [.bool false, .osl 0 0 ((r ++ [w]).length + 1)], iv 6]) [⟨25, 3, true, (z :: (r ++ [w])).map encWait⟩] := by
          have := await40_wait (z :: r) w (by omega)
          have e : (z :: r).length + 1 = (r ++ [w]).length + 1 := by simp
          rw [e] at this; exact this
        refine AWP.goFC (idx0O) c1 ?_
        refine AWP.condA ?_ ?_ <;> intro hc2
        · refine AWP.goF (idx0O) ?_
          refine AWP.condA ?_ ?_ <;> intro hc3
          · refine AWP.goFC (idx0O) (same51 false (z :: r) (by omega)) ?_
            refine AWP.ret ?_
            exact ⟨trivial, [], by simp, .bool true, rfl, rfl, rfl, rfl⟩
          · simp at hc3 <;> omega
        · simp at hc2 <;> omega
    · cases l with
      | nil =>
        have c1 : Con Try.prog 40 [.agg [.bool true, .lst []], .agg (encWait w), .bool true] (.tup [.agg [.bool true, .osl 0 0 0], iv 0]) [⟨25, 3, true, []⟩] := await40_upO [] w true (by simp)
        have c2 : Con Try.prog 51 [.agg [.bool true, .lst []], .agg [.bool true, .lst []]] (.bool true) [] := same51 true [] (by simp)
        refine AWP.goFC (idx0O) c1 ?_
        refine AWP.condA ?_ ?_ <;> intro hc2
        · simp at hc2
        · refine AWP.goA ?_
          refine AWP.condA ?_ ?_ <;> intro hc3
          · simp at hc3
          · refine AWP.goFC (idx0O) c2 ?_
            refine AWP.ret ?_
            exact ⟨trivial, [], by simp, .bool true, rfl, rfl, rfl, rfl⟩
      | cons z r =>
        refine AWP.goFC (idx0O) (await40_upO (z :: r) w true (by omega)) ?_
        refine AWP.condA ?_ ?_ <;> intro hc2
        · refine AWP.goF (idx0O) ?_
          refine AWP.condA ?_ ?_ <;> intro hc3
          · refine AWP.goFC (idx0O) (same51 true (z :: r) (by omega)) ?_
            refine AWP.ret ?_
            exact ⟨trivial, [], by simp, .bool true, rfl, rfl, rfl, rfl⟩
          · simp at hc3
        · simp at hc2
end Go.Qd
