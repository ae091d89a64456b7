/- A part of the library of this claim: rules of an abstract machine (values in place of addresses), proved against the model, and contracts of the functions. -/
import Derived.Test.YtfbmgodfpjeanaaW16
import Derived.Test.YtfbmgodfpjeanaaLW13a
set_option linter.unusedVariables false
set_option linter.unusedSimpArgs false
set_option maxHeartbeats 8000000
set_option maxRecDepth 10000
namespace Go.Qd
open Go Go.Proofs
/-- event.Set -/
theorem set49 (up : Bool) (l : List Wait) (hl : l.length ≤ 1000000) : Con Try.prog 49 [Ev up l] (.tup [Ev true [], Kl (l.map (mkWake 0 0))]) [] := by
  refine ⟨⟨_, _, Try.func49, rfl, by decide⟩, ICall.of_body' T12_ok ⟨Try.func49, rfl, by decide⟩ (by simp [Try.f49]) ?_⟩
  refine AWP.goC (And.intro (all36 l 0 0 hl) (And.intro (up75 true) (with72_set up l hl))) ?_
  refine AWP.ret ?_
  exact ⟨trivial, [], by simp, .tup [Ev true [], Kl (l.map (mkWake 0 0))], rfl, rfl, rfl, rfl⟩
/-- ref16.Set -/
theorem set50 (up : Bool) (l : List Wait) (hl : l.length ≤ 1000000) : Con Try.prog 50 [Ev up l] (.tup [Ev true [], Kl (l.map (mkWake 0 0))]) [] := by
  refine ⟨⟨_, _, Try.func50, rfl, by decide⟩, ICall.of_body' T12_ok ⟨Try.func50, rfl, by decide⟩ (by simp [Try.f50]) ?_⟩
  refine AWP.goC (all37 l 0 0 hl) ?_
  refine AWP.ret ?_
  exact ⟨trivial, [], by simp, .tup [.agg [.bool true, .esl], Kl (l.map (mkWake 0 0))], rfl, rfl, rfl, rfl⟩
/-- ref16.Same, of the same -/
theorem same51 (up : Bool) (l : List Wait) (hl : l.length ≤ 1000000) : Con Try.prog 51 [Ev up l, Ev up l] (.bool true) [] := by
  refine ⟨⟨_, _, Try.func51, rfl, by decide⟩, ICall.of_body' T12_ok ⟨Try.func51, rfl, by decide⟩ (by simp [Try.f51]) ?_⟩
  have hb : (up == up) = true := by simp
  refine AWP.goFC hb (sameW l hl) ?_
  refine AWP.ret ?_
  exact ⟨trivial, [], by simp, .bool true, rfl, rfl, rfl, rfl⟩
/-- event.Reset -/
theorem reset52 (up : Bool) (l : List Wait) (hl : l.length ≤ 1000000) : Con Try.prog 52 [Ev up l] (.agg [.bool false, .osl 0 0 l.length]) [⟨25, 3, true, l.map encWait⟩] := by
  refine ⟨⟨_, _, Try.func52, rfl, by decide⟩, ICall.of_body' T12_ok ⟨Try.func52, rfl, by decide⟩ (by simp [Try.f52]) ?_⟩
  refine AWP.goC (And.intro (up75 false) (with72_up up false l hl)) ?_
  refine AWP.ret ?_
  exact ⟨trivial, [48], by simp, .agg [.bool false, .osl 48 0 l.length], rfl, rfl, rfl, rfl⟩
theorem reset52C (up : Bool) (l : List Wait) (hl : l.length ≤ 1000000) : Con Try.prog 52 [Ev up l] (Ev false l) [] := (reset52 up l hl).close (by simp [convA, convL, enumH, hget, lsA, lsL, List.take_of_length_le])
/-- ref16.Reset -/
theorem reset53 (up : Bool) (l : List Wait) (hl : l.length ≤ 1000000) : Con Try.prog 53 [Ev up l] (Ev false l) [] := by
  refine ⟨⟨_, _, Try.func53, rfl, by decide⟩, ICall.of_body' T12_ok ⟨Try.func53, rfl, by decide⟩ (by simp [Try.f53]) ?_⟩
  refine AWP.goC (appF hl) ?_
  refine AWP.ret ?_
  exact ⟨trivial, [], by simp, .agg [.bool false, .osl 40 0 l.length], rfl, by simp [convA, convL, idxIn, hget, lsA, lsL, List.take_of_length_le], rfl, rfl⟩
/-- event.Await -/
theorem await40_up (l : List Wait) (w : Wait) (may : Bool) (hl : l.length ≤ 1000000) : Con Try.prog 40 [Ev true l, .agg (encWait w), .bool may] (.tup [Ev true l, iv 0]) [] := by
  refine ⟨⟨_, _, Try.func40, rfl, by decide⟩, ICall.of_body' T12_ok ⟨Try.func40, rfl, by decide⟩ (by simp [Try.f40]) ?_⟩
  refine AWP.goA ?_
  refine AWP.condA ?_ ?_ <;> intro hc
  · refine AWP.goC (with72_none true l hl) ?_
    refine AWP.ret ?_
    exact ⟨trivial, [], by simp, .tup [.agg [.bool true, .osl 96 0 l.length], iv 0], rfl, by simp [convA, convL, idxIn, hget, lsA, lsL, List.take_of_length_le], rfl, rfl⟩
  · cases hc
theorem await40_upO (l : List Wait) (w : Wait) (may : Bool) (hl : l.length ≤ 1000000) : Con Try.prog 40 [Ev true l, .agg (encWait w), .bool may] (.tup [.agg [.bool true, .osl 0 0 l.length], iv 0]) [⟨25, 3, true, l.map encWait⟩] := by
  refine ⟨⟨_, _, Try.func40, rfl, by decide⟩, ICall.of_body' T12_ok ⟨Try.func40, rfl, by decide⟩ (by simp [Try.f40]) ?_⟩
  refine AWP.goA ?_
  refine AWP.condA ?_ ?_ <;> intro hc
  · refine AWP.goC (with72_none true l hl) ?_
    refine AWP.ret ?_
    exact ⟨trivial, [96], by simp, .tup [.agg [.bool true, .osl 96 0 l.length], iv 0], rfl, rfl, rfl, rfl⟩
  · cases hc
theorem await40_no (l : List Wait) (w : Wait) (hl : l.length ≤ 1000000) : Con Try.prog 40 [Ev false l, .agg (encWait w), .bool false] (.tup [Ev false l, iv 2]) [] := by
  refine ⟨⟨_, _, Try.func40, rfl, by decide⟩, ICall.of_body' T12_ok ⟨Try.func40, rfl, by decide⟩ (by simp [Try.f40]) ?_⟩
  refine AWP.goA ?_
  refine AWP.condA ?_ ?_ <;> intro hc
  · cases hc
  · refine AWP.goA ?_
    refine AWP.condA ?_ ?_ <;> intro hc2
    · refine AWP.goC (with72_none false l hl) ?_
      refine AWP.ret ?_
      exact ⟨trivial, [], by simp, .tup [.agg [.bool false, .osl 136 0 l.length], iv 2], rfl, by simp [convA, convL, idxIn, hget, lsA, lsL, List.take_of_length_le], rfl, rfl⟩
    · cases hc2
theorem await40_wait (l : List Wait) (w : Wait) (hl : l.length ≤ 100000) : Con Try.prog 40 [Ev false l, .agg (encWait w), .bool true] (.tup [.agg [.bool false, .osl 0 0 (l.length + 1)], iv 6]) [⟨25, 3, true, (l ++ [w]).map encWait⟩] := by
  refine ⟨⟨_, _, Try.func40, rfl, by decide⟩, ICall.of_body' T12_ok ⟨Try.func40, rfl, by decide⟩ (by simp [Try.f40]) ?_⟩
  refine AWP.goA ?_
  refine AWP.condA ?_ ?_ <;> intro hc
  · cases hc
  · refine AWP.goA ?_
    refine AWP.condA ?_ ?_ <;> intro hc2
    · cases hc2
    · refine AWP.goC (And.intro (more73 w) (with72_more false l w hl)) ?_
      refine AWP.ret ?_
      exact ⟨trivial, [176], by simp, .tup [.agg [.bool false, .osl 176 0 (l.length + 1)], iv 6], rfl, rfl, rfl, rfl⟩
/-- What an event that is asked for becomes, and what that returns. -/
def awL (up : Bool) (l : List Wait) (w : Wait) (may : Bool) : List Wait := if up = false ∧ may = true then l ++ [w] else l
def awC (up may : Bool) : Int := if up = true then 0 else if may = true then 6 else 2
theorem await40 (up : Bool) (l : List Wait) (w : Wait) (may : Bool) (hl : l.length ≤ 100000) : Con Try.prog 40 [Ev up l, .agg (encWait w), .bool may] (.tup [Ev up (awL up l w may), iv (awC up may)]) [] := by
  cases up
  · cases may
    · exact await40_no l w (by omega)
    · exact (await40_wait l w hl).close (by simp [convA, convL, enumH, hget, lsA, lsL, awL, awC, List.take_of_length_le])
  · exact await40_up l w may (by omega)
/-- ref16.Await -/
theorem await54 (up : Bool) (l : List Wait) (w : Wait) (may : Bool) (hl : l.length ≤ 100000) : Con Try.prog 54 [Ev up l, .agg (encWait w), .bool may] (.tup [Ev up (awL up l w may), iv (awC up may)]) [] := by
  refine ⟨⟨_, _, Try.func54, rfl, by decide⟩, ICall.of_body' T12_ok ⟨Try.func54, rfl, by decide⟩ (by simp [Try.f54]) ?_⟩
  cases up
  · refine AWP.goC (appF (l := l) (by omega)) ?_
    refine AWP.condA ?_ ?_ <;> intro hc
    · cases hc
    · cases may
      · refine AWP.goA ?_
        refine AWP.condA ?_ ?_ <;> intro hc2
        · refine AWP.goA ?_
          refine AWP.ret ?_
          exact ⟨trivial, [], by simp, .tup [.agg [.bool false, .osl 104 0 l.length], iv 2], rfl, by simp [convA, convL, idxIn, hget, lsA, lsL, awL, awC, List.take_of_length_le], rfl, rfl⟩
        · cases hc2
      · refine AWP.goA ?_
        refine AWP.condA ?_ ?_ <;> intro hc2
        · cases hc2
        · refine AWP.goC (show Con Try.prog 33 [Wl l, .agg (encWait w), .bool false] (Wl (l ++ [w])) [] from add33C l w false (by omega)) ?_
          refine AWP.ret ?_
          exact ⟨trivial, [], by simp, .tup [Ev false (l ++ [w]), iv 6], rfl, rfl, rfl, rfl⟩
  · refine AWP.goC (appF (l := l) (by omega)) ?_
    refine AWP.condA ?_ ?_ <;> intro hc
    · refine AWP.goA ?_
      refine AWP.ret ?_
      exact ⟨trivial, [], by simp, .tup [.agg [.bool true, .osl 104 0 l.length], iv 0], rfl, by simp [convA, convL, idxIn, hget, lsA, lsL, awL, awC, List.take_of_length_le], rfl, rfl⟩
    · cases hc
/-- law16.awake -/
theorem awake39 : Con Try.prog 39 [] (.bool true) [] := by
  refine ⟨⟨_, _, Try.func39, rfl, by decide⟩, ICall.of_body' T12_ok ⟨Try.func39, rfl, by decide⟩ (by simp [Try.f39]) ?_⟩
  have c1 : Con Try.prog 40 [.agg [.bool false, .lst []], .agg [iv 1, iv 0, iv 0], .bool true] (.tup [.agg [.bool false, .lst [[iv 1, iv 0, iv 0]]], iv 6]) [] := await40 false [] ⟨1, 0, 0⟩ true (by simp)
  have c2 : Con Try.prog 49 [.agg [.bool false, .lst [[iv 1, iv 0, iv 0]]]] (.tup [.agg [.bool true, .lst []], .lst [[iv 1, iv 0, iv 0]]]) [] := set49 false [⟨1, 0, 0⟩] (by simp)
  have c3 : Con Try.prog 40 [.agg [.bool true, .lst []], .agg [iv 0, iv 0, iv 0], .bool false] (.tup [.agg [.bool true, .lst []], iv 0]) [] := await40 true [] ⟨0, 0, 0⟩ false (by simp)
  refine AWP.goC (And.intro c1 (And.intro c2 c3)) ?_
  refine AWP.ret ?_
  exact ⟨trivial, [], by simp, .bool true, rfl, rfl, rfl, rfl⟩
end Go.Qd
