/- A part of the library of this claim: rules of an abstract machine (values in place of addresses), proved against the model, and contracts of the functions. -/
import Derived.Test.YtfbmgodfpjeanaaQsB
set_option linter.unusedVariables false
set_option linter.unusedSimpArgs false
set_option maxHeartbeats 8000000
set_option maxRecDepth 10000
namespace Go.Qd
open Go Go.Proofs
/-- law12.WaitersDo, of nobody and of some -/
theorem law6 (l : List Wait) (w : Wait) (b : Bool) (p : Int) : Con Try.prog 6 [Wl l, .agg (encWait w), .bool b, iv p] (.bool true) [] := by
  refine ⟨⟨_, _, Try.func6, rfl, by decide⟩, ICall.of_body' T12_ok ⟨Try.func6, rfl, by decide⟩ (by simp [Try.f6]) ?_⟩
  refine AWP.goA ?_
  refine AWP.region ?_
  refine AOps.goA ?_
  refine AOps.conA awake28 ?_
  refine AOps.goA ?_
  refine AOps.endA ?_
  refine AWP.goA ?_
  refine AWP.condA ?_ ?_ <;> intro hc
  · refine AWP.goA ?_
    refine AWP.ret ?_
    exact ⟨trivial, [], by simp, .bool true, rfl, rfl, rfl, rfl⟩
  · have hl : l.length ≤ 60 := by simp at hc; omega
    have hl2 : l.length ≤ 1000000 := by omega
    refine AWP.goA ?_
    apply AWP.anyR Zz_mixed
    focus
      (repeat (apply Trace.cons; (focus (first | exact Loc.opA | exact Loc.opYesA | exact Loc.opNoA)); (focus exact applyA)))
      (apply Trace.cons; (focus exact Loc.conA (add29C l w b hl2)); (focus exact applyA))
      (repeat (apply Trace.cons; (focus (first | exact Loc.opA | exact Loc.opYesA | exact Loc.opNoA)); (focus exact applyA)))
      (apply Trace.cons; (focus exact Loc.conA (add33C l w b hl2)); (focus exact applyA))
      (apply Trace.cons; (focus exact Loc.conA (same12 (addW l w b) (addW l w b) (by rw [addW_len]; omega))); (focus exact applyA))
      (repeat (apply Trace.cons; (focus (first | exact Loc.opA | exact Loc.opYesA | exact Loc.opNoA)); (focus exact applyA)))
      exact Trace.nil _
    focus kernel_rfl
    simp only [Then, decide_true]
    have hmk : (l.map (mkWake p w.value)).length ≤ 1000000 := by simpa using hl2
    refine AWP.seq ?_
    refine AWP.region ?_
    refine AOps.goA ?_
    refine AOps.conA (first31C l hl2) ?_
    refine AOps.goA ?_
    refine AOps.endA ?_
    refine AWP.seq ?_
    refine AWP.region ?_
    refine AOps.goA ?_
    refine AOps.conA (first34C l hl2) ?_
    refine AOps.goA ?_
    refine AOps.endA ?_
    refine AWP.seq ?_
    refine AWP.region ?_
    refine AOps.goA ?_
    refine AOps.conA (same12 l.tail l.tail (by simp; omega)) ?_
    refine AOps.goA ?_
    refine AOps.endA ?_
    refine AWP.seq ?_
    apply AWP.anyR Zz_mixed
    focus
      (repeat (apply Trace.cons; (focus (first | exact Loc.opA | exact Loc.opYesA | exact Loc.opNoA)); (focus exact applyA)))
      (apply Trace.cons; (focus exact Loc.conA (all36 l p w.value hl2)); (focus exact applyA))
      (repeat (apply Trace.cons; (focus (first | exact Loc.opA | exact Loc.opYesA | exact Loc.opNoA)); (focus exact applyA)))
      (apply Trace.cons; (focus exact Loc.conA (all37 l p w.value hl2)); (focus exact applyA))
      (apply Trace.cons; (focus exact Loc.conA (wakes35 _ _ hmk)); (focus exact applyA))
      (repeat (apply Trace.cons; (focus (first | exact Loc.opA | exact Loc.opYesA | exact Loc.opNoA)); (focus exact applyA)))
      exact Trace.nil _
    focus kernel_rfl
    simp only [Then, decide_true]
    refine AWP.seq ?_
    refine AWP.region ?_
    refine AOps.goA ?_
    refine AOps.conYesA (has30 l p hl2) ?_
    refine AOps.goA ?_
    refine AOps.conYesA (has38C l p hl2) ?_
    refine AOps.goA ?_
    refine AOps.endA ?_
    refine AWP.ret ?_
    exact ⟨trivial, [], by simp, .bool true, rfl, rfl, rfl, rfl⟩
end Go.Qd
