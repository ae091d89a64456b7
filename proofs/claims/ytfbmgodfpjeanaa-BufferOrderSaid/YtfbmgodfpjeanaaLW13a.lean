/- A part of the library of this claim: rules of an abstract machine (values in place of addresses), proved against the model, and contracts of the functions. -/
import Derived.Test.YtfbmgodfpjeanaaW13
import Derived.Test.YtfbmgodfpjeanaaLW12c
set_option linter.unusedVariables false
set_option linter.unusedSimpArgs false
set_option maxHeartbeats 8000000
set_option maxRecDepth 10000
namespace Go.Qd
open Go Go.Proofs
theorem sameW (l : List Wait) (hl : l.length ≤ 1000000) : Con Try.prog 32 [Wl l, Wl l] (.bool true) [] := by
  have := same12 l l hl
  rw [decide_eq_true (rfl : l = l)] at this; exact this
theorem wakesK (l : List Wake) (hl : l.length ≤ 1000000) : Con Try.prog 35 [Kl l, Kl l] (.bool true) [] := by
  have := wakes35 l l hl
  rw [decide_eq_true (rfl : l = l)] at this; exact this
/-- What a read comes to. -/
def rdB (is : Bool) (l : List Wait) (w : Wait) (may : Bool) : List Wait := if is = false ∧ may = true then l ++ [w] else l
def rdC (is may : Bool) : Int := if is = true then 0 else if may = true then 6 else 2
def rdV (is : Bool) (v : Int) : Int := if is = true then v else 0
theorem read47 (is : Bool) (v : Int) (l : List Wait) (w : Wait) (may : Bool) (hl : l.length ≤ 100000) : Con Try.prog 47 [Bd is v l, .agg (encWait w), .bool may] (.tup [Bd is v (rdB is l w may), iv (rdC is may), iv (rdV is v)]) [] := by
  cases is
  · cases may
    · exact read47_no v l w (by omega)
    · exact read47_wait v l w hl
  · exact read47_is v l w may (by omega)
theorem read48 (is : Bool) (v : Int) (l : List Wait) (w : Wait) (may : Bool) (hl : l.length ≤ 100000) : Con Try.prog 48 [Bd is v l, .agg (encWait w), .bool may] (.tup [Bd is v (rdB is l w may), iv (rdC is may), iv (rdV is v)]) [] := by
  cases is
  · cases may
    · exact read48_no v l w (by omega)
    · exact read48_wait v l w hl
  · exact read48_is v l w may (by omega)
theorem rdB_len (is : Bool) (l : List Wait) (w : Wait) (may : Bool) : (rdB is l w may).length ≤ l.length + 1 := by
  unfold rdB; split <;> simp
/-- law13.BoardDoes -/
theorem law9 (is : Bool) (v : Int) (l : List Wait) (w : Wait) (may : Bool) (x : Int) : Con Try.prog 9 [Bd is v l, .agg (encWait w), .bool may, iv x] (.bool true) [] := by
  refine ⟨⟨_, _, Try.func9, rfl, by decide⟩, ICall.of_body' T12_ok ⟨Try.func9, rfl, by decide⟩ (by simp [Try.f9]) ?_⟩
  refine AWP.goC awake41 ?_
  refine AWP.condA ?_ ?_ <;> intro hc
  · refine AWP.goA ?_
    refine AWP.ret ?_
    exact ⟨trivial, [], by simp, .bool true, rfl, rfl, rfl, rfl⟩
  · have hl : l.length ≤ 60 := by simp at hc; omega
    refine AWP.goC (And.intro (write42 is v l x (by omega)) (And.intro (write43 is v l x (by omega)) (And.intro (same44 true x [] (by simp)) (wakesK (l.map (mkWake 0 x)) (by simp; omega))))) ?_
    refine AWP.goC (And.intro (clear45C is v l (by omega)) (And.intro (clear46C is v l (by omega)) (same44 false 0 l (by omega)))) ?_
    refine AWP.goC (And.intro (read47 is v l w may (by omega)) (And.intro (read48 is v l w may (by omega)) (same44 is v (rdB is l w may) (by have := rdB_len is l w may; omega)))) ?_
    refine AWP.ret ?_
    exact ⟨trivial, [], by simp, .bool true, rfl, rfl, rfl, rfl⟩
/-- law13.BoardWaits -/
theorem idxLast {l : List Wait} {w : Wait} (h : Heap) : aindexAddr' T12 h 22 (.lst ((l ++ [w]).map encWait)) (l.length : Int) = some (.vptr (encWait w)) := by
  have := idxW (l := l ++ [w]) (i := l.length) (by simp) h
  simpa using this
theorem law13 (l : List Wait) (w : Wait) : Con Try.prog 13 [Wl l, .agg (encWait w)] (.bool true) [] := by
  refine ⟨⟨_, _, Try.func13, rfl, by decide⟩, ICall.of_body' T12_ok ⟨Try.func13, rfl, by decide⟩ (by simp [Try.f13]) ?_⟩
  refine AWP.goC awake41 ?_
  refine AWP.condA ?_ ?_ <;> intro hc
  · refine AWP.goA ?_
    refine AWP.ret ?_
    exact ⟨trivial, [], by simp, .bool true, rfl, rfl, rfl, rfl⟩
  · have hl : l.length ≤ 60 := by simp at hc; omega
    have h1 : IntKind.i64.wrap ((l.length : Int) + 1) = ((l ++ [w]).length : Int) := by rw [wrap_succ (by omega)]; simp
    have h2 : ∀ h : Heap, aindexAddr' T12 h 22 (.lst ((l ++ [w]).map encWait)) (l.length : Int) = some (.vptr (encWait w)) := fun h => idxLast h
    have h3 : ∀ x : Wait, decide (x = x) = true := fun x => by simp
    refine AWP.goFC (And.intro h1 (And.intro h2 h3)) (And.intro (read47_wait 0 l w (by omega)) (clear45C false 0 (l ++ [w]) (by simp; omega))) ?_
    refine AWP.ret ?_
    exact ⟨trivial, [], by simp, .bool true, rfl, rfl, rfl, rfl⟩
end Go.Qd
