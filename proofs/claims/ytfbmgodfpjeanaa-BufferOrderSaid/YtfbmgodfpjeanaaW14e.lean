/- A part of the library of this claim: rules of an abstract machine (values in place of addresses), proved against the model, and contracts of the functions. -/
import Derived.Test.YtfbmgodfpjeanaaW14c
set_option linter.unusedVariables false
set_option linter.unusedSimpArgs false
set_option maxHeartbeats 8000000
set_option maxRecDepth 10000
namespace Go.Qd
open Go Go.Proofs
/-- ref14.Take, of what is there, where nobody waits -/
theorem take66_n (dp : Int) (rk : Bool) (a : Int) (t : List Int) (w : Wait) (may : Bool) (hv : t.length ≤ 10000) : Con Try.prog 66 [Bu dp rk (a :: t) [], .agg (encWait w), .bool may] (.tup [Bu dp rk t [], iv 0, iv a, .lst []]) [] := by
  refine ⟨⟨_, _, Try.func66, rfl, by decide⟩, ICall.of_body' T12_ok ⟨Try.func66, rfl, by decide⟩ (by simp [Try.f66]) ?_⟩
  have f0 : decide (((t.length + 1 : Nat) : Int) > 0) = true := by simp
  have f1 : ∀ h : Heap, aindexAddr' T12 h 54 (.lst ((a :: t).map encI)) 0 = some (.vptr (encI a)) := fun h => idxI (l := a :: t) (i := 0) (by simp) h
  have c34 : Con Try.prog 34 [Wl []] (.tup [.agg (encWait ⟨0, 0, 0⟩), Wl [], .bool false]) [] := first34C [] (by simp)
  refine AWP.goFC f0 (own82C dp rk (a :: t) [] (by simp; omega) (by simp)) ?_
  refine AWP.condA ?_ ?_ <;> intro hc
  case refine_2 => cases hc
  refine AWP.goFC (atailI a t) (And.intro (appIF (l := t) (by omega)) c34) ?_
  refine AWP.condA ?_ ?_ <;> intro hc2
  case refine_2 => cases hc2
  refine AWP.goF f1 ?_
  refine AWP.ret ?_
  exact ⟨trivial, [], by simp, .tup [.agg [iv dp, .bool rk, .osl 184 0 t.length, .lst []], iv 0, iv a, .esl], rfl, by simp [convA, convL, idxIn, hget, lsA, lsL, List.take_of_length_le], rfl, rfl⟩
/-- ref14.Take, of what is there, where somebody waits -/
theorem take66_c (dp : Int) (rk : Bool) (a : Int) (t : List Int) (x : Wait) (r : List Wait) (w : Wait) (may : Bool) (hv : t.length ≤ 10000) (hl : r.length ≤ 10000) : Con Try.prog 66 [Bu dp rk (a :: t) (x :: r), .agg (encWait w), .bool may] (.tup [Bu dp rk (t ++ [x.value]) r, iv 0, iv a, Kl [⟨x.proc, 0, 0⟩]]) [] := by
  refine ⟨⟨_, _, Try.func66, rfl, by decide⟩, ICall.of_body' T12_ok ⟨Try.func66, rfl, by decide⟩ (by simp [Try.f66]) ?_⟩
  have f0 : decide (((t.length + 1 : Nat) : Int) > 0) = true := by simp
  have f1 : ∀ h : Heap, aindexAddr' T12 h 54 (.lst ((a :: t).map encI)) 0 = some (.vptr (encI a)) := fun h => idxI (l := a :: t) (i := 0) (by simp) h
  have c34 : Con Try.prog 34 [Wl (x :: r)] (.tup [.agg (encWait x), Wl r, .bool true]) [] := first34C (x :: r) (by simp; omega)
  refine AWP.goFC f0 (own82C dp rk (a :: t) (x :: r) (by simp; omega) (by simp; omega)) ?_
  refine AWP.condA ?_ ?_ <;> intro hc
  case refine_2 => cases hc
  refine AWP.goFC (atailI a t) (And.intro (appIF (l := t) (by omega)) c34) ?_
  refine AWP.condA ?_ ?_ <;> intro hc2
  · cases hc2
  refine AWP.goF f1 ?_
  refine AWP.ret ?_
  exact ⟨trivial, [], by simp, .tup [.agg [iv dp, .bool rk, .osl 184 0 (t.length + 1), Wl r], iv 0, iv a, .osl 448 0 1], rfl, by simp [convA, convL, idxIn, hget, lsA, lsL, List.take_of_length_le, encI]; rfl, rfl, rfl⟩
/-- ref14.Take, of nothing -/
theorem take66_no (dp : Int) (rk : Bool) (l : List Wait) (w : Wait) (hl : l.length ≤ 10000) : Con Try.prog 66 [Bu dp rk [] l, .agg (encWait w), .bool false] (.tup [Bu dp rk [] l, iv 2, iv 0, .lst []]) [] := by
  refine ⟨⟨_, _, Try.func66, rfl, by decide⟩, ICall.of_body' T12_ok ⟨Try.func66, rfl, by decide⟩ (by simp [Try.f66]) ?_⟩
  refine AWP.goC (own82C dp rk [] l (by simp) (by omega)) ?_
  refine AWP.condA ?_ ?_ <;> intro hc
  · cases hc
  refine AWP.goA ?_
  refine AWP.condA ?_ ?_ <;> intro hc3
  case refine_2 => cases hc3
  refine AWP.goA ?_
  refine AWP.ret ?_
  exact ⟨trivial, [], by simp, .tup [Bu dp rk [] l, iv 2, iv 0, .esl], rfl, rfl, rfl, rfl⟩
/-- ref14.Take, of one who waits for something -/
theorem take66_wait (dp : Int) (rk : Bool) (l : List Wait) (w : Wait) (hl : l.length ≤ 10000) : Con Try.prog 66 [Bu dp rk [] l, .agg (encWait w), .bool true] (.tup [Bu dp rk [] (addW l w rk), iv 6, iv 0, .lst []]) [] := by
  refine ⟨⟨_, _, Try.func66, rfl, by decide⟩, ICall.of_body' T12_ok ⟨Try.func66, rfl, by decide⟩ (by simp [Try.f66]) ?_⟩
  refine AWP.goC (own82C dp rk [] l (by simp) (by omega)) ?_
  refine AWP.condA ?_ ?_ <;> intro hc
  · cases hc
  refine AWP.goA ?_
  refine AWP.condA ?_ ?_ <;> intro hc3
  · cases hc3
  refine AWP.goC (add33C l w rk (by omega)) ?_
  refine AWP.ret ?_
  exact ⟨trivial, [], by simp, .tup [Bu dp rk [] (addW l w rk), iv 6, iv 0, .esl], rfl, rfl, rfl, rfl⟩
/-- ref14.Same, of the same -/
theorem same64 (dp : Int) (rk : Bool) (v : List Int) (l : List Wait) (hv : v.length ≤ 100000) (hl : l.length ≤ 100000) : Con Try.prog 64 [Bu dp rk v l, Bu dp rk v l] (.bool true) [] := by
  refine ⟨⟨_, _, Try.func64, rfl, by decide⟩, ICall.of_body' T12_ok ⟨Try.func64, rfl, by decide⟩ (by simp [Try.f64]) ?_⟩
  have hb : (rk == rk) = true := by simp
  have hd : (dp == dp) = true := by simp
  have c83 : Con Try.prog 83 [Il v, Il v] (.bool true) [] := by
    have := same83 v v (by omega)
    rw [decide_eq_true (rfl : v = v)] at this; exact this
  refine AWP.goFC (And.intro hb hd) (And.intro c83 (sameW l (by omega))) ?_
  refine AWP.ret ?_
  exact ⟨trivial, [], by simp, .bool true, rfl, rfl, rfl, rfl⟩
end Go.Qd
