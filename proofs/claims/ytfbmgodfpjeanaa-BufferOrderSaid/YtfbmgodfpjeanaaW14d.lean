/- A part of the library of this claim: rules of an abstract machine (values in place of addresses), proved against the model, and contracts of the functions. -/
import Derived.Test.YtfbmgodfpjeanaaW14b
set_option linter.unusedVariables false
set_option linter.unusedSimpArgs false
set_option maxHeartbeats 8000000
set_option maxRecDepth 10000
namespace Go.Qd
open Go Go.Proofs
/-- buffer.Take, of what is there, where nobody waits -/
theorem take65_n (dp : Int) (rk : Bool) (a : Int) (t : List Int) (w : Wait) (may : Bool) (hv : t.length ≤ 10000) : Con Try.prog 65 [Bu dp rk (a :: t) [], .agg (encWait w), .bool may] (.tup [.agg [iv dp, .bool rk, .osl 0 0 t.length, .lst []], iv 0, iv a, .lst []]) [⟨3, 1, true, t.map encI⟩] := by
  refine ⟨⟨_, _, Try.func65, rfl, by decide⟩, ICall.of_body' T12_ok ⟨Try.func65, rfl, by decide⟩ (by simp [Try.f65]) ?_⟩
  have f0 : decide (((t.length + 1 : Nat) : Int) > 0) = true := by simp
  have f1 : ∀ h : Heap, aindexAddr' T12 h 54 (.lst ((a :: t).map encI)) 0 = some (.vptr (encI a)) := fun h => idxI (l := a :: t) (i := 0) (by simp) h
  refine AWP.goFC f0 (own80C dp rk (a :: t) [] (by simp; omega) (by simp)) ?_
  refine AWP.condA ?_ ?_ <;> intro hc
  case refine_2 => cases hc
  refine AWP.goFC (And.intro f1 (atailI a t)) (clone84 t (by omega)) ?_
  refine AWP.region ?_
  refine AOps.goA ?_
  refine AOps.inlineL T12_ok M12_ok rfl rfl (by (simp only [acall, aev, aevs, eget, ofConst_int, reduceIte, Nat.reduceEqDiff, Option.getD, List.append_nil, List.nil_append, List.cons_append]) <;> rfl) ⟨Try.func81, rfl, by decide⟩ (by simp [Try.f81]) ?_
  refine AWP.enterF (show Try.f65.ntmps = 58 from rfl) ?_
  refine AWP.goC firstN ?_
  refine AWP.condA ?_ ?_ <;> intro hc2
  case refine_2 => cases hc2
  refine AWP.goA ?_
  refine AWP.ret ?_
  refine ⟨trivial, .tup [.agg (encWait ⟨0, 0, 0⟩), .esl], rfl, [], rfl, ?_⟩
  refine AOps.backF (show Try.f65.ntmps = 58 from rfl) ?_
  refine AOps.goA ?_
  refine AOps.endA ?_
  simp only [Then]
  refine AWP.goA ?_
  refine AWP.condA ?_ ?_ <;> intro hc3
  · cases hc3
  refine AWP.goA ?_
  refine AWP.ret ?_
  exact ⟨trivial, [216], by simp, .tup [.agg [iv dp, .bool rk, .osl 216 0 t.length, .lst []], iv 0, iv a, .esl], rfl, rfl, rfl, rfl⟩
/-- buffer.Take, of what is there, where somebody waits -/
theorem take65_c (dp : Int) (rk : Bool) (a : Int) (t : List Int) (x : Wait) (r : List Wait) (w : Wait) (may : Bool) (hv : t.length ≤ 10000) (hl : r.length ≤ 10000) : Con Try.prog 65 [Bu dp rk (a :: t) (x :: r), .agg (encWait w), .bool may] (.tup [.agg [iv dp, .bool rk, .osl 0 0 (t.length + 1), Wl r], iv 0, iv a, Kl [⟨x.proc, 0, 0⟩]]) [⟨3, 1, true, (t ++ [x.value]).map encI⟩] := by
  refine ⟨⟨_, _, Try.func65, rfl, by decide⟩, ICall.of_body' T12_ok ⟨Try.func65, rfl, by decide⟩ (by simp [Try.f65]) ?_⟩
  have f0 : decide (((t.length + 1 : Nat) : Int) > 0) = true := by simp
  have f1 : ∀ h : Heap, aindexAddr' T12 h 54 (.lst ((a :: t).map encI)) 0 = some (.vptr (encI a)) := fun h => idxI (l := a :: t) (i := 0) (by simp) h
  refine AWP.goFC f0 (own80C dp rk (a :: t) (x :: r) (by simp; omega) (by simp; omega)) ?_
  refine AWP.condA ?_ ?_ <;> intro hc
  case refine_2 => cases hc
  refine AWP.goFC (And.intro f1 (atailI a t)) (clone84 t (by omega)) ?_
  refine AWP.region ?_
  refine AOps.goA ?_
  refine AOps.inlineL T12_ok M12_ok rfl rfl (by (simp only [acall, aev, aevs, eget, ofConst_int, reduceIte, Nat.reduceEqDiff, Option.getD, List.append_nil, List.nil_append, List.cons_append]) <;> rfl) ⟨Try.func81, rfl, by decide⟩ (by simp [Try.f81]) ?_
  refine AWP.enterF (show Try.f65.ntmps = 58 from rfl) ?_
  have c31 : Con Try.prog 31 [Wl (x :: r)] (.tup [.agg (encWait x), Wl r, .bool true]) [] := first31C (x :: r) (by simp; omega)
  refine AWP.goC c31 ?_
  refine AWP.condA ?_ ?_ <;> intro hc2
  · cases hc2
  refine AWP.goA ?_
  refine AWP.ret ?_
  refine ⟨trivial, .tup [.agg (encWait x), .osl 704 0 1], rfl, [(704, 232)], rfl, ?_⟩
  refine AOps.backF (show Try.f65.ntmps = 58 from rfl) ?_
  refine AOps.goA ?_
  refine AOps.endA ?_
  simp only [Then]
  refine AWP.goA ?_
  refine AWP.condA ?_ ?_ <;> intro hc3
  case refine_2 => cases hc3
  refine AWP.goA ?_
  refine AWP.ret ?_
  exact ⟨trivial, [216], by simp, .tup [.agg [iv dp, .bool rk, .osl 216 0 (t.length + 1), Wl r], iv 0, iv a, .osl 232 0 1], rfl, rfl, by simp [keepO, idxIn, hget, convO, encI]; rfl, rfl⟩
/-- buffer.Take, of nothing -/
theorem take65_no (dp : Int) (rk : Bool) (l : List Wait) (w : Wait) (hl : l.length ≤ 10000) : Con Try.prog 65 [Bu dp rk [] l, .agg (encWait w), .bool false] (.tup [Bu dp rk [] l, iv 2, iv 0, .lst []]) [] := by
  refine ⟨⟨_, _, Try.func65, rfl, by decide⟩, ICall.of_body' T12_ok ⟨Try.func65, rfl, by decide⟩ (by simp [Try.f65]) ?_⟩
  refine AWP.goC (own80C dp rk [] l (by simp) (by omega)) ?_
  refine AWP.condA ?_ ?_ <;> intro hc
  · cases hc
  refine AWP.goA ?_
  refine AWP.condA ?_ ?_ <;> intro hc3
  case refine_2 => cases hc3
  refine AWP.goA ?_
  refine AWP.ret ?_
  exact ⟨trivial, [], by simp, .tup [Bu dp rk [] l, iv 2, iv 0, .esl], rfl, rfl, rfl, rfl⟩
/-- buffer.Take, of one who waits for something -/
theorem take65_wait (dp : Int) (rk : Bool) (l : List Wait) (w : Wait) (hl : l.length ≤ 10000) : Con Try.prog 65 [Bu dp rk [] l, .agg (encWait w), .bool true] (.tup [Bu dp rk [] (addW l w rk), iv 6, iv 0, .lst []]) [] := by
  refine ⟨⟨_, _, Try.func65, rfl, by decide⟩, ICall.of_body' T12_ok ⟨Try.func65, rfl, by decide⟩ (by simp [Try.f65]) ?_⟩
  refine AWP.goC (own80C dp rk [] l (by simp) (by omega)) ?_
  refine AWP.condA ?_ ?_ <;> intro hc
  · cases hc
  refine AWP.goA ?_
  refine AWP.condA ?_ ?_ <;> intro hc3
  · cases hc3
  refine AWP.goC (add29C l w rk (by omega)) ?_
  refine AWP.ret ?_
  exact ⟨trivial, [], by simp, .tup [Bu dp rk [] (addW l w rk), iv 6, iv 0, .esl], rfl, rfl, rfl, rfl⟩
end Go.Qd
