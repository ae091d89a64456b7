/- A part of the library of this claim: rules of an abstract machine (values in place of addresses), proved against the model, and contracts of the functions. -/
import Derived.Test.YtfbmgodfpjeanaaW15c
import Derived.Test.YtfbmgodfpjeanaaLW16c
set_option linter.unusedVariables false
set_option linter.unusedSimpArgs false
set_option maxHeartbeats 8000000
set_option maxRecDepth 10000
namespace Go.Qd
open Go Go.Proofs
/-! ### Message buffers -/
abbrev Bu (dp : Int) (rk : Bool) (v : List Int) (l : List Wait) : AV := .agg [iv dp, .bool rk, Il v, Wl l]
theorem afull {n : Nat} (hn : 0 < n) : ∀ (h : Heap) (sz k : Nat), keySize h (.osl k 0 n) sz = true → aslice h sz (.osl k 0 n) none (some (n : Int)) (some (n : Int)) = some (.osl k 0 n) := fun h sz k hk => by
  unfold aslice
  simp only [alen, Option.getD_some, Option.getD_none, Option.isNone_some, Option.isSome_some, Bool.false_or, Bool.and_true]
  rw [if_pos (by unfold inB; simp)]
  rw [if_neg (by simp; omega), if_neg (by omega), if_pos hk]
  simp
theorem atailI (a : Int) (t : List Int) : ∀ h : Heap, aslice h 1 (.lst ((a :: t).map encI)) (some 1) none none = some (.lst (t.map encI)) := fun h => by
  unfold aslice
  simp only [alen, Option.getD_some, Option.getD_none, Option.isNone_none, Bool.true_or, Bool.and_true]
  rw [if_pos (by unfold inB; simp <;> omega)]
  simp [encI, List.take_of_length_le]
theorem own80_nn (dp : Int) (rk : Bool) : Con Try.prog 80 [Bu dp rk [] []] (Bu dp rk [] []) [] := by
  refine ⟨⟨_, _, Try.func80, rfl, by decide⟩, ICall.of_body' T12_ok ⟨Try.func80, rfl, by decide⟩ (by simp [Try.f80]) ?_⟩
  refine AWP.goC (And.intro (clone84 [] (by simp)) (clone68 [] (by simp))) ?_
  refine AWP.ret ?_
  exact ⟨trivial, [], by simp, .agg [iv dp, .bool rk, .esl, .esl], rfl, rfl, rfl, rfl⟩
theorem own80_nc (dp : Int) (rk : Bool) (x : Wait) (r : List Wait) (hl : r.length ≤ 100000) : Con Try.prog 80 [Bu dp rk [] (x :: r)] (Bu dp rk [] (x :: r)) [] := by
  refine ⟨⟨_, _, Try.func80, rfl, by decide⟩, ICall.of_body' T12_ok ⟨Try.func80, rfl, by decide⟩ (by simp [Try.f80]) ?_⟩
  have f2 := afull (n := r.length + 1) (by omega)
  refine AWP.goFC f2 (And.intro (clone84 [] (by simp)) (clone68 (x :: r) (by simp; omega))) ?_
  refine AWP.ret ?_
  exact ⟨trivial, [], by simp, .agg [iv dp, .bool rk, .esl, .osl 64 0 (r.length + 1)], rfl, by simp [convA, convL, idxIn, hget, lsA, lsL, List.take_of_length_le], rfl, rfl⟩
theorem own80_cn (dp : Int) (rk : Bool) (a : Int) (t : List Int) (hv : t.length ≤ 100000) : Con Try.prog 80 [Bu dp rk (a :: t) []] (.agg [iv dp, .bool rk, .osl 0 0 (t.length + 1), .lst []]) [⟨3, 1, true, (a :: t).map encI⟩] := by
  refine ⟨⟨_, _, Try.func80, rfl, by decide⟩, ICall.of_body' T12_ok ⟨Try.func80, rfl, by decide⟩ (by simp [Try.f80]) ?_⟩
  have f1 := afull (n := t.length + 1) (by omega)
  refine AWP.goFC f1 (And.intro (clone84 (a :: t) (by simp; omega)) (clone68 [] (by simp))) ?_
  refine AWP.ret ?_
  exact ⟨trivial, [40], by simp, .agg [iv dp, .bool rk, .osl 40 0 (t.length + 1), .esl], rfl, rfl, rfl, rfl⟩
theorem own80_cc (dp : Int) (rk : Bool) (a : Int) (t : List Int) (x : Wait) (r : List Wait) (hv : t.length ≤ 100000) (hl : r.length ≤ 100000) : Con Try.prog 80 [Bu dp rk (a :: t) (x :: r)] (.agg [iv dp, .bool rk, .osl 0 0 (t.length + 1), Wl (x :: r)]) [⟨3, 1, true, (a :: t).map encI⟩] := by
  refine ⟨⟨_, _, Try.func80, rfl, by decide⟩, ICall.of_body' T12_ok ⟨Try.func80, rfl, by decide⟩ (by simp [Try.f80]) ?_⟩
  have f1 := afull (n := t.length + 1) (by omega)
  have f2 := afull (n := r.length + 1) (by omega)
  refine AWP.goFC (And.intro f1 f2) (And.intro (clone84 (a :: t) (by simp; omega)) (clone68 (x :: r) (by simp; omega))) ?_
  refine AWP.ret ?_
  exact ⟨trivial, [40], by simp, .agg [iv dp, .bool rk, .osl 40 0 (t.length + 1), .osl 64 0 (r.length + 1)], rfl, by simp [convA, convL, idxIn, hget, lsA, lsL, List.take_of_length_le], rfl, rfl⟩
end Go.Qd
