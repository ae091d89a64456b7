/- A part of the library of this claim: rules of an abstract machine (values in place of addresses), proved against the model, and contracts of the functions. -/
import Derived.Test.YtfbmgodfpjeanaaW14b
set_option linter.unusedVariables false
set_option linter.unusedSimpArgs false
set_option maxHeartbeats 8000000
set_option maxRecDepth 10000
namespace Go.Qd
open Go Go.Proofs
theorem appIF {l : List Int} (hl : l.length ≤ 1000000) : ∀ (s : AS) (key : Nat), freeKey s key = true → aappend T12 s key 54 (.lst (l.map encI)) = some ⟨.osl key 0 l.length, [(key, ⟨3, 1, true, l.map encI⟩)], [], []⟩ := fun s key hk => appI hk hl
/-- ref14.own -/
theorem own82 (dp : Int) (rk : Bool) (v : List Int) (l : List Wait) (hv : v.length ≤ 100000) (hl : l.length ≤ 100000) : Con Try.prog 82 [Bu dp rk v l] (.agg [iv dp, .bool rk, .osl 0 0 v.length, Wl l]) [⟨3, 1, true, v.map encI⟩] := by
  refine ⟨⟨_, _, Try.func82, rfl, by decide⟩, ICall.of_body' T12_ok ⟨Try.func82, rfl, by decide⟩ (by simp [Try.f82]) ?_⟩
  refine AWP.goC (And.intro (appIF (l := v) (by omega)) (appF (l := l) (by omega))) ?_
  refine AWP.ret ?_
  exact ⟨trivial, [40], by simp, .agg [iv dp, .bool rk, .osl 40 0 v.length, .osl 72 0 l.length], rfl, by simp [convA, convL, idxIn, hget, lsA, lsL, List.take_of_length_le], rfl, rfl⟩
theorem own82C (dp : Int) (rk : Bool) (v : List Int) (l : List Wait) (hv : v.length ≤ 100000) (hl : l.length ≤ 100000) : Con Try.prog 82 [Bu dp rk v l] (Bu dp rk v l) [] :=
  (own82 dp rk v l hv hl).close (by simp [convA, convL, enumH, hget, lsA, lsL, List.take_of_length_le])
/-- ref14.Send, to one who waits -/
theorem send63_a (dp : Int) (rk : Bool) (x : Wait) (r : List Wait) (w : Wait) (may : Bool) (hl : r.length ≤ 10000) : Con Try.prog 63 [Bu dp rk [] (x :: r), .agg (encWait w), .bool may] (.tup [Bu dp rk [] r, iv 0, Kl [⟨x.proc, 0, w.value⟩]]) [] := by
  refine ⟨⟨_, _, Try.func63, rfl, by decide⟩, ICall.of_body' T12_ok ⟨Try.func63, rfl, by decide⟩ (by simp [Try.f63]) ?_⟩
  have f0 : decide (((r.length + 1 : Nat) : Int) > 0) = true := by simp
  have c34 : Con Try.prog 34 [Wl (x :: r)] (.tup [.agg (encWait x), Wl r, .bool true]) [] := first34C (x :: r) (by simp; omega)
  refine AWP.goFC f0 (And.intro (own82C dp rk [] (x :: r) (by simp) (by simp; omega)) c34) ?_
  refine AWP.condA ?_ ?_ <;> intro hc
  case refine_2 => cases hc
  refine AWP.goC c34 ?_
  refine AWP.ret ?_
  exact ⟨trivial, [], by simp, .tup [Bu dp rk [] r, iv 0, .osl 320 0 1], rfl, rfl, rfl, rfl⟩
/-- ref14.Send, where there is room -/
theorem send63_b (dp : Int) (rk : Bool) (v : List Int) (l : List Wait) (w : Wait) (may : Bool) (hv : v.length ≤ 10000) (hl : l.length ≤ 10000) (h0 : v ≠ [] ∨ l = []) (hd : (v.length : Int) < dp) : Con Try.prog 63 [Bu dp rk v l, .agg (encWait w), .bool may] (.tup [Bu dp rk (v ++ [w.value]) l, iv 0, .lst []]) [] := by
  refine ⟨⟨_, _, Try.func63, rfl, by decide⟩, ICall.of_body' T12_ok ⟨Try.func63, rfl, by decide⟩ (by simp [Try.f63]) ?_⟩
  cases v with
  | nil =>
    have hn : l = [] := by simpa using h0
    subst hn
    have f1 : decide (((0 : Nat) : Int) < dp) = true := by simpa using hd
    refine AWP.goC (own82 dp rk [] [] (by simp) (by simp)) ?_
    refine AWP.condA ?_ ?_ <;> intro hc
    · cases hc
    refine AWP.goF f1 ?_
    refine AWP.condA ?_ ?_ <;> intro hc2
    case refine_2 => cases hc2
    refine AWP.seq ?_
    refine AWP.region ?_
    refine AOps.goA ?_
    refine AOps.growA (hb := by simp) ?_
    refine AOps.goA ?_
    refine AOps.endA ?_
    simp only [Then]
    refine AWP.goA ?_
    refine AWP.ret ?_
    exact ⟨trivial, [], by simp, .tup [.agg [iv dp, .bool rk, .osl 112 0 1, Wl []], iv 0, .esl], rfl, rfl, rfl, rfl⟩
  | cons a t =>
    have f0 : (((t.length + 1 : Nat) : Int) == 0) = false := by simp; omega
    have f2 : decide (((t.length + 1 : Nat) : Int) < dp) = true := by simpa using hd
    have hv2 : t.length ≤ 10000 := by simp at hv; omega
    refine AWP.goFC (And.intro f0 f2) (own82 dp rk (a :: t) l (by omega) (by omega)) ?_
    refine AWP.condA ?_ ?_ <;> intro hc
    · cases hc
    refine AWP.goF f2 ?_
    refine AWP.condA ?_ ?_ <;> intro hc2
    case refine_2 => cases hc2
    refine AWP.goA ?_
    refine AWP.ret ?_
    exact ⟨trivial, [], by simp, .tup [.agg [iv dp, .bool rk, .osl 112 0 (t.length + 1 + 1), Wl l], iv 0, .esl], rfl, by simp [convA, convL, idxIn, hget, lsA, lsL, List.take_of_length_le, encI], rfl, rfl⟩
/-- ref14.Send, where there is no room -/
theorem send63_no (dp : Int) (rk : Bool) (v : List Int) (l : List Wait) (w : Wait) (hv : v.length ≤ 10000) (hl : l.length ≤ 10000) (h0 : v ≠ [] ∨ l = []) (hd : ¬ (v.length : Int) < dp) : Con Try.prog 63 [Bu dp rk v l, .agg (encWait w), .bool false] (.tup [Bu dp rk v l, iv 2, .lst []]) [] := by
  refine ⟨⟨_, _, Try.func63, rfl, by decide⟩, ICall.of_body' T12_ok ⟨Try.func63, rfl, by decide⟩ (by simp [Try.f63]) ?_⟩
  cases v with
  | nil =>
    have hn : l = [] := by simpa using h0
    subst hn
    have f2 : decide (((0 : Nat) : Int) < dp) = false := by simpa using hd
    refine AWP.goC (own82C dp rk [] [] (by simp) (by simp)) ?_
    refine AWP.condA ?_ ?_ <;> intro hc
    · cases hc
    refine AWP.goF f2 ?_
    refine AWP.condA ?_ ?_ <;> intro hc2
    · cases hc2
    refine AWP.goA ?_
    refine AWP.condA ?_ ?_ <;> intro hc3
    case refine_2 => cases hc3
    refine AWP.goA ?_
    refine AWP.ret ?_
    exact ⟨trivial, [], by simp, .tup [Bu dp rk [] [], iv 2, .esl], rfl, rfl, rfl, rfl⟩
  | cons a t =>
    have f0 : (((t.length + 1 : Nat) : Int) == 0) = false := by simp; omega
    have f2 : decide (((t.length + 1 : Nat) : Int) < dp) = false := by simpa using hd
    refine AWP.goFC (And.intro f0 f2) (own82C dp rk (a :: t) l (by omega) (by omega)) ?_
    refine AWP.condA ?_ ?_ <;> intro hc
    · cases hc
    refine AWP.goF f2 ?_
    refine AWP.condA ?_ ?_ <;> intro hc2
    · cases hc2
    refine AWP.goA ?_
    refine AWP.condA ?_ ?_ <;> intro hc3
    case refine_2 => cases hc3
    refine AWP.goA ?_
    refine AWP.ret ?_
    exact ⟨trivial, [], by simp, .tup [Bu dp rk (a :: t) l, iv 2, .esl], rfl, rfl, rfl, rfl⟩
/-- ref14.Send, of one who waits for room -/
theorem send63_wait (dp : Int) (rk : Bool) (v : List Int) (l : List Wait) (w : Wait) (hv : v.length ≤ 10000) (hl : l.length ≤ 10000) (h0 : v ≠ [] ∨ l = []) (hd : ¬ (v.length : Int) < dp) : Con Try.prog 63 [Bu dp rk v l, .agg (encWait w), .bool true] (.tup [Bu dp rk v (addW l w rk), iv 6, .lst []]) [] := by
  refine ⟨⟨_, _, Try.func63, rfl, by decide⟩, ICall.of_body' T12_ok ⟨Try.func63, rfl, by decide⟩ (by simp [Try.f63]) ?_⟩
  cases v with
  | nil =>
    have hn : l = [] := by simpa using h0
    subst hn
    have f2 : decide (((0 : Nat) : Int) < dp) = false := by simpa using hd
    have ca : Con Try.prog 33 [.lst [], .agg (encWait w), .bool rk] (Wl (addW [] w rk)) [] := add33C [] w rk (by simp)
    refine AWP.goC (own82C dp rk [] [] (by simp) (by simp)) ?_
    refine AWP.condA ?_ ?_ <;> intro hc
    · cases hc
    refine AWP.goF f2 ?_
    refine AWP.condA ?_ ?_ <;> intro hc2
    · cases hc2
    refine AWP.goA ?_
    refine AWP.condA ?_ ?_ <;> intro hc3
    · cases hc3
    refine AWP.goC ca ?_
    refine AWP.ret ?_
    exact ⟨trivial, [], by simp, .tup [Bu dp rk [] (addW [] w rk), iv 6, .esl], rfl, rfl, rfl, rfl⟩
  | cons a t =>
    have f0 : (((t.length + 1 : Nat) : Int) == 0) = false := by simp; omega
    have f2 : decide (((t.length + 1 : Nat) : Int) < dp) = false := by simpa using hd
    refine AWP.goFC (And.intro f0 f2) (own82C dp rk (a :: t) l (by omega) (by omega)) ?_
    refine AWP.condA ?_ ?_ <;> intro hc
    · cases hc
    refine AWP.goF f2 ?_
    refine AWP.condA ?_ ?_ <;> intro hc2
    · cases hc2
    refine AWP.goA ?_
    refine AWP.condA ?_ ?_ <;> intro hc3
    · cases hc3
    refine AWP.goC (add33C l w rk (by omega)) ?_
    refine AWP.ret ?_
    exact ⟨trivial, [], by simp, .tup [Bu dp rk (a :: t) (addW l w rk), iv 6, .esl], rfl, rfl, rfl, rfl⟩
end Go.Qd
