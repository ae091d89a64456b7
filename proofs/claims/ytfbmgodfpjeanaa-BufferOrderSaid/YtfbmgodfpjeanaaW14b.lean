/- A part of the library of this claim: rules of an abstract machine (values in place of addresses), proved against the model, and contracts of the functions. -/
import Derived.Test.YtfbmgodfpjeanaaW14
set_option linter.unusedVariables false
set_option linter.unusedSimpArgs false
set_option maxHeartbeats 8000000
set_option maxRecDepth 10000
namespace Go.Qd
open Go Go.Proofs
theorem own80C (dp : Int) (rk : Bool) (v : List Int) (l : List Wait) (hv : v.length ≤ 100000) (hl : l.length ≤ 100000) : Con Try.prog 80 [Bu dp rk v l] (Bu dp rk v l) [] := by
  cases v with
  | nil => cases l with
    | nil => exact own80_nn dp rk
    | cons x r => exact own80_nc dp rk x r (by simp at hl; omega)
  | cons a t => cases l with
    | nil => exact (own80_cn dp rk a t (by simp at hv; omega)).close (by simp [convA, convL, enumH, hget, lsA, lsL, List.take_of_length_le])
    | cons x r => exact (own80_cc dp rk a t x r (by simp at hv; omega) (by simp at hl; omega)).close (by simp [convA, convL, enumH, hget, lsA, lsL, List.take_of_length_le])
theorem own80V (dp : Int) (rk : Bool) (a : Int) (t : List Int) (l : List Wait) (hv : t.length ≤ 100000) (hl : l.length ≤ 100000) : Con Try.prog 80 [Bu dp rk (a :: t) l] (.agg [iv dp, .bool rk, .osl 0 0 (t.length + 1), Wl l]) [⟨3, 1, true, (a :: t).map encI⟩] := by
  cases l with
  | nil => exact own80_cn dp rk a t hv
  | cons x r => exact own80_cc dp rk a t x r hv (by simp at hl; omega)
/-- buffer.Send, to one who waits -/
theorem send62_a (dp : Int) (rk : Bool) (x : Wait) (r : List Wait) (w : Wait) (may : Bool) (hl : r.length ≤ 10000) : Con Try.prog 62 [Bu dp rk [] (x :: r), .agg (encWait w), .bool may] (.tup [Bu dp rk [] r, iv 0, Kl [⟨x.proc, 0, w.value⟩]]) [] := by
  refine ⟨⟨_, _, Try.func62, rfl, by decide⟩, ICall.of_body' T12_ok ⟨Try.func62, rfl, by decide⟩ (by simp [Try.f62]) ?_⟩
  have f0 : decide (((r.length + 1 : Nat) : Int) > 0) = true := by simp
  refine AWP.goFC f0 (own80C dp rk [] (x :: r) (by simp) (by simp; omega)) ?_
  refine AWP.condA ?_ ?_ <;> intro hc
  case refine_2 => cases hc
  refine AWP.seq ?_
  refine AWP.region ?_
  refine AOps.goA ?_
  refine AOps.inlineL T12_ok M12_ok rfl rfl (by (simp only [acall, aev, aevs, eget, reduceIte, Nat.reduceEqDiff, Option.getD, List.append_nil, List.nil_append, List.cons_append]) <;> rfl) ⟨Try.func81, rfl, by decide⟩ (by simp [Try.f81]) ?_
  refine AWP.enterF (show Try.f62.ntmps = 59 from rfl) ?_
  have c31 : Con Try.prog 31 [Wl (x :: r)] (.tup [.agg (encWait x), Wl r, .bool true]) [] := first31C (x :: r) (by simp; omega)
  refine AWP.goC c31 ?_
  refine AWP.condA ?_ ?_ <;> intro hc2
  · cases hc2
  refine AWP.goA ?_
  refine AWP.ret ?_
  refine ⟨trivial, .tup [.agg (encWait x), .osl 712 0 1], rfl, [(712, 192)], rfl, ?_⟩
  refine AOps.backF (show Try.f62.ntmps = 59 from rfl) ?_
  refine AOps.goA ?_
  refine AOps.endA ?_
  simp only [Then]
  refine AWP.goA ?_
  refine AWP.ret ?_
  exact ⟨trivial, [], by simp, .tup [Bu dp rk [] r, iv 0, .osl 192 0 1], rfl, rfl, rfl, rfl⟩
/-- buffer.Send, where there is room, behind others -/
theorem send62_c (dp : Int) (rk : Bool) (a : Int) (t : List Int) (l : List Wait) (w : Wait) (may : Bool) (hv : t.length ≤ 10000) (hl : l.length ≤ 10000) (hd : ((t.length + 1 : Nat) : Int) < dp) : Con Try.prog 62 [Bu dp rk (a :: t) l, .agg (encWait w), .bool may] (.tup [Bu dp rk ((a :: t) ++ [w.value]) l, iv 0, .lst []]) [] := by
  refine ⟨⟨_, _, Try.func62, rfl, by decide⟩, ICall.of_body' T12_ok ⟨Try.func62, rfl, by decide⟩ (by simp [Try.f62]) ?_⟩
  have f0 : (((t.length + 1 : Nat) : Int) == 0) = false := by simp; omega
  have f1 : decide (((t.length + 1 : Nat) : Int) < dp) = true := by simpa using hd
  refine AWP.goFC (And.intro f0 f1) (own80V dp rk a t l (by omega) (by omega)) ?_
  refine AWP.condA ?_ ?_ <;> intro hc
  · cases hc
  refine AWP.goF f1 ?_
  refine AWP.condA ?_ ?_ <;> intro hc2
  case refine_2 => cases hc2
  refine AWP.goA ?_
  refine AWP.ret ?_
  exact ⟨trivial, [], by simp, .tup [.agg [iv dp, .bool rk, .osl 96 0 (t.length + 1 + 1), Wl l], iv 0, .esl], rfl, by simp [convA, convL, idxIn, hget, lsA, lsL, List.take_of_length_le, encI], rfl, rfl⟩
/-- buffer.Send, where there is room, and nothing is there -/
theorem send62_b (dp : Int) (rk : Bool) (w : Wait) (may : Bool) (hd : (0 : Int) < dp) : Con Try.prog 62 [Bu dp rk [] [], .agg (encWait w), .bool may] (.tup [Bu dp rk [w.value] [], iv 0, .lst []]) [] := by
  refine ⟨⟨_, _, Try.func62, rfl, by decide⟩, ICall.of_body' T12_ok ⟨Try.func62, rfl, by decide⟩ (by simp [Try.f62]) ?_⟩
  have f1 : decide ((0 : Int) < dp) = true := by simpa using hd
  refine AWP.goA ?_
  refine AWP.region ?_
  refine AOps.goA ?_
  refine AOps.inlineL T12_ok M12_ok rfl rfl (by (simp only [acall, aev, aevs, eget, reduceIte, Nat.reduceEqDiff, Option.getD, List.append_nil, List.nil_append, List.cons_append]) <;> rfl) ⟨Try.func80, rfl, by decide⟩ (by simp [Try.f80]) ?_
  refine AWP.enterF (show Try.f62.ntmps = 59 from rfl) ?_
  refine AWP.goC (And.intro (clone84 [] (by simp)) (clone68 [] (by simp))) ?_
  refine AWP.ret ?_
  refine ⟨trivial, .agg [iv dp, .bool rk, .esl, .esl], rfl, [], rfl, ?_⟩
  refine AOps.backF (show Try.f62.ntmps = 59 from rfl) ?_
  refine AOps.goA ?_
  refine AOps.endA ?_
  simp only [Then]
  refine AWP.goA ?_
  refine AWP.condA ?_ ?_ <;> intro hc
  · cases hc
  refine AWP.goF f1 ?_
  refine AWP.condA ?_ ?_ <;> intro hc2
  case refine_2 => cases hc2
  refine AWP.goA ?_
  refine AWP.ret ?_
  exact ⟨trivial, [], by simp, .tup [.agg [iv dp, .bool rk, .osl 352 0 1, .esl], iv 0, .esl], rfl, rfl, rfl, rfl⟩
/-- buffer.Send, where there is no room, and nobody waits or something is there -/
theorem send62_no (dp : Int) (rk : Bool) (v : List Int) (l : List Wait) (w : Wait) (hv : v.length ≤ 10000) (hl : l.length ≤ 10000) (h0 : v ≠ [] ∨ l = []) (hd : ¬ (v.length : Int) < dp) : Con Try.prog 62 [Bu dp rk v l, .agg (encWait w), .bool false] (.tup [Bu dp rk v l, iv 2, .lst []]) [] := by
  refine ⟨⟨_, _, Try.func62, rfl, by decide⟩, ICall.of_body' T12_ok ⟨Try.func62, rfl, by decide⟩ (by simp [Try.f62]) ?_⟩
  have f1 : decide ((v.length : Int) < dp) = false := by simpa using hd
  cases v with
  | nil =>
    have hn : l = [] := by simpa using h0
    subst hn
    have f2 : decide (((0 : Nat) : Int) < dp) = false := by simpa using f1
    refine AWP.goC (own80C dp rk [] [] (by simp) (by simp)) ?_
    refine AWP.condA ?_ ?_ <;> intro hc
    · cases hc
    refine AWP.goF f2 ?_
    refine AWP.condA ?_ ?_ <;> intro hc2
    · cases hc2
    refine AWP.goA ?_
    refine AWP.condA ?_ ?_ <;> intro hc3
    case refine_2 => cases hc3
    refine AWP.goA ?_
    refine AWP.ret ?_
    exact ⟨trivial, [], by simp, .tup [Bu dp rk [] [], iv 2, .esl], rfl, rfl, rfl, rfl⟩
  | cons a t =>
    have f0 : (((t.length + 1 : Nat) : Int) == 0) = false := by simp; omega
    have f2 : decide (((t.length + 1 : Nat) : Int) < dp) = false := f1
    refine AWP.goFC (And.intro f0 f2) (own80C dp rk (a :: t) l (by omega) (by omega)) ?_
    refine AWP.condA ?_ ?_ <;> intro hc
    · cases hc
    refine AWP.goF f2 ?_
    refine AWP.condA ?_ ?_ <;> intro hc2
    · cases hc2
    refine AWP.goA ?_
    refine AWP.condA ?_ ?_ <;> intro hc3
    case refine_2 => cases hc3
    refine AWP.goA ?_
    refine AWP.ret ?_
    exact ⟨trivial, [], by simp, .tup [Bu dp rk (a :: t) l, iv 2, .esl], rfl, rfl, rfl, rfl⟩
/-- buffer.Send, of one who waits for room -/
theorem send62_wait (dp : Int) (rk : Bool) (v : List Int) (l : List Wait) (w : Wait) (hv : v.length ≤ 10000) (hl : l.length ≤ 10000) (h0 : v ≠ [] ∨ l = []) (hd : ¬ (v.length : Int) < dp) : Con Try.prog 62 [Bu dp rk v l, .agg (encWait w), .bool true] (.tup [Bu dp rk v (addW l w rk), iv 6, .lst []]) [] := by
  refine ⟨⟨_, _, Try.func62, rfl, by decide⟩, ICall.of_body' T12_ok ⟨Try.func62, rfl, by decide⟩ (by simp [Try.f62]) ?_⟩
  have f1 : decide ((v.length : Int) < dp) = false := by simpa using hd
  cases v with
  | nil =>
    have hn : l = [] := by simpa using h0
    subst hn
    have f2 : decide (((0 : Nat) : Int) < dp) = false := by simpa using f1
    have ca : Con Try.prog 29 [.lst [], .agg (encWait w), .bool rk] (Wl (addW [] w rk)) [] := add29C [] w rk (by simp)
    refine AWP.goC (own80C dp rk [] [] (by simp) (by simp)) ?_
    refine AWP.condA ?_ ?_ <;> intro hc
    · cases hc
    refine AWP.goF f2 ?_
    refine AWP.condA ?_ ?_ <;> intro hc2
    · cases hc2
    refine AWP.goA ?_
    refine AWP.condA ?_ ?_ <;> intro hc3
    · cases hc3
    refine AWP.goC ca ?_
    refine AWP.ret ?_
    exact ⟨trivial, [], by simp, .tup [Bu dp rk [] (addW [] w rk), iv 6, .esl], rfl, rfl, rfl, rfl⟩
  | cons a t =>
    have f0 : (((t.length + 1 : Nat) : Int) == 0) = false := by simp; omega
    have f2 : decide (((t.length + 1 : Nat) : Int) < dp) = false := f1
    refine AWP.goFC (And.intro f0 f2) (own80C dp rk (a :: t) l (by omega) (by omega)) ?_
    refine AWP.condA ?_ ?_ <;> intro hc
    · cases hc
    refine AWP.goF f2 ?_
    refine AWP.condA ?_ ?_ <;> intro hc2
    · cases hc2
    refine AWP.goA ?_
    refine AWP.condA ?_ ?_ <;> intro hc3
    · cases hc3
    refine AWP.goC (add29C l w rk (by omega)) ?_
    refine AWP.ret ?_
    exact ⟨trivial, [], by simp, .tup [Bu dp rk (a :: t) (addW l w rk), iv 6, .esl], rfl, rfl, rfl, rfl⟩
end Go.Qd
