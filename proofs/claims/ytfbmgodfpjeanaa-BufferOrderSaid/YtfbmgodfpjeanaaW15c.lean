/- A part of the library of this claim: rules of an abstract machine (values in place of addresses), proved against the model, and contracts of the functions. -/
import Derived.Test.YtfbmgodfpjeanaaW15b
import Derived.Test.YtfbmgodfpjeanaaLW13a
set_option linter.unusedVariables false
set_option linter.unusedSimpArgs false
set_option maxHeartbeats 8000000
set_option maxRecDepth 10000
namespace Go.Qd
open Go Go.Proofs
/-! What a semaphore becomes, and what that returns. -/
def gC (c : Int) : Int := if 0 < c then IntKind.i64.wrap (c - 1) else c
def gL (c : Int) (r : Bool) (l : List Wait) (w : Wait) (may : Bool) : List Wait := if 0 < c then l else if may = true then addW l w r else l
def gE (c : Int) (may : Bool) : Int := if 0 < c then 0 else if may = true then 6 else 2
theorem gL_len (c : Int) (r : Bool) (l : List Wait) (w : Wait) (may : Bool) : (gL c r l w may).length ≤ l.length + 1 := by
  unfold gL; split
  · omega
  · split
    · rw [addW_len]; omega
    · omega
theorem get56 (c m : Int) (r : Bool) (l : List Wait) (w : Wait) (may : Bool) (hl : l.length ≤ 100000) : Con Try.prog 56 [Se c m r l, .agg (encWait w), .bool may] (.tup [Se (gC c) m r (gL c r l w may), iv (gE c may)]) [] := by
  by_cases hc : 0 < c
  · rw [show gC c = IntKind.i64.wrap (c - 1) from if_pos hc, show gL c r l w may = l from if_pos hc, show gE c may = 0 from if_pos hc]
    exact (get56_a c m r l w may hl hc).close (by simp [convA, convL, enumH, hget, lsA, lsL, List.take_of_length_le])
  · rw [show gC c = c from if_neg hc]
    cases may
    · rw [show gL c r l w false = l by simp [gL], show gE c false = 2 by simp [gE, hc]]
      exact (get56_b c m r l w hl hc).close (by simp [convA, convL, enumH, hget, lsA, lsL, List.take_of_length_le])
    · rw [show gL c r l w true = addW l w r by simp [gL, hc], show gE c true = 6 by simp [gE, hc]]
      have hx : (addW l w r).length = l.length + 1 := addW_len l w r
      exact (get56_c c m r l w hl hc).close (by simp [convA, convL, enumH, hget, hx, lsA, lsL, List.take_of_length_le])
/-- ref15.Get -/
theorem get57 (c m : Int) (r : Bool) (l : List Wait) (w : Wait) (may : Bool) (hl : l.length ≤ 100000) : Con Try.prog 57 [Se c m r l, .agg (encWait w), .bool may] (.tup [Se (gC c) m r (gL c r l w may), iv (gE c may)]) [] := by
  refine ⟨⟨_, _, Try.func57, rfl, by decide⟩, ICall.of_body' T12_ok ⟨Try.func57, rfl, by decide⟩ (by simp [Try.f57]) ?_⟩
  by_cases hc : 0 < c
  · rw [show gC c = IntKind.i64.wrap (c - 1) from if_pos hc, show gL c r l w may = l from if_pos hc, show gE c may = 0 from if_pos hc]
    have hgt : decide (c > 0) = true := by simpa using hc
    refine AWP.goFC hgt (appF (l := l) (by omega)) ?_
    refine AWP.condA ?_ ?_ <;> intro hc2
    · refine AWP.goA ?_
      refine AWP.ret ?_
      exact ⟨trivial, [], by simp, .tup [.agg [iv (IntKind.i64.wrap (c - 1)), iv m, .bool r, .osl 80 0 l.length], iv 0], rfl, by simp [convA, convL, idxIn, hget, lsA, lsL, List.take_of_length_le], rfl, rfl⟩
    · cases hc2
  · rw [show gC c = c from if_neg hc]
    have hgt : decide (c > 0) = false := by simpa using hc
    refine AWP.goFC hgt (appF (l := l) (by omega)) ?_
    refine AWP.condA ?_ ?_ <;> intro hc2
    · cases hc2
    · cases may
      · rw [show gL c r l w false = l by simp [gL], show gE c false = 2 by simp [gE, hc]]
        refine AWP.goA ?_
        refine AWP.condA ?_ ?_ <;> intro hc3
        · refine AWP.goA ?_
          refine AWP.ret ?_
          exact ⟨trivial, [], by simp, .tup [.agg [iv c, iv m, .bool r, .osl 80 0 l.length], iv 2], rfl, by simp [convA, convL, idxIn, hget, lsA, lsL, List.take_of_length_le], rfl, rfl⟩
        · cases hc3
      · rw [show gL c r l w true = addW l w r by simp [gL, hc], show gE c true = 6 by simp [gE, hc]]
        refine AWP.goA ?_
        refine AWP.condA ?_ ?_ <;> intro hc3
        · cases hc3
        · refine AWP.skip ?_
          simp only [Then, InBlock]
          refine AWP.seq ?_
          refine AWP.region ?_
          refine AOps.goA ?_
          refine AOps.conF closeW (add33C l w r (by omega)) ?_
          refine AOps.goA ?_
          refine AOps.endA ?_
          simp only [Then]
          refine AWP.goA ?_
          refine AWP.ret ?_
          exact ⟨trivial, [], by simp, .tup [Se c m r (addW l w r), iv 6], rfl, rfl, rfl, rfl⟩
def pC (c m : Int) (l : List Wait) : Int := match l with
  | [] => if c < m then IntKind.i64.wrap (c + 1) else c
  | _ :: _ => c
def pE (c m : Int) (l : List Wait) : Int := match l with
  | [] => if c < m then 0 else 1
  | _ :: _ => 0
def pK (l : List Wait) : List Wake := match l with
  | [] => []
  | x :: _ => [⟨x.proc, 0, 0⟩]
theorem put58 (c m : Int) (rk : Bool) (l : List Wait) (hl : l.length ≤ 100000) : Con Try.prog 58 [Se c m rk l] (.tup [Se (pC c m l) m rk l.tail, iv (pE c m l), Kl (pK l)]) [] := by
  cases l with
  | nil =>
    by_cases hc : c < m
    · rw [show pC c m [] = IntKind.i64.wrap (c + 1) from if_pos hc, show pE c m [] = 0 from if_pos hc]
      exact put58_b c m rk hc
    · rw [show pC c m [] = c from if_neg hc, show pE c m [] = 1 from if_neg hc]
      exact put58_c c m rk hc
  | cons x r => exact (put58_a c m rk x r (by simp at hl; omega)).close (by simp [convA, convL, enumH, hget, lsA, lsL, List.take_of_length_le, pC, pE, pK])
/-- ref15.Put -/
theorem put59 (c m : Int) (rk : Bool) (l : List Wait) (hl : l.length ≤ 100000) : Con Try.prog 59 [Se c m rk l] (.tup [Se (pC c m l) m rk l.tail, iv (pE c m l), Kl (pK l)]) [] := by
  refine ⟨⟨_, _, Try.func59, rfl, by decide⟩, ICall.of_body' T12_ok ⟨Try.func59, rfl, by decide⟩ (by simp [Try.f59]) ?_⟩
  cases l with
  | nil =>
    have c34 : Con Try.prog 34 [Wl []] (.tup [.agg (encWait ⟨0, 0, 0⟩), Wl [], .bool false]) [] := first34C [] (by simp)
    by_cases hc : c < m
    · rw [show pC c m [] = IntKind.i64.wrap (c + 1) from if_pos hc, show pE c m [] = 0 from if_pos hc]
      have hlt : decide (c < m) = true := by simpa using hc
      refine AWP.goC c34 ?_
      refine AWP.condA ?_ ?_ <;> intro hc2
      · cases hc2
      · refine AWP.goF hlt ?_
        refine AWP.condA ?_ ?_ <;> intro hc3
        · refine AWP.goA ?_
          refine AWP.ret ?_
          exact ⟨trivial, [], by simp, .tup [Se (IntKind.i64.wrap (c + 1)) m rk [], iv 0, .esl], rfl, rfl, rfl, rfl⟩
        · cases hc3
    · rw [show pC c m [] = c from if_neg hc, show pE c m [] = 1 from if_neg hc]
      have hlt : decide (c < m) = false := by simpa using hc
      refine AWP.goC c34 ?_
      refine AWP.condA ?_ ?_ <;> intro hc2
      · cases hc2
      · refine AWP.goF hlt ?_
        refine AWP.condA ?_ ?_ <;> intro hc3
        · cases hc3
        · refine AWP.goA ?_
          refine AWP.ret ?_
          exact ⟨trivial, [], by simp, .tup [Se c m rk [], iv 1, .esl], rfl, rfl, rfl, rfl⟩
  | cons x r =>
    have c34 : Con Try.prog 34 [Wl (x :: r)] (.tup [.agg (encWait x), Wl r, .bool true]) [] := first34C (x :: r) (by omega)
    refine AWP.goC c34 ?_
    refine AWP.condA ?_ ?_ <;> intro hc2
    · refine AWP.goA ?_
      refine AWP.ret ?_
      exact ⟨trivial, [], by simp, .tup [Se c m rk r, iv 0, .osl 176 0 1], rfl, rfl, rfl, rfl⟩
    · cases hc2
/-- ref15.Same, of the same -/
theorem same60 (c m : Int) (r : Bool) (l : List Wait) (hl : l.length ≤ 1000000) : Con Try.prog 60 [Se c m r l, Se c m r l] (.bool true) [] := by
  refine ⟨⟨_, _, Try.func60, rfl, by decide⟩, ICall.of_body' T12_ok ⟨Try.func60, rfl, by decide⟩ (by simp [Try.f60]) ?_⟩
  have hb : (r == r) = true := by simp
  refine AWP.goFC hb (sameW l hl) ?_
  refine AWP.ret ?_
  exact ⟨trivial, [], by simp, .bool true, rfl, rfl, rfl, rfl⟩
/-- law15.awake -/
theorem awake55 : Con Try.prog 55 [] (.bool true) [] := by
  refine ⟨⟨_, _, Try.func55, rfl, by decide⟩, ICall.of_body' T12_ok ⟨Try.func55, rfl, by decide⟩ (by simp [Try.f55]) ?_⟩
  have w0 : IntKind.i64.wrap ((1 : Int) - 1) = 0 := by decide
  have c1 : Con Try.prog 56 [.agg [iv 1, iv 1, .bool false, .lst []], .agg [iv 0, iv 0, iv 0], .bool true] (.tup [.agg [iv 0, iv 1, .bool false, .lst []], iv 0]) [] := by
    have := get56 1 1 false [] ⟨0, 0, 0⟩ true (by simp)
    rw [show gC 1 = 0 from w0, show gL 1 false [] ⟨0, 0, 0⟩ true = [] from rfl, show gE 1 true = 0 from rfl] at this
    exact this
  have c2 : Con Try.prog 56 [.agg [iv 0, iv 1, .bool false, .lst []], .agg [iv 4, iv 0, iv 0], .bool true] (.tup [.agg [iv 0, iv 1, .bool false, .lst [[iv 4, iv 0, iv 0]]], iv 6]) [] := get56 0 1 false [] ⟨4, 0, 0⟩ true (by simp)
  have c3 : Con Try.prog 58 [.agg [iv 0, iv 1, .bool false, .lst [[iv 4, iv 0, iv 0]]]] (.tup [.agg [iv 0, iv 1, .bool false, .lst []], iv 0, .lst [[iv 4, iv 0, iv 0]]]) [] := put58 0 1 false [⟨4, 0, 0⟩] (by simp)
  refine AWP.goC (And.intro c1 (And.intro c2 c3)) ?_
  refine AWP.ret ?_
  exact ⟨trivial, [], by simp, .bool true, rfl, rfl, rfl, rfl⟩
end Go.Qd
