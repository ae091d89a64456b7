/- A part of the library of this claim: rules of an abstract machine (values in place of addresses), proved against the model, and contracts of the functions. -/
import Derived.Test.YtfbmgodfpjeanaaQsB
import Derived.Test.YtfbmgodfpjeanaaQaC
set_option linter.unusedVariables false
set_option linter.unusedSimpArgs false
set_option maxHeartbeats 8000000
set_option maxRecDepth 10000
namespace Go.Qd
open Go Go.Proofs
/-! ### Blackboards -/
abbrev Bd (is : Bool) (v : Int) (l : List Wait) : AV := .agg [.bool is, iv v, Wl l]
theorem mkW {s : AS} {key n : Nat} (hk : freeKey s key = true) (hl : n ≤ 1000000) : amakeSlice T12 s key 22 (n : Int) = some ⟨.osl key 0 n, [(key, ⟨25, 3, true, List.replicate n [iv 0, iv 0, iv 0]⟩)], [], []⟩ := by
  have h1 : tget T12 22 = some { kind := .slice 25, size := 1, bytes := 24, zero := [.esl] } := rfl
  have h2 : tget T12 25 = some { kind := .struct [(0, 1, false), (1, 1, false), (2, 1, false)], size := 3, bytes := 24, zero := [.int .i64 0, .int .i64 0, .int .i64 0], eqk := some [some .i64, some .i64, some .i64] } := rfl
  unfold amakeSlice
  simp only [h1, h2]
  rw [if_pos ⟨hk, by decide, rfl, by decide, by omega, by simp; omega, rfl⟩]
  simp only [Int.toNat_natCast]
theorem put_all {A B : List (List AV)} (h : A.length = B.length) : putRows A 0 B = B := by
  unfold putRows
  rw [List.take_zero, List.nil_append, Nat.zero_add, ← h, List.drop_length, List.append_nil]
/-- board.own -/
theorem own74 (is : Bool) (v : Int) (l : List Wait) (hl : l.length ≤ 1000000) : Con Try.prog 74 [Bd is v l] (.agg [.bool is, iv v, .osl 0 0 l.length]) [⟨25, 3, true, l.map encWait⟩] := by
  refine ⟨⟨_, _, Try.func74, rfl, by decide⟩, ICall.of_body' T12_ok ⟨Try.func74, rfl, by decide⟩ (by simp [Try.f74]) ?_⟩
  refine AWP.goA ?_
  refine AWP.region ?_
  refine AOps.goA ?_
  refine AOps.mkA (mkW (n := l.length) (by rfl) (by omega)) ?_
  refine AOps.goA ?_
  refine AOps.endA ?_
  simp only [Then]
  refine AWP.seq ?_
  refine AWP.region ?_
  refine AOps.goA ?_
  by_cases h0 : l.length = 0
  · have hn : l = [] := List.length_eq_zero_iff.1 h0
    subst hn
    refine AOps.copy0 T12_ok rfl rfl rfl rfl rfl rfl (by decide) (by (simp only [aev, eget, reduceIte, Nat.reduceEqDiff, Option.getD]) <;> rfl) rfl (by (simp only [aev, eget, reduceIte, Nat.reduceEqDiff, Option.getD]) <;> rfl) (rd := []) (cl := true) rfl applyA ?_
    refine AOps.goA ?_
    refine AOps.endA ?_
    simp only [Then]
    refine AWP.goA ?_
    refine AWP.ret ?_
    exact ⟨trivial, [56], by simp, .agg [.bool is, iv v, .osl 56 0 0], rfl, rfl, rfl, rfl⟩
  · refine AOps.copyS T12_ok rfl rfl rfl rfl rfl rfl (by (simp only [aev, eget, reduceIte, Nat.reduceEqDiff, Option.getD]) <;> rfl) rfl (by (simp only [aev, eget, reduceIte, Nat.reduceEqDiff, Option.getD]) <;> rfl) (rows := l.map encWait) (rd := []) (cl := true) rowsW (by simp only [hget, reduceIte, Nat.reduceEqDiff] <;> rfl) rfl (by decide) (by simp) (m := l.length) (by simp [Nat.min_self]) (by omega) (by simp) (new := l.map encWait) (List.take_of_length_le (by simp)) (oneW _) applyA ?_
    refine AOps.goA ?_
    refine AOps.endA ?_
    simp only [Then]
    refine AWP.goA ?_
    refine AWP.ret ?_
    exact ⟨trivial, [56], by simp, .agg [.bool is, iv v, .osl 56 0 l.length], rfl, rfl, by simp [keepO, idxIn, hget, convO, put_all], rfl⟩
theorem own74C (is : Bool) (v : Int) (l : List Wait) (hl : l.length ≤ 1000000) : Con Try.prog 74 [Bd is v l] (Bd is v l) [] := (own74 is v l hl).close (by simp [convA, convL, enumH, hget, lsA, lsL, List.take_of_length_le])
/-- board.Clear -/
theorem clear45 (is : Bool) (v : Int) (l : List Wait) (hl : l.length ≤ 1000000) : Con Try.prog 45 [Bd is v l] (.agg [.bool false, iv 0, .osl 0 0 l.length]) [⟨25, 3, true, l.map encWait⟩] := by
  refine ⟨⟨_, _, Try.func45, rfl, by decide⟩, ICall.of_body' T12_ok ⟨Try.func45, rfl, by decide⟩ (by simp [Try.f45]) ?_⟩
  refine AWP.goC (own74 is v l hl) ?_
  refine AWP.ret ?_
  exact ⟨trivial, [32], by simp, .agg [.bool false, iv 0, .osl 32 0 l.length], rfl, rfl, rfl, rfl⟩
theorem clear45C (is : Bool) (v : Int) (l : List Wait) (hl : l.length ≤ 1000000) : Con Try.prog 45 [Bd is v l] (Bd false 0 l) [] := (clear45 is v l hl).close (by simp [convA, convL, enumH, hget, lsA, lsL, List.take_of_length_le])
/-- ref13.Clear -/
theorem clear46C (is : Bool) (v : Int) (l : List Wait) (hl : l.length ≤ 1000000) : Con Try.prog 46 [Bd is v l] (Bd false 0 l) [] := by
  refine ⟨⟨_, _, Try.func46, rfl, by decide⟩, ICall.of_body' T12_ok ⟨Try.func46, rfl, by decide⟩ (by simp [Try.f46]) ?_⟩
  refine AWP.goA ?_
  refine AWP.region ?_
  refine AOps.goA ?_
  refine AOps.appA (appW (l := l) (by rfl) (by omega)) ?_
  refine AOps.goA ?_
  refine AOps.endA ?_
  simp only [Then]
  refine AWP.ret ?_
  exact ⟨trivial, [], by simp, .agg [.bool false, iv 0, .osl 40 0 l.length], rfl, by simp [convA, convL, idxIn, hget, lsA, lsL, List.take_of_length_le], rfl, rfl⟩
/-- board.Write -/
theorem write42 (is : Bool) (v : Int) (l : List Wait) (x : Int) (hl : l.length ≤ 1000000) : Con Try.prog 42 [Bd is v l, iv x] (.tup [Bd true x [], Kl (l.map (mkWake 0 x))]) [] := by
  refine ⟨⟨_, _, Try.func42, rfl, by decide⟩, ICall.of_body' T12_ok ⟨Try.func42, rfl, by decide⟩ (by simp [Try.f42]) ?_⟩
  refine AWP.goC (all36 l 0 x hl) ?_
  refine AWP.ret ?_
  exact ⟨trivial, [], by simp, .tup [.agg [.bool true, iv x, .esl], Kl (l.map (mkWake 0 x))], rfl, rfl, rfl, rfl⟩
/-- ref13.Write -/
theorem write43 (is : Bool) (v : Int) (l : List Wait) (x : Int) (hl : l.length ≤ 1000000) : Con Try.prog 43 [Bd is v l, iv x] (.tup [Bd true x [], Kl (l.map (mkWake 0 x))]) [] := by
  refine ⟨⟨_, _, Try.func43, rfl, by decide⟩, ICall.of_body' T12_ok ⟨Try.func43, rfl, by decide⟩ (by simp [Try.f43]) ?_⟩
  refine AWP.goC (all37 l 0 x hl) ?_
  refine AWP.ret ?_
  exact ⟨trivial, [], by simp, .tup [.agg [.bool true, iv x, .esl], Kl (l.map (mkWake 0 x))], rfl, rfl, rfl, rfl⟩
/-- ref13.Same, of the same -/
theorem same44 (is : Bool) (v : Int) (l : List Wait) (hl : l.length ≤ 1000000) : Con Try.prog 44 [Bd is v l, Bd is v l] (.bool true) [] := by
  refine ⟨⟨_, _, Try.func44, rfl, by decide⟩, ICall.of_body' T12_ok ⟨Try.func44, rfl, by decide⟩ (by simp [Try.f44]) ?_⟩
  have c : Con Try.prog 32 [Wl l, Wl l] (.bool true) [] := by
    have := same12 l l hl
    rw [decide_eq_true (rfl : l = l)] at this; exact this
  have hb : (is == is) = true := by simp
  refine AWP.goFC hb c ?_
  refine AWP.ret ?_
  exact ⟨trivial, [], by simp, .bool true, rfl, rfl, rfl, rfl⟩
/-- board.Read, of what is written -/
theorem read47_is (v : Int) (l : List Wait) (w : Wait) (may : Bool) (hl : l.length ≤ 1000000) : Con Try.prog 47 [Bd true v l, .agg (encWait w), .bool may] (.tup [Bd true v l, iv 0, iv v]) [] := by
  refine ⟨⟨_, _, Try.func47, rfl, by decide⟩, ICall.of_body' T12_ok ⟨Try.func47, rfl, by decide⟩ (by simp [Try.f47]) ?_⟩
  refine AWP.goC (own74C true v l hl) ?_
  refine AWP.condA ?_ ?_ <;> intro hc
  · refine AWP.goA ?_
    refine AWP.ret ?_
    exact ⟨trivial, [], by simp, .tup [Bd true v l, iv 0, iv v], rfl, rfl, rfl, rfl⟩
  · cases hc
theorem read47_no (v : Int) (l : List Wait) (w : Wait) (hl : l.length ≤ 1000000) : Con Try.prog 47 [Bd false v l, .agg (encWait w), .bool false] (.tup [Bd false v l, iv 2, iv 0]) [] := by
  refine ⟨⟨_, _, Try.func47, rfl, by decide⟩, ICall.of_body' T12_ok ⟨Try.func47, rfl, by decide⟩ (by simp [Try.f47]) ?_⟩
  refine AWP.goC (own74C false v l hl) ?_
  refine AWP.condA ?_ ?_ <;> intro hc
  · cases hc
  · refine AWP.goA ?_
    refine AWP.condA ?_ ?_ <;> intro hc2
    · refine AWP.goA ?_
      refine AWP.ret ?_
      exact ⟨trivial, [], by simp, .tup [Bd false v l, iv 2, iv 0], rfl, rfl, rfl, rfl⟩
    · cases hc2
theorem read47_wait (v : Int) (l : List Wait) (w : Wait) (hl : l.length ≤ 100000) : Con Try.prog 47 [Bd false v l, .agg (encWait w), .bool true] (.tup [Bd false v (l ++ [w]), iv 6, iv 0]) [] := by
  refine ⟨⟨_, _, Try.func47, rfl, by decide⟩, ICall.of_body' T12_ok ⟨Try.func47, rfl, by decide⟩ (by simp [Try.f47]) ?_⟩
  refine AWP.goC (own74C false v l (by omega)) ?_
  refine AWP.condA ?_ ?_ <;> intro hc
  · cases hc
  · refine AWP.goA ?_
    refine AWP.condA ?_ ?_ <;> intro hc2
    · cases hc2
    · refine AWP.goC (show Con Try.prog 29 [Wl l, .agg (encWait w), .bool false] (Wl (l ++ [w])) [] from add29C l w false (by omega)) ?_
      refine AWP.ret ?_
      exact ⟨trivial, [], by simp, .tup [Bd false v (l ++ [w]), iv 6, iv 0], rfl, rfl, rfl, rfl⟩
theorem appF {l : List Wait} (hl : l.length ≤ 1000000) : ∀ (s : AS) (key : Nat), freeKey s key = true → aappend T12 s key 22 (.lst (l.map encWait)) = some ⟨.osl key 0 l.length, [(key, ⟨25, 3, true, l.map encWait⟩)], [], []⟩ := fun s key hk => appW hk hl
/-- ref13.Read -/
theorem read48_is (v : Int) (l : List Wait) (w : Wait) (may : Bool) (hl : l.length ≤ 1000000) : Con Try.prog 48 [Bd true v l, .agg (encWait w), .bool may] (.tup [Bd true v l, iv 0, iv v]) [] := by
  refine ⟨⟨_, _, Try.func48, rfl, by decide⟩, ICall.of_body' T12_ok ⟨Try.func48, rfl, by decide⟩ (by simp [Try.f48]) ?_⟩
  refine AWP.goC (appF hl) ?_
  refine AWP.condA ?_ ?_ <;> intro hc
  · refine AWP.goA ?_
    refine AWP.ret ?_
    exact ⟨trivial, [], by simp, .tup [.agg [.bool true, iv v, .osl 128 0 l.length], iv 0, iv v], rfl, by simp [convA, convL, idxIn, hget, lsA, lsL, List.take_of_length_le], rfl, rfl⟩
  · cases hc
theorem read48_no (v : Int) (l : List Wait) (w : Wait) (hl : l.length ≤ 1000000) : Con Try.prog 48 [Bd false v l, .agg (encWait w), .bool false] (.tup [Bd false v l, iv 2, iv 0]) [] := by
  refine ⟨⟨_, _, Try.func48, rfl, by decide⟩, ICall.of_body' T12_ok ⟨Try.func48, rfl, by decide⟩ (by simp [Try.f48]) ?_⟩
  refine AWP.goC (appF hl) ?_
  refine AWP.condA ?_ ?_ <;> intro hc
  · cases hc
  · refine AWP.goA ?_
    refine AWP.condA ?_ ?_ <;> intro hc2
    · refine AWP.goA ?_
      refine AWP.ret ?_
      exact ⟨trivial, [], by simp, .tup [.agg [.bool false, iv v, .osl 128 0 l.length], iv 2, iv 0], rfl, by simp [convA, convL, idxIn, hget, lsA, lsL, List.take_of_length_le], rfl, rfl⟩
    · cases hc2
theorem read48_wait (v : Int) (l : List Wait) (w : Wait) (hl : l.length ≤ 100000) : Con Try.prog 48 [Bd false v l, .agg (encWait w), .bool true] (.tup [Bd false v (l ++ [w]), iv 6, iv 0]) [] := by
  refine ⟨⟨_, _, Try.func48, rfl, by decide⟩, ICall.of_body' T12_ok ⟨Try.func48, rfl, by decide⟩ (by simp [Try.f48]) ?_⟩
  refine AWP.goC (appF (l := l) (by omega)) ?_
  refine AWP.condA ?_ ?_ <;> intro hc
  · cases hc
  · refine AWP.goA ?_
    refine AWP.condA ?_ ?_ <;> intro hc2
    · cases hc2
    · refine AWP.goC (show Con Try.prog 33 [Wl l, .agg (encWait w), .bool false] (Wl (l ++ [w])) [] from add33C l w false (by omega)) ?_
      refine AWP.ret ?_
      exact ⟨trivial, [], by simp, .tup [Bd false v (l ++ [w]), iv 6, iv 0], rfl, rfl, rfl, rfl⟩
/-- law13.awake -/
theorem awake41 : Con Try.prog 41 [] (.bool true) [] := by
  refine ⟨⟨_, _, Try.func41, rfl, by decide⟩, ICall.of_body' T12_ok ⟨Try.func41, rfl, by decide⟩ (by simp [Try.f41]) ?_⟩
  have c1 : Con Try.prog 47 [.agg [.bool false, iv 0, .lst []], .agg [iv 2, iv 0, iv 0], .bool true] (.tup [.agg [.bool false, iv 0, .lst [[iv 2, iv 0, iv 0]]], iv 6, iv 0]) [] := read47_wait 0 [] ⟨2, 0, 0⟩ (by simp)
  have c2 : Con Try.prog 42 [.agg [.bool false, iv 0, .lst [[iv 2, iv 0, iv 0]]], iv 5] (.tup [.agg [.bool true, iv 5, .lst []], .lst [[iv 2, iv 0, iv 5]]]) [] := write42 false 0 [⟨2, 0, 0⟩] 5 (by simp)
  have c3 : Con Try.prog 47 [.agg [.bool true, iv 5, .lst []], .agg [iv 0, iv 0, iv 0], .bool false] (.tup [.agg [.bool true, iv 5, .lst []], iv 0, iv 5]) [] := read47_is 5 [] ⟨0, 0, 0⟩ false (by simp)
  refine AWP.goC (And.intro c1 (And.intro c2 c3)) ?_
  refine AWP.ret ?_
  exact ⟨trivial, [], by simp, .bool true, rfl, rfl, rfl, rfl⟩
end Go.Qd
