/- A part of the library of this claim: rules of an abstract machine (values in place of addresses), proved against the model, and contracts of the functions. -/
import Derived.Test.YtfbmgodfpjeanaaQsB
set_option linter.unusedVariables false
set_option linter.unusedSimpArgs false
set_option maxHeartbeats 8000000
set_option maxRecDepth 10000
namespace Go.Qd
open Go Go.Proofs
theorem firstC (x : Wait) (r : List Wait) (hl : r.length ≤ 999999) : Con Try.prog 31 [Wl (x :: r)] (.tup [.agg (encWait x), Wl r, .bool true]) [] := first31C (x :: r) (by simp; omega)
theorem firstN : Con Try.prog 31 [Wl []] (.tup [.agg (encWait ⟨0, 0, 0⟩), Wl [], .bool false]) [] := first31C [] (by simp)
/-- law12.WaitersCome -/
theorem law5 (l : List Wait) (w : Wait) : Con Try.prog 5 [Wl l, .agg (encWait w)] (.bool true) [] := by
  refine ⟨⟨_, _, Try.func5, rfl, by decide⟩, ICall.of_body' T12_ok ⟨Try.func5, rfl, by decide⟩ (by simp [Try.f5]) ?_⟩
  refine AWP.goC awake28 ?_
  refine AWP.condA ?_ ?_ <;> intro hc
  · refine AWP.goA ?_
    refine AWP.ret ?_
    exact ⟨trivial, [], by simp, .bool true, rfl, rfl, rfl, rfl⟩
  · have hl : l.length ≤ 60 := by simp at hc; omega
    have c1 : Con Try.prog 29 [Wl l, .agg (encWait w), .bool false] (Wl (l ++ [w])) [] := add29C l w false (by omega)
    have c2 : Con Try.prog 30 [Wl (l ++ [w]), iv w.proc] (.bool true) [] := by
      have := has30 (l ++ [w]) w.proc (by simp; omega)
      have e : hasW (l ++ [w]) w.proc = true := by simp [hasW]
      rw [e] at this; exact this
    refine AWP.goC (And.intro c1 c2) ?_
    refine AWP.condA ?_ ?_ <;> intro hc2
    · simp [wrap_succ (show l.length < 9223372036854775807 by omega)] at hc2
    · refine AWP.goA ?_
      refine AWP.loopT (fun i : Nat => ⟨0, Try.f5.ntmps, [(0, Wl l), (3, .ptr 24 0 0), (6, Wl ((l ++ [w]).drop i)), (7, iv i)], [(24, ⟨25, 3, true, [encWait w]⟩)], []⟩) (fun i => i ≤ l.length) (fun i => l.length - i) 0 (by simp)
        (Thin.to [] rfl rfl rfl rfl rfl (by simp [envIn, eget, eput]) rfl) ?_
      rintro i hi
      refine AWP.goA ?_
      refine AWP.condA ?_ ?_ <;> intro hc3
      · have hil : i < l.length := by simp at hc3; omega
        have hd : (l ++ [w]).drop i = l[i] :: (l ++ [w]).drop (i + 1) := by
          rw [List.drop_eq_getElem_cons (by simp; omega), List.getElem_append_left hil]
        rw [hd]
        refine AWP.goFC (idxW hil) (firstC l[i] ((l ++ [w]).drop (i + 1)) (by simp; omega)) ?_
        refine AWP.condA ?_ ?_ <;> intro hc4
        · simp at hc4
        · refine AWP.goA ?_
          refine ⟨i + 1, by omega, by omega, Thin.to [64] rfl rfl rfl rfl rfl (by simp [envIn, eget, wrap_succ (show i < 9223372036854775807 by omega)]) (by simp [killsH, killH, killO])⟩
      · have hie : i = l.length := by simp at hc3; omega
        subst hie
        have hd : (l ++ [w]).drop l.length = [w] := by simp
        rw [hd]
        refine AWP.goC (firstC w [] (by simp)) ?_
        refine AWP.ret ?_
        exact ⟨trivial, [], by simp, .bool true, rfl, rfl, rfl, rfl⟩
theorem selfW (x : Wait) : decide (x ≠ x) = false := by simp
theorem hasW_head (x : Wait) (r : List Wait) : hasW (x :: r) x.proc = true := by simp [hasW]
/-- law12.WaitersDrain -/
theorem law7 (l : List Wait) : Con Try.prog 7 [Wl l] (.bool true) [] := by
  refine ⟨⟨_, _, Try.func7, rfl, by decide⟩, ICall.of_body' T12_ok ⟨Try.func7, rfl, by decide⟩ (by simp [Try.f7]) ?_⟩
  refine AWP.goC awake28 ?_
  refine AWP.condA ?_ ?_ <;> intro hc
  · refine AWP.goA ?_
    refine AWP.ret ?_
    exact ⟨trivial, [], by simp, .bool true, rfl, rfl, rfl, rfl⟩
  · have hl : l.length ≤ 60 := by simp at hc; omega
    refine AWP.goA ?_
    refine AWP.loopT (fun i : Nat => ⟨0, Try.f7.ntmps, [(0, Wl l), (4, Wl (l.drop i)), (5, iv i)], [], []⟩) (fun i => i ≤ l.length) (fun i => l.length - i) 0 (by simp)
      (Thin.to [] rfl rfl rfl rfl rfl (by simp [envIn, eget, eput]) rfl) ?_
    rintro i hi
    refine AWP.goA ?_
    refine AWP.condA ?_ ?_ <;> intro hc3
    · have hil : i < l.length := by simp at hc3; omega
      have hd : l.drop i = l[i] :: l.drop (i + 1) := List.drop_eq_getElem_cons hil
      rw [hd]
      have c2 : Con Try.prog 30 [Wl (l[i] :: l.drop (i + 1)), iv (l[i]).proc] (.bool true) [] := by
        have := has30 (l[i] :: l.drop (i + 1)) (l[i]).proc (by simp; omega)
        rw [hasW_head] at this; exact this
      refine AWP.goFC (idxW hil) c2 ?_
      refine AWP.condA ?_ ?_ <;> intro hc4
      · simp at hc4
      · refine AWP.goFC (And.intro selfW (idxW hil)) (firstC l[i] (l.drop (i + 1)) (by simp; omega)) ?_
        refine AWP.condA ?_ ?_ <;> intro hc5
        · have h1 : IntKind.i64.wrap ((l.length : Int) - (i : Int)) = ((l.length - i : Nat) : Int) := by rw [IntKind.wrap_i64]; omega
          have h2 : IntKind.i64.wrap (((l.length - i : Nat) : Int) - 1) = ((l.length - i - 1 : Nat) : Int) := by rw [IntKind.wrap_i64]; omega
          rw [h1, h2] at hc5
          simp at hc5; omega
        · refine AWP.goA ?_
          refine ⟨i + 1, by omega, by omega, Thin.to [48] rfl rfl rfl rfl rfl (by simp [envIn, eget, wrap_succ (show i < 9223372036854775807 by omega)]) (by simp [killsH, killH, killO])⟩
    · have hie : i = l.length := by simp at hc3; omega
      subst hie
      rw [List.drop_length]
      refine AWP.goC (And.intro firstN (all36 l 1 2 (by omega))) ?_
      refine AWP.ret ?_
      refine ⟨trivial, [], by simp, .bool _, rfl, ?_, rfl, rfl⟩
      simp [convA, lsA]
end Go.Qd
