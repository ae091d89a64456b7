/- A part of the library of this claim: rules of an abstract machine (values in place of addresses), proved against the model, and contracts of the functions. -/
import Derived.Test.YtfbmgodfpjeanaaLW13a
set_option linter.unusedVariables false
set_option linter.unusedSimpArgs false
set_option maxHeartbeats 8000000
set_option maxRecDepth 10000
namespace Go.Qd
open Go Go.Proofs
theorem neqK3 (a : Wake) (p c v : Int) : abin T12 .neq 53 (.agg (encWake a)) (.agg [iv p, iv c, iv v]) = some (.bool (decide (a ≠ ⟨p, c, v⟩))) := neqK (y := ⟨p, c, v⟩)
/-- law13.BoardTells -/
theorem law10 (l : List Wait) (x : Int) : Con Try.prog 10 [Wl l, iv x] (.bool true) [] := by
  refine ⟨⟨_, _, Try.func10, rfl, by decide⟩, ICall.of_body' T12_ok ⟨Try.func10, rfl, by decide⟩ (by simp [Try.f10]) ?_⟩
  refine AWP.goC awake41 ?_
  refine AWP.condA ?_ ?_ <;> intro hc
  · refine AWP.goA ?_
    refine AWP.ret ?_
    exact ⟨trivial, [], by simp, .bool true, rfl, rfl, rfl, rfl⟩
  · have hl : l.length ≤ 60 := by simp at hc; omega
    refine AWP.goA ?_
    refine AWP.loopT (fun i : Nat => ⟨0, Try.f10.ntmps, [(0, Wl l), (1, iv x), (4, .bool false), (6, .ptr 48 0 0), (7, iv i)], [(48, ⟨44, 3, true, [[.bool false, iv 0, Wl (l.take i)]]⟩)], []⟩) (fun i => i ≤ l.length) (fun i => l.length - i) 0 (by simp)
      ((Thin.ls 48 rfl).trans (Thin.to [] rfl rfl rfl rfl rfl (by simp [envIn, eget, eput]) rfl)) ?_
    rintro i hi
    refine AWP.goA ?_
    refine AWP.condA ?_ ?_ <;> intro hc3
    · have hil : i < l.length := by simp at hc3; omega
      have c := read47_wait 0 (l.take i) l[i] (by simp; omega)
      rw [← List.take_succ_eq_append_getElem hil] at c
      refine AWP.goFC (idxW hil) c ?_
      refine AWP.condA ?_ ?_ <;> intro hc4
      · cases hc4
      · refine AWP.goA ?_
        exact ⟨i + 1, by omega, by omega, Thin.to [64] rfl rfl rfl rfl rfl (by simp [envIn, eget, wrap_succ (show i < 9223372036854775807 by omega)]) rfl⟩
    · have hie : i = l.length := by simp at hc3; omega
      subst hie
      rw [List.take_length]
      have hmm : (((l.map (mkWake 0 x)).length : Int) != (l.length : Int)) = false := by simp
      refine AWP.goFC hmm (write42 false 0 l x (by omega)) ?_
      refine AWP.condA ?_ ?_ <;> intro hc4
      · simp at hc4
      · refine AWP.goA ?_
        refine AWP.loopT (fun i : Nat => ⟨0, Try.f10.ntmps, [(0, Wl l), (1, iv x), (4, .bool false), (11, .ptr 88 0 0), (12, Kl (l.map (mkWake 0 x))), (13, iv i)], [(48, ⟨44, 3, true, [[.bool false, iv 0, Wl l]]⟩), (88, ⟨44, 3, true, [[.bool true, iv x, .lst []]]⟩)], []⟩) (fun i => i ≤ l.length) (fun i => l.length - i) 0 (by simp)
          (Thin.to [] rfl rfl rfl rfl rfl (by simp [envIn, eget, eput]) rfl) ?_
        rintro i hi
        refine AWP.goA ?_
        refine AWP.condA ?_ ?_ <;> intro hc5
        · have hil : i < l.length := by simp at hc5; omega
          have hK : ∀ h : Heap, aindexAddr' T12 h 36 (Kl (l.map (mkWake 0 x))) (i : Int) = some (.vptr (encWake (mkWake 0 x l[i]))) := fun h => by
            have := idxK (l := l.map (mkWake 0 x)) (i := i) (by simpa using hil) h
            rw [List.getElem_map] at this; exact this
          have hn : decide (mkWake 0 x l[i] ≠ ⟨(l[i]).proc, 0, x⟩) = false := by simp [mkWake]
          refine AWP.goF (And.intro (idxW hil) (And.intro hK (And.intro neqK3 hn))) ?_
          refine AWP.condA ?_ ?_ <;> intro hc6
          · cases hc6
          · refine AWP.goA ?_
            exact ⟨i + 1, by omega, by omega, Thin.to [] rfl rfl rfl rfl rfl (by simp [envIn, eget, wrap_succ (show i < 9223372036854775807 by omega)]) rfl⟩
        · have c1 : Con Try.prog 47 [.agg [.bool true, iv x, .lst []], .agg [iv 0, iv 0, iv 0], .bool false] (.tup [.agg [.bool true, iv x, .lst []], iv 0, iv x]) [] := read47_is x [] ⟨0, 0, 0⟩ false (by simp)
          have c2 : Con Try.prog 45 [.agg [.bool true, iv x, .lst []]] (.agg [.bool false, iv 0, .lst []]) [] := clear45C true x [] (by simp)
          have c3 : Con Try.prog 47 [.agg [.bool false, iv 0, .lst []], .agg [iv 0, iv 0, iv 0], .bool false] (.tup [.agg [.bool false, iv 0, .lst []], iv 2, iv 0]) [] := read47_no 0 [] ⟨0, 0, 0⟩ (by simp)
          refine AWP.goC (And.intro c1 (And.intro c2 c3)) ?_
          refine AWP.ret ?_
          exact ⟨trivial, [], by simp, .bool true, rfl, rfl, rfl, rfl⟩
/-- What was written last. -/
def lastV (l : List Int) (i : Nat) : Int := match i with
  | 0 => 0
  | i + 1 => l.getD i 0
/-- law13.BoardLast -/
theorem law11 (l : List Int) (wiped : Bool) (w : Wait) : Con Try.prog 11 [Il l, .bool wiped, .agg (encWait w)] (.bool true) [] := by
  refine ⟨⟨_, _, Try.func11, rfl, by decide⟩, ICall.of_body' T12_ok ⟨Try.func11, rfl, by decide⟩ (by simp [Try.f11]) ?_⟩
  refine AWP.goC awake41 ?_
  refine AWP.condA ?_ ?_ <;> intro hc
  · refine AWP.goA ?_
    refine AWP.ret ?_
    exact ⟨trivial, [], by simp, .bool true, rfl, rfl, rfl, rfl⟩
  · have hl : l.length ≤ 60 := by simp at hc; omega
    refine AWP.goA ?_
    refine AWP.loopT (fun i : Nat => ⟨0, Try.f11.ntmps, [(0, Il l), (1, .bool wiped), (5, .ptr 40 0 0), (6, .bool false), (8, .ptr 64 0 0), (9, iv i)], [(40, ⟨25, 3, true, [encWait w]⟩), (64, ⟨44, 3, true, [[.bool (decide (0 < i)), iv (lastV l i), .lst []]]⟩)], []⟩) (fun i => i ≤ l.length) (fun i => l.length - i) 0 (by simp)
      ((Thin.ls 64 rfl).trans (Thin.to [] rfl rfl rfl rfl rfl (by simp [envIn, eget, eput]) rfl)) ?_
    rintro i hi
    refine AWP.goA ?_
    refine AWP.condA ?_ ?_ <;> intro hc3
    · have hil : i < l.length := by simp at hc3; omega
      have c : Con Try.prog 42 [.agg [.bool (decide (0 < i)), iv (lastV l i), .lst []], iv l[i]] (.tup [.agg [.bool true, iv l[i], .lst []], .lst []]) [] := write42 (decide (0 < i)) (lastV l i) [] l[i] (by simp)
      refine AWP.goFC (idxI hil) c ?_
      refine ⟨i + 1, by omega, by omega, Thin.to [80] rfl rfl rfl rfl rfl (by simp [envIn, eget, wrap_succ (show i < 9223372036854775807 by omega)]) ?_⟩
      have : lastV l (i + 1) = l[i] := by simp [lastV, List.getD, hil]
      rw [this]
      rfl
    · have hie : i = l.length := by simp at hc3; omega
      subst hie
      cases wiped with
      | true =>
        refine AWP.goA ?_
        refine AWP.condA ?_ ?_ <;> intro hc4
        · have c1 : Con Try.prog 45 [.agg [.bool (decide (0 < l.length)), iv (lastV l l.length), .lst []]] (.agg [.bool false, iv 0, .lst []]) [] := clear45C _ _ [] (by simp)
          have c2 : Con Try.prog 47 [.agg [.bool false, iv 0, .lst []], .agg (encWait w), .bool false] (.tup [.agg [.bool false, iv 0, .lst []], iv 2, iv 0]) [] := read47_no 0 [] w (by simp)
          refine AWP.goC (And.intro c1 c2) ?_
          refine AWP.condA ?_ ?_ <;> intro hc5
          · refine AWP.goA ?_
            refine AWP.ret ?_
            exact ⟨trivial, [], by simp, .bool true, rfl, rfl, rfl, rfl⟩
          · cases hc5
        · cases hc4
      | false =>
        refine AWP.goA ?_
        refine AWP.condA ?_ ?_ <;> intro hc4
        · cases hc4
        · cases l with
          | nil =>
            have c2 : Con Try.prog 47 [.agg [.bool false, iv 0, .lst []], .agg (encWait w), .bool false] (.tup [.agg [.bool false, iv 0, .lst []], iv 2, iv 0]) [] := read47_no 0 [] w (by simp)
            refine AWP.goC c2 ?_
            refine AWP.condA ?_ ?_ <;> intro hc5
            · refine AWP.goA ?_
              refine AWP.ret ?_
              exact ⟨trivial, [], by simp, .bool true, rfl, rfl, rfl, rfl⟩
            · simp at hc5
          | cons a r =>
            have hlv : lastV (a :: r) (a :: r).length = (a :: r)[r.length]'(by simp) := by simp [lastV, List.getD]
            have hpos : decide (0 < (a :: r).length) = true := by simp
            rw [hlv, hpos]
            generalize hx : (a :: r)[r.length]'(by simp) = x
            have c2 : Con Try.prog 47 [.agg [.bool true, iv x, .lst []], .agg (encWait w), .bool false] (.tup [.agg [.bool true, iv x, .lst []], iv 0, iv x]) [] := read47_is x [] w false (by simp)
            have hr : r.length ≤ 60 := by simp at hl; omega
            have h1 : (((r.length + 1 : Nat) : Int) == 0) = false := by simp; omega
            have h2 : IntKind.i64.wrap (((r.length + 1 : Nat) : Int) - 1) = (r.length : Int) := by rw [IntKind.wrap_i64]; omega
            have h3 : ∀ h : Heap, aindexAddr' T12 h 54 (.lst ((a :: r).map encI)) (r.length : Int) = some (.vptr (encI x)) := fun h => by
              have := idxI (l := a :: r) (i := r.length) (by simp) h
              rw [hx] at this; exact this
            refine AWP.goFC (And.intro h1 (And.intro h2 h3)) c2 ?_
            refine AWP.condA ?_ ?_ <;> intro hc5
            · simp at hc5
            · refine AWP.goF (And.intro h1 (And.intro h2 h3)) ?_
              refine AWP.ret ?_
              exact ⟨trivial, [], by simp, .bool true, rfl, rfl, rfl, rfl⟩
end Go.Qd
