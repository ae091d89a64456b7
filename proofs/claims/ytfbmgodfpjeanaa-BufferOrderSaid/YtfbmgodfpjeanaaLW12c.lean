/- A part of the library of this claim: rules of an abstract machine (values in place of addresses), proved against the model, and contracts of the functions. -/
import Derived.Test.YtfbmgodfpjeanaaLW12b
set_option linter.unusedVariables false
set_option linter.unusedSimpArgs false
set_option maxHeartbeats 8000000
set_option maxRecDepth 10000
namespace Go.Qd
open Go Go.Proofs
/-! ### A slice of an own object, read at an index -/
theorem idxO {n i : Nat} (hi : i < n) : ∀ (h : Heap) (k : Nat), keySize h (.osl k 0 n) 3 = true → aindexAddr' T12 h 22 (.osl k 0 n) (i : Int) = some (.ptr k i 0) := fun h k hk => by
  have h1 : tget T12 22 = some { kind := .slice 25, size := 1, bytes := 24, zero := [.esl] } := rfl
  have h2 : tget T12 25 = some { kind := .struct [(0, 1, false), (1, 1, false), (2, 1, false)], size := 3, bytes := 24, zero := [.int .i64 0, .int .i64 0, .int .i64 0], eqk := some [some .i64, some .i64, some .i64] } := rfl
  unfold aindexAddr' aindexAddr
  simp only [h1, h2]
  rw [if_pos ⟨by omega, by omega⟩]
  simp only [hk, if_true]
  simp
theorem loadO {l : List Wait} {i : Nat} (hi : i < l.length) : ∀ (h : Heap) (k : Nat), hget h k = some ⟨25, 3, true, l.map encWait⟩ → aload T12 h 25 (.ptr k i 0) = some ⟨.agg (encWait l[i]), [], [k], []⟩ := fun h k hk => by
  have h2 : tget T12 25 = some { kind := .struct [(0, 1, false), (1, 1, false), (2, 1, false)], size := 3, bytes := 24, zero := [.int .i64 0, .int .i64 0, .int .i64 0], eqk := some [some .i64, some .i64, some .i64] } := rfl
  unfold aload cellsAt
  simp only [h2, hk]
  have : (l.map encWait)[i]? = some (encWait l[i]) := by simp [hi]
  rw [this]
  rfl
theorem count_succ {l : List Wait} {i : Nat} (hi : i < l.length) (a : Wait) : (l.take (i + 1)).count a = (l.take i).count a + (if l[i] = a then 1 else 0) := by
  rw [List.take_succ_eq_append_getElem hi, List.count_append]
  by_cases h : l[i] = a
  · simp [h]
  · rw [if_neg h]
    have : List.count a [l[i]] = 0 := by simp [List.count_cons, h]
    omega
theorem count_ins (w a : Wait) (l : List Wait) : (insW w l).count a = l.count a + (if w = a then 1 else 0) := by
  induction l with
  | nil => simp [insW, List.count_cons]
  | cons x r ih =>
    simp only [insW]
    split
    · rw [List.count_cons]; simp
    · rw [List.count_cons, List.count_cons, ih]; omega
theorem count_add (l : List Wait) (w a : Wait) (b : Bool) : (addW l w b).count a = l.count a + (if w = a then 1 else 0) := by
  unfold addW; split
  · exact count_ins w a l
  · rw [List.count_append]; simp [List.count_cons]
/-- law12.WaitersOwn -/
theorem law4 (l : List Wait) (a b : Wait) (r : Bool) : Con Try.prog 4 [Wl l, .agg (encWait a), .agg (encWait b), .bool r] (.bool true) [] := by
  refine ⟨⟨_, _, Try.func4, rfl, by decide⟩, ICall.of_body' T12_ok ⟨Try.func4, rfl, by decide⟩ (by simp [Try.f4]) ?_⟩
  refine AWP.goC awake28 ?_
  refine AWP.condA ?_ ?_ <;> intro hc
  · refine AWP.goA ?_
    refine AWP.ret ?_
    exact ⟨trivial, [], by simp, .bool true, rfl, rfl, rfl, rfl⟩
  · have hl : l.length ≤ 60 := by simp at hc; omega
    refine AWP.goA ?_
    refine AWP.region ?_
    refine AOps.goA ?_
    refine AOps.appA (appW (l := l) (by rfl) (by omega)) ?_
    refine AOps.goA ?_
    refine AOps.endA ?_
    simp only [Then]
    have hxl : (addW l a r).length = l.length + 1 := addW_len l a r
    have hcx : ∀ i, ((addW l a r).take i).count a ≤ 61 := fun i => Nat.le_trans List.count_le_length (by simp; omega)
    have hcl : ∀ i, (l.take i).count a ≤ 61 := fun i => Nat.le_trans List.count_le_length (by simp; omega)
    refine AWP.goC (And.intro (add29C l a r (by omega)) (add29C l b r (by omega))) ?_
    refine AWP.loopT (fun i : Nat => ⟨0, Try.f4.ntmps, [(0, Wl l), (5, .ptr 40 0 0), (8, .bool false), (10, .osl 208 0 l.length), (11, Wl (addW l a r)), (12, iv (((addW l a r).take i).count a : Nat)), (13, iv i)], [(40, ⟨25, 3, true, [encWait a]⟩), (208, ⟨25, 3, true, l.map encWait⟩)], []⟩) (fun i => i ≤ l.length + 1) (fun i => l.length + 1 - i) 0 (by simp)
      (Thin.to [48] rfl rfl rfl rfl rfl (by simp [envIn, eget, eput]) (by simp [killsH, killH, killO])) ?_
    rintro i hi
    refine AWP.goA ?_
    refine AWP.condA ?_ ?_ <;> intro hc3
    · have hil : i < (addW l a r).length := by simp at hc3; omega
      have hcs := count_succ hil a
      refine AWP.goF (idxW hil) ?_
      refine AWP.condA ?_ ?_ <;> intro hc4
      · refine AWP.goA ?_
        refine ⟨i + 1, by omega, by omega, Thin.to [] rfl rfl rfl rfl rfl ?_ rfl⟩
        rw [if_pos (by simpa using hc4)] at hcs
        simp [envIn, eget, wrap_succ (show i < 9223372036854775807 by omega), wrap_succ (show ((addW l a r).take i).count a < 9223372036854775807 by have := hcx i; omega), hcs]
      · refine AWP.goA ?_
        refine ⟨i + 1, by omega, by omega, Thin.to [] rfl rfl rfl rfl rfl ?_ rfl⟩
        rw [if_neg (by simpa using hc4)] at hcs
        simp [envIn, eget, wrap_succ (show i < 9223372036854775807 by omega), hcs]
    · have hie : i = (addW l a r).length := by simp at hc3; omega
      subst hie
      rw [List.take_length, count_add]
      refine AWP.goA ?_
      refine AWP.loopT (fun i : Nat => ⟨0, Try.f4.ntmps, [(0, Wl l), (5, .ptr 40 0 0), (8, .bool false), (10, .osl 208 0 l.length), (11, Wl (addW l a r)), (12, iv ((l.count a + (if a = a then 1 else 0) : Nat))), (14, iv ((l.take i).count a : Nat)), (15, iv i)], [(40, ⟨25, 3, true, [encWait a]⟩), (208, ⟨25, 3, true, l.map encWait⟩)], []⟩) (fun i => i ≤ l.length) (fun i => l.length - i) 0 (by simp)
        (Thin.to [] rfl rfl rfl rfl rfl (by simp [envIn, eget, eput]) rfl) ?_
      rintro i hi
      refine AWP.goA ?_
      refine AWP.condA ?_ ?_ <;> intro hc3
      · have hil : i < l.length := by simp at hc3; omega
        have hcs := count_succ hil a
        refine AWP.goF (And.intro (idxW hil) (And.intro (idxO hil) (loadO hil))) ?_
        refine AWP.condA ?_ ?_ <;> intro hc4
        · simp at hc4
        · refine AWP.goF (idxW hil) ?_
          refine AWP.condA ?_ ?_ <;> intro hc4
          · refine AWP.goA ?_
            refine ⟨i + 1, by omega, by omega, Thin.to [] rfl rfl rfl rfl rfl ?_ rfl⟩
            rw [if_pos (by simpa using hc4)] at hcs
            simp [envIn, eget, wrap_succ (show i < 9223372036854775807 by omega), wrap_succ (show (l.take i).count a < 9223372036854775807 by have := hcl i; omega), hcs]
          · refine AWP.goA ?_
            refine ⟨i + 1, by omega, by omega, Thin.to [] rfl rfl rfl rfl rfl ?_ rfl⟩
            rw [if_neg (by simpa using hc4)] at hcs
            simp [envIn, eget, wrap_succ (show i < 9223372036854775807 by omega), hcs]
      · have hie : i = l.length := by simp at hc3; omega
        subst hie
        rw [List.take_length]
        have h1 : IntKind.i64.wrap ((l.length : Int) + 1) = ((addW l a r).length : Int) := by rw [wrap_succ (by omega), hxl]
        have hca : l.count a ≤ 61 := Nat.le_trans List.count_le_length (by omega)
        have h2 : IntKind.i64.wrap ((l.count a : Int) + 1) = ((l.count a + (if a = a then 1 else 0) : Nat) : Int) := by rw [wrap_succ (by omega)]; simp
        refine AWP.goF (And.intro h1 h2) ?_
        refine AWP.ret ?_
        exact ⟨trivial, [], by simp, .bool true, rfl, rfl, rfl, rfl⟩
end Go.Qd
