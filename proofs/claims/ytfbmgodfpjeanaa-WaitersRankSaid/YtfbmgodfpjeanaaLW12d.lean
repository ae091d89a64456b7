/- A part of the library of this claim: rules of an abstract machine (values in place of addresses), proved against the model, and contracts of the functions. -/
import Derived.Test.YtfbmgodfpjeanaaLW12c
import Derived.Test.YtfbmgodfpjeanaaP3
set_option linter.unusedVariables false
set_option linter.unusedSimpArgs false
set_option maxHeartbeats 8000000
set_option maxRecDepth 10000
namespace Go.Qd
open Go Go.Proofs
theorem spl2W (w : Wait) (v : Int) : splice (encWait w) 2 [iv v] = encWait ⟨w.proc, w.prio, v⟩ := rfl
/-! ### The bools of who was seen -/
def seenR (S : Nat → Bool) (n : Nat) : List (List AV) := (List.range n).map fun v => [.bool (S v)]
theorem seenR_len (S : Nat → Bool) (n : Nat) : (seenR S n).length = n := by simp [seenR]
theorem tg27 : tget T12 27 = some { kind := .slice 4, size := 1, bytes := 24, zero := [.esl] } := rfl
theorem tg4 : tget T12 4 = some { kind := .bool, size := 1, bytes := 1, zero := [.bool false] } := rfl
theorem mkB {s : AS} {key n : Nat} (hk : freeKey s key = true) (hl : n ≤ 1000000) : amakeSlice T12 s key 27 (n : Int) = some ⟨.osl key 0 n, [(key, ⟨4, 1, true, seenR (fun _ => false) n⟩)], [], []⟩ := by
  have e : List.replicate n [AV.bool false] = seenR (fun _ => false) n := by
    apply List.ext_getElem <;> simp [seenR]
  unfold amakeSlice
  simp only [tg27, tg4]
  rw [if_pos ⟨hk, by decide, rfl, by decide, by omega, by simp; omega, rfl⟩]
  simp only [Int.toNat_natCast, e]
theorem idxS {n i : Nat} (hi : i < n) : ∀ (h : Heap) (k : Nat), keySize h (.osl k 0 n) 1 = true → aindexAddr' T12 h 27 (.osl k 0 n) (i : Int) = some (.ptr k i 0) := fun h k hk => by
  unfold aindexAddr' aindexAddr
  simp only [tg27, tg4]
  rw [if_pos ⟨by omega, by omega⟩]
  simp only [hk, if_true]
  simp
theorem loadS {S : Nat → Bool} {n i : Nat} (hi : i < n) : ∀ (h : Heap) (k : Nat), hget h k = some ⟨4, 1, true, seenR S n⟩ → aload T12 h 4 (.ptr k i 0) = some ⟨.bool (S i), [], [k], []⟩ := fun h k hk => by
  unfold aload cellsAt
  have : (seenR S n)[i]? = some [.bool (S i)] := by simp [seenR, hi]
  simp only [tg4, hk, this]
  rfl
theorem storeS {S : Nat → Bool} {n i : Nat} (hi : i < n) : ∀ (s : AS) (k : Nat), hget s.heap k = some ⟨4, 1, true, seenR S n⟩ → s.frz = [] → astore T12 s 4 (.ptr k i 0) (.bool true) = some ⟨.tup [], [(k, ⟨4, 1, true, seenR (fun v => S v || decide (i = v)) n⟩)], [k], []⟩ := fun s k hk hz => by
  unfold astore
  have h1 : (seenR S n)[i]? = some [.bool (S i)] := by simp [seenR, hi]
  have h2 : (seenR S n).set i [.bool true] = seenR (fun v => S v || decide (i = v)) n := by
    apply List.ext_getElem
    · simp [seenR]
    · intro v h3 h4
      rw [List.getElem_set]
      by_cases e : i = v
      · subst e; simp [seenR]
      · rw [if_neg e]; simp [seenR, e]
  have hc : cellsOf (.bool true) = some [.bool true] := rfl
  simp only [tg4, hc, hk, h1]
  rw [if_pos ⟨rfl, by simp, by rw [hz]; simp⟩]
  rw [show splice [AV.bool (S i)] 0 [AV.bool true] = [AV.bool true] from rfl, h2]
  rfl
/-- law12.WaitersRank -/
theorem law3 (l : List Wait) : Con Try.prog 3 [Wl l] (.bool true) [] := by
  refine ⟨⟨_, _, Try.func3, rfl, by decide⟩, ICall.of_body' T12_ok ⟨Try.func3, rfl, by decide⟩ (by simp [Try.f3]) ?_⟩
  refine AWP.goC awake28 ?_
  refine AWP.condA ?_ ?_ <;> intro hc
  · refine AWP.goA ?_
    refine AWP.ret ?_
    exact ⟨trivial, [], by simp, .bool true, rfl, rfl, rfl, rfl⟩
  · have hl : l.length ≤ 60 := by simp at hc; omega
    refine AWP.goA ?_
    refine AWP.loopT (fun i : Nat => ⟨0, Try.f3.ntmps, [(0, Wl l), (2, .bool false), (4, Wl (rkW l i)), (5, iv i)], [], []⟩) (fun i => i ≤ l.length) (fun i => l.length - i) 0 (by simp)
      ((Thin.empty 4 (by rfl)).trans (Thin.to [] rfl rfl rfl rfl rfl (by simp [envIn, eget, eput, rkW]) rfl)) ?_
    rintro i hi
    refine AWP.goA ?_
    refine AWP.condA ?_ ?_ <;> intro hc3
    · have hil : i < l.length := by simp at hc3; omega
      have c1 := add29C (rkW l i) ⟨l[i].proc, l[i].prio, i⟩ true (by rw [rkW_len]; omega)
      refine AWP.goFC (And.intro (idxW hil) spl2W) c1 ?_
      refine ⟨i + 1, by omega, by omega, Thin.to [48] rfl rfl rfl rfl rfl ?_ (by simp [killsH, killH, killO])⟩
      simp [envIn, eget, wrap_succ (show i < 9223372036854775807 by omega), rkW, reW_at hil]
    · have hie : i = l.length := by simp at hc3; omega
      subst hie
      have hok := rkW_ok l l.length
      generalize rkW l l.length = m at *
      have hml : m.length = l.length := hok.len
      have hmm : ((m.length : Int) != (l.length : Int)) = false := by rw [hml]; simp
      refine AWP.goF hmm ?_
      refine AWP.condA ?_ ?_ <;> intro hc4
      · cases hc4
      · refine AWP.goA ?_
        refine AWP.region ?_
        refine AOps.goA ?_
        refine AOps.mkA (mkB (n := l.length) (by rfl) (by omega)) ?_
        refine AOps.goA ?_
        refine AOps.endA ?_
        simp only [Then]
        refine AWP.goA ?_
        refine AWP.loopT (fun i : Nat => ⟨0, Try.f3.ntmps, [(0, Wl l), (2, .bool false), (4, Wl m), (7, .osl 320 0 l.length), (8, iv i)], [(320, ⟨4, 1, true, seenR (seenB m i) l.length⟩)], []⟩) (fun i => i ≤ l.length) (fun i => l.length - i) 0 (by simp)
          (Thin.to [] rfl rfl rfl rfl rfl (by simp [envIn, eget, eput]) (by simp [killsH, seenB_zero, show seenB m 0 = fun _ => false from funext fun v => seenB_zero m v])) ?_
        rintro i hi
        refine AWP.goA ?_
        refine AWP.condA ?_ ?_ <;> intro hc5
        · have him : i < m.length := by simp at hc5; omega
          obtain ⟨j, hj, hv⟩ := hok.mem m[i] (List.getElem_mem him)
          have hnew := seenB_new hok him hv
          have h0 : decide ((j : Int) < 0) = false := by simp
          have h1 : decide ((j : Int) ≥ (l.length : Int)) = false := by simp; omega
          refine AWP.goF (And.intro (idxW him) (And.intro hv (And.intro h0 (And.intro h1 (And.intro hnew (And.intro (idxS hj) (loadS (S := seenB m i) hj))))))) ?_
          refine AWP.condA ?_ ?_ <;> intro hc6
          · cases hc6
          · have hst := storeS (S := seenB m i) hj
            have hS : (fun v => seenB m i v || decide (j = v)) = seenB m (i + 1) := funext fun v => by
              rw [seenB_succ him, hv]
              congr 1
              rw [decide_eq_decide]; omega
            rw [hS] at hst
            cases i with
            | zero =>
              have g0 : decide (((0 : Nat) : Int) > 0) = false := by simp
              refine AWP.goF (And.intro (idxW him) (And.intro hv (And.intro (idxS hj) (And.intro hst g0)))) ?_
              refine AWP.condA ?_ ?_ <;> intro hc7
              · cases hc7
              · refine AWP.goA ?_
                refine ⟨0 + 1, by omega, by omega, Thin.to [] rfl rfl rfl rfl rfl (by simp [envIn, eget]; rfl) (by simp [killsH])⟩
            | succ k =>
              have g0 : decide (((k + 1 : Nat) : Int) > 0) = true := by simp
              have g1 : IntKind.i64.wrap (((k + 1 : Nat) : Int) - 1) = (k : Int) := by rw [IntKind.wrap_i64]; omega
              have hkm : k < m.length := by omega
              have hR : rkR m[k] m[k + 1] := List.pairwise_iff_getElem.1 hok.ord k (k + 1) hkm him (by omega)
              have g2 : decide ((m[k + 1]).prio > (m[k]).prio) = false := by rcases hR with h | h <;> simp <;> omega
              rcases hR with h | ⟨h, h'⟩
              · have g3 : ((m[k + 1]).prio == (m[k]).prio) = false := by simp; omega
                refine AWP.goF (And.intro (idxW him) (And.intro (idxW hkm) (And.intro hv (And.intro (idxS hj) (And.intro hst (And.intro g0 (And.intro g1 (And.intro g2 g3)))))))) ?_
                refine AWP.condA ?_ ?_ <;> intro hc7
                · cases hc7
                · refine AWP.goA ?_
                  refine ⟨k + 1 + 1, by omega, by omega, Thin.to [] rfl rfl rfl rfl rfl ⟨rfl, rfl, rfl, rfl, by show some (AV.int _ (IntKind.i64.wrap (((k + 1 : Nat) : Int) + 1))) = _; rw [wrap_succ (by omega)], trivial⟩ (by simp [killsH])⟩
              · have g3 : ((m[k + 1]).prio == (m[k]).prio) = true := by simp; omega
                have g4 : decide ((j : Int) < (m[k]).value) = false := by simp; omega
                refine AWP.goF (And.intro (idxW him) (And.intro (idxW hkm) (And.intro hv (And.intro (idxS hj) (And.intro hst (And.intro g0 (And.intro g1 (And.intro g2 (And.intro g3 g4))))))))) ?_
                refine AWP.condA ?_ ?_ <;> intro hc7
                · cases hc7
                · refine AWP.goA ?_
                  refine ⟨k + 1 + 1, by omega, by omega, Thin.to [] rfl rfl rfl rfl rfl ⟨rfl, rfl, rfl, rfl, by show some (AV.int _ (IntKind.i64.wrap (((k + 1 : Nat) : Int) + 1))) = _; rw [wrap_succ (by omega)], trivial⟩ (by simp [killsH])⟩
        · have hie : i = l.length := by simp at hc5; omega
          refine AWP.goA ?_
          refine AWP.ret ?_
          exact ⟨trivial, [], by simp, .bool true, rfl, rfl, rfl, rfl⟩
end Go.Qd
