/- A part of the library of this claim: rules of an abstract machine (values in place of addresses), proved against the model, and contracts of the functions. -/
import Derived.Test.YtfbmgodfpjeanaaLW16a
import Derived.Test.YtfbmgodfpjeanaaQsF
set_option linter.unusedVariables false
set_option linter.unusedSimpArgs false
set_option maxHeartbeats 8000000
set_option maxRecDepth 10000
namespace Go.Qd
open Go Go.Proofs
/-- What is done to an event. -/
structure Oe where
  kind : Int
  may : Bool
  w : Wait
def encOe (o : Oe) : List AV := [iv o.kind, .bool o.may, iv o.w.proc, iv o.w.prio, iv o.w.value]
abbrev Oel (l : List Oe) : AV := .lst (l.map encOe)
theorem idxOe {l : List Oe} {i : Nat} (hi : i < l.length) (h : Heap) : aindexAddr' T12 h 62 (.lst (l.map encOe)) (i : Int) = some (.vptr (encOe l[i])) :=
  index_lst (e := 64) rfl rfl rfl (by simp [hi]) rfl
theorem idxOI {n i : Nat} (hi : i < n) : ∀ (h : Heap) (k : Nat), keySize h (.osl k 0 n) 1 = true → aindexAddr' T12 h 54 (.osl k 0 n) (i : Int) = some (.ptr k i 0) := fun h k hk => by
  have h1 : tget T12 54 = some { kind := .slice 3, size := 1, bytes := 24, zero := [.esl] } := rfl
  have h2 : tget T12 3 = some { kind := .int .i64, size := 1, bytes := 8, zero := [.int .i64 0] } := rfl
  unfold aindexAddr' aindexAddr
  simp only [h1, h2]
  rw [if_pos ⟨by omega, by omega⟩]
  simp only [hk, if_true]
  simp
theorem loadOI {l : List Int} {i : Nat} (hi : i < l.length) : ∀ (h : Heap) (k : Nat), hget h k = some ⟨3, 1, true, l.map encI⟩ → aload T12 h 3 (.ptr k i 0) = some ⟨iv l[i], [], [k], []⟩ := fun h k hk => by
  have h2 : tget T12 3 = some { kind := .int .i64, size := 1, bytes := 8, zero := [.int .i64 0] } := rfl
  unfold aload cellsAt
  simp only [h2, hk]
  have : (l.map encI)[i]? = some (encI l[i]) := by simp [hi]
  rw [this]
  rfl
theorem bneS : ∀ a : Int, (a != a) = false := fun a => by simp
abbrev prs (L : List Wait) : List Int := L.map (·.proc)
/-- law16.EventGoes -/
theorem law15 (l : List Oe) : Con Try.prog 15 [Oel l] (.bool true) [] := by
  refine ⟨⟨_, _, Try.func15, rfl, by decide⟩, ICall.of_body' T12_ok ⟨Try.func15, rfl, by decide⟩ (by simp [Try.f15]) ?_⟩
  refine AWP.goC awake39 ?_
  refine AWP.condA ?_ ?_ <;> intro hc
  · refine AWP.goA ?_
    refine AWP.ret ?_
    exact ⟨trivial, [], by simp, .bool true, rfl, rfl, rfl, rfl⟩
  · have hl : l.length ≤ 60 := by simp at hc; omega
    refine AWP.goA ?_
    refine AWP.loopT (fun x : Nat × Bool × List Wait => ⟨0, Try.f15.ntmps, [(0, Oel l), (2, .bool false), (4, .ptr 32 0 0), (5, .osl 41 0 x.2.2.length), (6, iv x.1)], [(32, ⟨40, 2, true, [[.bool x.2.1, Wl x.2.2]]⟩), (41, ⟨3, 1, true, (prs x.2.2).map encI⟩)], []⟩)
      (fun x => x.1 ≤ l.length ∧ x.2.2.length ≤ x.1 ∧ (x.2.1 = true → x.2.2 = [])) (fun x => l.length - x.1) (0, false, []) (by simp)
      (((Thin.ls 32 rfl).trans (Thin.ghost 5 41 3 1 (by rfl) (by rfl))).trans (Thin.to [] rfl rfl rfl rfl rfl (by simp [envIn, eget, eput]) rfl)) ?_
    rintro ⟨i, up, L⟩ ⟨hi, hL, hup⟩
    simp only at hi hL hup
    refine AWP.goA ?_
    refine AWP.condA ?_ ?_ <;> intro hc3
    · have hil : i < l.length := by simp at hc3; omega
      have hw := wrap_succ (show i < 9223372036854775807 by omega)
      refine AWP.goF (idxOe hil) ?_
      refine AWP.condA ?_ ?_ <;> intro hk
      · -- it is set
        refine AWP.goFC (idxOe hil) (set49 up L (by omega)) ?_
        refine AWP.condA ?_ ?_ <;> intro hc4
        · simp at hc4
        · refine AWP.goA ?_
          refine AWP.loopT (fun j : Nat => ⟨0, Try.f15.ntmps, [(0, Oel l), (2, .bool false), (4, .ptr 32 0 0), (5, .osl 41 0 L.length), (6, iv i), (7, .ptr 56 0 0), (8, Kl (L.map (mkWake 0 0))), (9, iv j)], [(32, ⟨40, 2, true, [[.bool up, Wl L]]⟩), (41, ⟨3, 1, true, (prs L).map encI⟩), (56, ⟨40, 2, true, [[.bool true, .lst []]]⟩)], []⟩) (fun j => j ≤ L.length) (fun j => L.length - j) 0 (by simp)
            (Thin.to [] rfl rfl rfl rfl rfl (by simp [envIn, eget, eput]) rfl) ?_
          rintro j hj
          refine AWP.goA ?_
          refine AWP.condA ?_ ?_ <;> intro hc5
          · have hjl : j < L.length := by simp at hc5; omega
            have hK : ∀ h : Heap, aindexAddr' T12 h 36 (Kl (L.map (mkWake 0 0))) (j : Int) = some (.vptr (encWake (mkWake 0 0 L[j]))) := fun h => by
              have := idxK (l := L.map (mkWake 0 0)) (i := j) (by simpa using hjl) h
              rw [List.getElem_map] at this; exact this
            have hLo : ∀ (h : Heap) (k : Nat), hget h k = some ⟨3, 1, true, (prs L).map encI⟩ → aload T12 h 3 (.ptr k j 0) = some ⟨iv (L[j]).proc, [], [k], []⟩ := fun h k hk => by
              have := loadOI (l := prs L) (i := j) (by simpa using hjl) h k hk
              rw [List.getElem_map] at this; exact this
            have e1 : ((mkWake 0 0 L[j]).proc != (L[j]).proc) = false := by simp [mkWake]
            have e2 : ((mkWake 0 0 L[j]).code != 0) = false := by simp [mkWake]
            refine AWP.goF (And.intro hK (And.intro (idxOI hjl) (And.intro hLo (And.intro e1 e2)))) ?_
            refine AWP.condA ?_ ?_ <;> intro hc6
            · cases hc6
            · refine AWP.goA ?_
              exact ⟨j + 1, by omega, by omega, Thin.to [] rfl rfl rfl rfl rfl (by simp [envIn, eget, wrap_succ (show j < 9223372036854775807 by omega)]) rfl⟩
          · refine AWP.goA ?_
            refine AWP.condA ?_ ?_ <;> intro hc6
            · cases hc6
            · refine AWP.goF hw ?_
              refine ⟨(i + 1, true, []), ⟨by omega, by simp, by simp⟩, by simp; omega, ?_⟩
              refine Thin.trans (b := ⟨0, Try.f15.ntmps, [(0, Oel l), (2, .bool false), (4, .ptr 32 0 0), (5, .esl), (6, iv (i + 1 : Nat))], [(32, ⟨40, 2, true, [[.bool true, .lst []]]⟩)], []⟩) (Thin.to [41, 56] rfl rfl rfl rfl rfl (by simp [envIn, eget, eput]) rfl) ?_
              refine Thin.trans (Thin.ghost 5 41 3 1 (by rfl) (by rfl)) ?_
              exact Thin.to [] rfl rfl rfl rfl rfl (by simp [envIn, eget, eput]) rfl
      · refine AWP.goA ?_
        refine AWP.condA ?_ ?_ <;> intro hk1
        · -- it is reset
          refine AWP.goFC bneS (reset52C up L (by omega)) ?_
          refine AWP.condA ?_ ?_ <;> intro hc4
          · cases hc4
          · refine AWP.goF hw ?_
            exact ⟨(i + 1, false, L), ⟨by omega, by simp; omega, by simp⟩, by simp; omega, Thin.to [] rfl rfl rfl rfl rfl (by simp [envIn, eget, eput]) rfl⟩
        · -- it is asked for
          cases up
          · cases hm : (l[i]).may
            · have c : Con Try.prog 40 [Ev false L, .agg (encWait (l[i]).w), .bool (l[i]).may] (.tup [Ev false L, iv 2]) [] := by rw [hm]; exact await40_no L _ (by omega)
              refine AWP.goFC (And.intro (idxOe hil) bneS) c ?_
              refine AWP.condA ?_ ?_ <;> intro hc4
              · cases hc4
              · refine AWP.goA ?_
                refine AWP.condA ?_ ?_ <;> intro hc5
                · cases hc5
                · refine AWP.goF bneS ?_
                  refine AWP.condA ?_ ?_ <;> intro hc6
                  · cases hc6
                  · refine AWP.goF hw ?_
                    exact ⟨(i + 1, false, L), ⟨by omega, by simp; omega, by simp⟩, by simp; omega, Thin.to [80] rfl rfl rfl rfl rfl (by simp [envIn, eget, eput]) rfl⟩
            · have c : Con Try.prog 40 [Ev false L, .agg (encWait (l[i]).w), .bool (l[i]).may] (.tup [Ev false (L ++ [(l[i]).w]), iv 6]) [] := by rw [hm]; exact await40 false L _ true (by omega)
              refine AWP.goFC (And.intro (idxOe hil) bneS) c ?_
              refine AWP.condA ?_ ?_ <;> intro hc4
              · cases hc4
              · refine AWP.goA ?_
                refine AWP.condA ?_ ?_ <;> intro hc5
                · have hlen : (L ++ [(l[i]).w]).length = L.length + 1 := by simp
                  refine AWP.goF (And.intro (idxOe hil) (And.intro bneS hlen)) ?_
                  refine AWP.condA ?_ ?_ <;> intro hc6
                  · cases hc6
                  · refine AWP.goF hw ?_
                    refine ⟨(i + 1, false, L ++ [(l[i]).w]), ⟨by omega, by simp; omega, by simp⟩, by simp; omega, ?_⟩
                    refine Thin.to [80, 496] rfl rfl rfl rfl rfl (by simp [envIn, eget, eput]) ?_
                    have e : (prs (L ++ [(l[i]).w])).map encI = (prs L).map encI ++ [[iv (l[i]).w.proc]] := by simp [encI]
                    simp only [e]
                    rfl
                · cases hc5
          · have hLn := hup rfl
            subst hLn
            have c : Con Try.prog 40 [.agg [.bool true, .lst []], .agg (encWait (l[i]).w), .bool (l[i]).may] (.tup [.agg [.bool true, .lst []], iv 0]) [] := await40_up [] _ _ (by simp)
            refine AWP.goFC (And.intro (idxOe hil) bneS) c ?_
            refine AWP.condA ?_ ?_ <;> intro hc4
            · cases hc4
            · refine AWP.goA ?_
              refine AWP.condA ?_ ?_ <;> intro hc5
              · cases hc5
              · refine AWP.goF bneS ?_
                refine AWP.condA ?_ ?_ <;> intro hc6
                · cases hc6
                · refine AWP.goF hw ?_
                  exact ⟨(i + 1, true, []), ⟨by omega, by simp, by simp⟩, by simp; omega, Thin.to [80] rfl rfl rfl rfl rfl (by simp [envIn, eget, eput]) rfl⟩
    · refine AWP.goA ?_
      refine AWP.ret ?_
      exact ⟨trivial, [], by simp, .bool true, rfl, rfl, rfl, rfl⟩
abbrev sOe : Sh := .struct [sI, .bool, sW]
theorem aOe {N : Nat} {a : AV} (h : shA N (.slice sOe) a) : ∃ l : List Oe, a = Oel l := by
  obtain ⟨rows, h0, _, _, h⟩ := h
  obtain ⟨l, rfl⟩ := rows_map (enc := encOe) fun r hr => by
    obtain ⟨a, b, rfl, h1, c, d, rfl, h2, e, f, rfl, h3, rfl⟩ := h r hr
    obtain ⟨k, rfl⟩ := shI h1
    obtain ⟨m, rfl⟩ := h2
    obtain ⟨w, rfl⟩ := shW h3
    exact ⟨⟨k, m, w⟩, rfl⟩
  exact ⟨l, by simpa using h0⟩
end Go.Qd
