/- A part of the library of this claim: rules of an abstract machine (values in place of addresses), proved against the model, and contracts of the functions. -/
import Derived.Test.YtnodjmlldjdhdaaDoorQaC
import Derived.Test.YtnodjmlldjdhdaaDoorQsA
import Derived.Lib.LaidTab
set_option linter.unusedVariables false
namespace Go.Qd
open Go Go.Proofs
theorem shAs_cons {N : Nat} {s : Sh} {ss : List Sh} {l : List AV} (h : shAs N (s :: ss) l) : ∃ a r, l = a :: r ∧ shA N s a ∧ shAs N ss r := by
  cases l with
  | nil => exact h.elim
  | cons a r => exact ⟨a, r, rfl, h.1, h.2⟩
theorem shAs_nil {N : Nat} {l : List AV} (h : shAs N [] l) : l = [] := by
  cases l with
  | nil => rfl
  | cons a r => exact h.elim
abbrev sI : Sh := .int .i64
theorem shI {N : Nat} {l : List AV} (h : ShV N sI l) : ∃ n, l = [iv n] := by
  obtain ⟨n, h, _⟩ := h; exact ⟨n, h⟩
theorem rows_map {α : Type} {enc : α → List AV} : ∀ {rows : List (List AV)}, (∀ r ∈ rows, ∃ x, r = enc x) → ∃ l : List α, rows = l.map enc := by
  intro rows
  induction rows with
  | nil => intro _; exact ⟨[], rfl⟩
  | cons r rows ih =>
    intro h
    obtain ⟨x, rfl⟩ := h r (List.mem_cons_self ..)
    obtain ⟨l, rfl⟩ := ih fun r hr => h r (List.mem_cons_of_mem _ hr)
    exact ⟨x :: l, rfl⟩
theorem aI {N : Nat} {a : AV} (h : shA N sI a) : ∃ n, a = iv n := by
  obtain ⟨n, h, _⟩ := h; exact ⟨n, by simpa using h⟩
theorem aIl {N : Nat} {a : AV} (h : shA N (.slice sI) a) : ∃ l : List Int, a = Il l := by
  obtain ⟨rows, h0, _, _, h⟩ := h
  obtain ⟨l, rfl⟩ := rows_map (enc := encI) fun r hr => shI (h r hr)
  exact ⟨l, by simpa using h0⟩
/-- An array of booleans that reads as a table holds the table's cells. -/
theorem cells_of_bools {H : Type} {enc : TypeId × Value → H} {P : Program} {w : World} {base : Nat} {sp : Nat → Bool} {held : Bool} {fuel : Nat} {t e : TypeId} {n : Nat} {cs : List Value} {zs : List Bool} {p : List MemPlace}
    (ht : P.underlying t = some (.array n e)) (he : P.underlying e = some .bool) (hce : P.cellsOf e = 1) (hct : P.cellsOf t = n)
    (h : DataW.trod enc P w base sp held fuel t cs = some (.agg (zs.map fun z => .lit (.bool z)), p)) : cs = zs.map fun z => Value.bool z := by
  cases fuel with
  | zero => simp [DataW.trod] at h
  | succ fuel =>
    simp only [DataW.trod, ht, hce, hct, Nat.mul_one] at h
    split at h
    · rename_i hl
      obtain ⟨xs, hm, hx⟩ := Option.map_eq_some_iff.1 h
      have hxs : xs.map (·.1) = zs.map fun z => (DataW.lit (.bool z) : DataW H) := by
        have := congrArg Prod.fst hx
        simpa using this
      have hxl : xs.length = n := by simpa using Lib.mapM_length hm
      have hzl : zs.length = n := by
        have := congrArg List.length hxs
        simp at this
        omega
      apply List.ext_getElem?
      intro i
      by_cases hi : i < n
      · obtain ⟨b, hb, hf⟩ := Lib.mapM_at hm i i (by simp [hi])
        obtain ⟨z, hc, rfl⟩ := DataW.trod_bool he hf
        have h1 : cs[i]? = some (.bool z) := by
          have := congrArg (·[0]?) hc
          simpa [List.getElem?_take, List.getElem?_drop] using this
        have h2 : (xs.map (·.1))[i]? = some (DataW.lit (.bool z) : DataW H) := by simp [hb]
        rw [hxs] at h2
        simp only [List.getElem?_map, Option.map_eq_some_iff, DataW.lit.injEq, Lit.bool.injEq] at h2
        obtain ⟨z', hz', rfl⟩ := h2
        simp [h1, hz']
      · rw [List.getElem?_eq_none (by omega), List.getElem?_eq_none (by simp; omega)]
    · cases h
theorem gTab : Tryd.prog.globalNamed "quarterdeck/monitor.concerns" = some 0 := by kernel_rfl
theorem gTabType : (Tryd.prog.globals[0]?).map (·.type) = some 29 := by kernel_rfl
theorem cells29 : Tryd.prog.cellsOf 29 = 5 := by kernel_rfl
theorem cells4 : Tryd.prog.cellsOf 4 = 1 := by kernel_rfl
/-- What the row's list gives. -/
theorem okB_of {W : World} (h : laidMet Tryd.prog [("quarterdeck/monitor.concerns", .agg [.lit (.bool false), .lit (.bool true), .lit (.bool true), .lit (.bool false), .lit (.bool false)])] W) : OkB W.heap (okAll W) := by
  obtain ⟨ps, ⟨g', t', cs, fuel, p, q, hg', ht', hvar, hd, _, _⟩, _⟩ := h
  obtain rfl := Option.some.inj (gTab.symm.trans hg')
  obtain rfl := Option.some.inj (gTabType.symm.trans ht')
  have hcs := cells_of_bools (zs := [false, true, true, false, false]) Tryd.underlying29 Tryd.underlying4 cells4 cells29 hd
  unfold World.var? at hvar
  rw [gTab] at hvar
  simp only [Option.bind_some] at hvar
  refine ⟨fun _ h => h, fun x hx => ?_⟩
  simp only [globs, List.mem_singleton] at hx
  subst hx
  dsimp only
  cases hb : W.heap[0]? with
  | none => rw [hb] at hvar; cases hvar
  | some o =>
    rw [hb] at hvar
    cases o with
    | cells c ty fr =>
      simp only [Option.some.injEq] at hvar
      subst hvar
      refine ⟨(Array.getElem?_eq_some_iff.1 hb).1, ty, fr, ?_⟩
      have : c = #[.bool false, .bool true, .bool true, .bool false, .bool false] := by
        apply Array.ext'
        simpa using hcs
      rw [this]
    | _ => cases hvar
end Go.Qd
