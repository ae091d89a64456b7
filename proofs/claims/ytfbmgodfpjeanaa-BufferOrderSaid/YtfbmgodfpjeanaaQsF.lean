/- A part of the library of this claim: rules of an abstract machine (values in place of addresses), proved against the model, and contracts of the functions. -/
import Derived.Test.YtfbmgodfpjeanaaQaC
import Derived.Test.YtfbmgodfpjeanaaQsA
set_option linter.unusedVariables false
namespace Go.Qd
open Go Go.Proofs
theorem shAs_cons {N : Nat} {s : Sh} {ss : List Sh} {l : List AV} (h : shAs N (s :: ss) l) : ∃ a r, l = a :: r ∧ shA N s a ∧ shAs N ss r := by
  cases l with
  | nil => exact h.elim
  | cons a r => exact ⟨a, r, rfl, h.1, h.2⟩
theorem shAs_nil {N : Nat} {l : List AV} (h : shAs N [] l) : l = [] := by
  cases l with
  | nil => rfl
  | cons a r => exact h.elim
/-! ### The shapes of what comes in, of this seat -/
abbrev sI : Sh := .int .i64
abbrev sW : Sh := .struct [sI, sI, sI]
theorem shI {N : Nat} {l : List AV} (h : ShV N sI l) : ∃ n, l = [iv n] := by
  obtain ⟨n, h, _⟩ := h; exact ⟨n, h⟩
theorem shW {N : Nat} {l : List AV} (h : ShV N sW l) : ∃ w : Wait, l = encWait w := by
  obtain ⟨a, b, rfl, h1, c, d, rfl, h2, e, f, rfl, h3, rfl⟩ := h
  obtain ⟨x, rfl, _⟩ := h1
  obtain ⟨y, rfl, _⟩ := h2
  obtain ⟨z, rfl, _⟩ := h3
  exact ⟨⟨x, y, z⟩, rfl⟩
theorem rows_map {α : Type} {enc : α → List AV} : ∀ {rows : List (List AV)}, (∀ r ∈ rows, ∃ x, r = enc x) → ∃ l : List α, rows = l.map enc := by
  intro rows
  induction rows with
  | nil => intro _; exact ⟨[], rfl⟩
  | cons r rows ih =>
    intro h
    obtain ⟨x, rfl⟩ := h r (List.mem_cons_self ..)
    obtain ⟨l, rfl⟩ := ih fun r hr => h r (List.mem_cons_of_mem _ hr)
    exact ⟨x :: l, rfl⟩
theorem shWl {N : Nat} {l : List AV} (h : ShV N (.slice sW) l) : ∃ ws : List Wait, l = [Wl ws] := by
  obtain ⟨rows, rfl, _, _, h⟩ := h
  obtain ⟨ws, rfl⟩ := rows_map fun r hr => shW (h r hr)
  exact ⟨ws, rfl⟩
theorem shIl {N : Nat} {l : List AV} (h : ShV N (.slice sI) l) : ∃ ws : List Int, l = [Il ws] := by
  obtain ⟨rows, rfl, _, _, h⟩ := h
  obtain ⟨ws, rfl⟩ := rows_map (enc := encI) fun r hr => shI (h r hr)
  exact ⟨ws, rfl⟩
theorem aI {N : Nat} {a : AV} (h : shA N sI a) : ∃ n, a = iv n := by
  obtain ⟨n, h, _⟩ := h; exact ⟨n, by simpa using h⟩
theorem aB {N : Nat} {a : AV} (h : shA N .bool a) : ∃ b, a = .bool b := by
  obtain ⟨n, h⟩ := h; exact ⟨n, by simpa using h⟩
theorem aW {N : Nat} {a : AV} (h : shA N sW a) : ∃ w : Wait, a = .agg (encWait w) := by
  obtain ⟨l, rfl, h⟩ := h
  obtain ⟨w, rfl⟩ := shW h
  exact ⟨w, rfl⟩
theorem aWl {N : Nat} {a : AV} (h : shA N (.slice sW) a) : ∃ ws : List Wait, a = Wl ws := by
  obtain ⟨ws, h⟩ := shWl (N := N) (l := [a]) h
  exact ⟨ws, by simpa using h⟩
theorem aIl {N : Nat} {a : AV} (h : shA N (.slice sI) a) : ∃ ws : List Int, a = Il ws := by
  obtain ⟨ws, h⟩ := shIl (N := N) (l := [a]) h
  exact ⟨ws, by simpa using h⟩
abbrev sBd : Sh := .struct [.bool, sI, .slice sW]
abbrev sEv : Sh := .struct [.bool, .slice sW]
abbrev sSe : Sh := .struct [sI, sI, .bool, .slice sW]
abbrev sBu : Sh := .struct [sI, .bool, .slice sI, .slice sW]
theorem aBd {N : Nat} {a : AV} (h : shA N sBd a) : ∃ (is : Bool) (v : Int) (l : List Wait), a = .agg [.bool is, iv v, Wl l] := by
  obtain ⟨l, rfl, h⟩ := h
  obtain ⟨a, b, rfl, h1, c, d, rfl, h2, e, f, rfl, h3, rfl⟩ := h
  obtain ⟨x, rfl⟩ := h1
  obtain ⟨y, rfl⟩ := shI h2
  obtain ⟨z, rfl⟩ := shWl h3
  exact ⟨x, y, z, rfl⟩
theorem aEv {N : Nat} {a : AV} (h : shA N sEv a) : ∃ (up : Bool) (l : List Wait), a = .agg [.bool up, Wl l] := by
  obtain ⟨l, rfl, h⟩ := h
  obtain ⟨a, b, rfl, h1, c, d, rfl, h2, rfl⟩ := h
  obtain ⟨x, rfl⟩ := h1
  obtain ⟨y, rfl⟩ := shWl h2
  exact ⟨x, y, rfl⟩
theorem aSe {N : Nat} {a : AV} (h : shA N sSe a) : ∃ (c m : Int) (r : Bool) (l : List Wait), a = .agg [iv c, iv m, .bool r, Wl l] := by
  obtain ⟨l, rfl, h⟩ := h
  obtain ⟨a, b, rfl, h1, c, d, rfl, h2, e, f, rfl, h3, g, i, rfl, h4, rfl⟩ := h
  obtain ⟨x, rfl⟩ := shI h1
  obtain ⟨y, rfl⟩ := shI h2
  obtain ⟨z, rfl⟩ := h3
  obtain ⟨u, rfl⟩ := shWl h4
  exact ⟨x, y, z, u, rfl⟩
theorem aBu {N : Nat} {a : AV} (h : shA N sBu a) : ∃ (dp : Int) (r : Bool) (v : List Int) (l : List Wait), a = .agg [iv dp, .bool r, Il v, Wl l] := by
  obtain ⟨l, rfl, h⟩ := h
  obtain ⟨a, b, rfl, h1, c, d, rfl, h2, e, f, rfl, h3, g, i, rfl, h4, rfl⟩ := h
  obtain ⟨x, rfl⟩ := shI h1
  obtain ⟨y, rfl⟩ := h2
  obtain ⟨z, rfl⟩ := shIl h3
  obtain ⟨u, rfl⟩ := shWl h4
  exact ⟨x, y, z, u, rfl⟩
end Go.Qd
