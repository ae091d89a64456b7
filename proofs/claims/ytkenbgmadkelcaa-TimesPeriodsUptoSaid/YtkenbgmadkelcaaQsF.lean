/- A part of the library of this claim: rules of an abstract machine (values in place of addresses), proved against the model, and contracts of the functions. -/
import Derived.Test.YtkenbgmadkelcaaQaC
import Derived.Test.YtkenbgmadkelcaaW12
import Derived.Test.YtkenbgmadkelcaaW24
set_option linter.unusedVariables false
namespace Go.Qd
open Go Go.Proofs
theorem shAs_cons {N : Nat} {s : Sh} {ss : List Sh} {l : List AV} (h : shAs N (s :: ss) l) : ∃ a r, l = a :: r ∧ shA N s a ∧ shAs N ss r := by
  cases l with
  | nil => exact h.elim
  | cons a r => exact ⟨a, r, rfl, h.1, h.2⟩
theorem shAs_nil {N : Nat} {l : List AV} (h : shAs N [] l) : l = [] := by
  cases l with
  | nil => rfl
  | cons a r => exact h.elim
/-! ### The shapes of what comes in, of this seat -/
abbrev sI : Sh := .int .i64
abbrev sW : Sh := .struct [sI, sI, sI]
abbrev sPr : Sh := .struct [sI, sI, .bool, .struct [sI, .array 4 sI], sI, sI, sI, sI, sI, sI, .bool, sI, sI, sI]
abbrev sBd : Sh := .struct [.bool, sI, .slice sW]
abbrev sBu : Sh := .struct [sI, .bool, .slice sI, .slice sW]
abbrev sSe : Sh := .struct [sI, sI, .bool, .slice sW]
abbrev sEv : Sh := .struct [.bool, .slice sW]
abbrev sSm : Sh := .struct [.bool, sI, sI]
abbrev sQu : Sh := .struct [sI, .slice sI, sI]
abbrev sPa : Sh := .struct [sI, sI, sI, .slice sI, .slice sPr, .slice sBd, .slice sBu, .slice sSe, .slice sEv, .slice sSm, .slice sQu, .struct [sI, .slice sI, sI], .slice sI]
abbrev sPc : Sh := .struct [sI, sI, sI, sI, .bool]
abbrev sCf : Sh := .struct [sI, .slice (.struct [sI, sI, .bool]), .slice sPc, sI, .slice (.struct [sI, .bool]), .slice (.struct [sI, sI, .bool]), sI, .slice sI, .slice sI, sI, .slice sI]
variable {N : Nat}
theorem shI {l : List AV} (h : ShV N sI l) : ∃ n, l = [iv n] := by
  obtain ⟨n, h1, _⟩ := h; exact ⟨n, h1⟩
theorem shB {l : List AV} (h : ShV N .bool l) : ∃ b, l = [.bool b] := h
theorem shs_cons {s : Sh} {ss : List Sh} {l : List AV} (h : ShVs N (s :: ss) l) : ∃ a b, l = a ++ b ∧ ShV N s a ∧ ShVs N ss b := h
theorem shs_nil {l : List AV} (h : ShVs N [] l) : l = [] := h
theorem shs_I {ss : List Sh} {l : List AV} (h : ShVs N (sI :: ss) l) : ∃ n r, l = iv n :: r ∧ ShVs N ss r := by
  obtain ⟨a, b, rfl, h1, h2⟩ := h
  obtain ⟨n, rfl⟩ := shI h1
  exact ⟨n, b, rfl, h2⟩
theorem shs_B {ss : List Sh} {l : List AV} (h : ShVs N (.bool :: ss) l) : ∃ n r, l = .bool n :: r ∧ ShVs N ss r := by
  obtain ⟨a, b, rfl, h1, h2⟩ := h
  obtain ⟨n, rfl⟩ := shB h1
  exact ⟨n, b, rfl, h2⟩
theorem rows_map {α : Type} {enc : α → List AV} : ∀ {rows : List (List AV)}, (∀ r ∈ rows, ∃ x, r = enc x) → ∃ l : List α, rows = l.map enc := by
  intro rows
  induction rows with
  | nil => intro _; exact ⟨[], rfl⟩
  | cons r rows ih =>
    intro h
    obtain ⟨x, rfl⟩ := h r (List.mem_cons_self ..)
    obtain ⟨l, rfl⟩ := ih fun r hr => h r (List.mem_cons_of_mem _ hr)
    exact ⟨x :: l, rfl⟩
theorem shs_S {e : Sh} {ss : List Sh} {l : List AV} (h : ShVs N (.slice e :: ss) l) : ∃ rows r, l = .lst rows :: r ∧ ShVs N ss r := by
  obtain ⟨a, b, rfl, h1, h2⟩ := h
  obtain ⟨rows, rfl, _⟩ := h1
  exact ⟨rows, b, rfl, h2⟩
theorem shs_L {α : Type} {enc : α → List AV} {e : Sh} {ss : List Sh} {l : List AV} (he : ∀ r, ShV N e r → ∃ x, r = enc x) (h : ShVs N (.slice e :: ss) l) : ∃ (xs : List α) (r : List AV), l = .lst (xs.map enc) :: r ∧ xs.length ≤ N ∧ ShVs N ss r := by
  obtain ⟨a, b, rfl, h1, h2⟩ := h
  obtain ⟨rows, rfl, _, hn, hr⟩ := h1
  obtain ⟨xs, rfl⟩ := rows_map (enc := enc) fun r h => he r (hr r h)
  exact ⟨xs, b, rfl, by simpa using hn, h2⟩
theorem shEI (r : List AV) (h : ShV N sI r) : ∃ x, r = encI x := shI h
theorem shEW (r : List AV) (h : ShV N sW r) : ∃ w, r = encWait w := by
  obtain ⟨a, r1, rfl, h1⟩ := shs_I h
  obtain ⟨b, r2, rfl, h2⟩ := shs_I h1
  obtain ⟨c, r3, rfl, h3⟩ := shs_I h2
  obtain rfl := shs_nil h3
  exact ⟨⟨a, b, c⟩, rfl⟩
theorem shEC (r : List AV) (h : ShV N sPc r) : ∃ w, r = encPConf w := by
  obtain ⟨a, r1, rfl, h1⟩ := shs_I h
  obtain ⟨b, r2, rfl, h2⟩ := shs_I h1
  obtain ⟨c, r3, rfl, h3⟩ := shs_I h2
  obtain ⟨d, r4, rfl, h4⟩ := shs_I h3
  obtain ⟨e, r5, rfl, h5⟩ := shs_B h4
  obtain rfl := shs_nil h5
  exact ⟨⟨a, b, c, d, e⟩, rfl⟩
theorem shA4 (r : List AV) (h : ShV N (.array 4 sI) r) : ∃ a b c d, r = [iv a, iv b, iv c, iv d] := by
  obtain ⟨rows, rfl, hl1, hr⟩ := h
  match rows, hl1, hr with
  | [r1, r2, r3, r4], _, hr =>
    obtain ⟨a, rfl⟩ := shI (hr r1 (by simp))
    obtain ⟨b, rfl⟩ := shI (hr r2 (by simp))
    obtain ⟨c, rfl⟩ := shI (hr r3 (by simp))
    obtain ⟨d, rfl⟩ := shI (hr r4 (by simp))
    exact ⟨a, b, c, d, rfl⟩
theorem shEP (r : List AV) (h : ShV N sPr r) : ∃ w, r = encProc w := by
  obtain ⟨a, r1, rfl, h1⟩ := shs_I h
  obtain ⟨b, r2, rfl, h2⟩ := shs_I h1
  obtain ⟨c, r3, rfl, h3⟩ := shs_B h2
  obtain ⟨core, r4, rfl, hc1, h4⟩ := h3
  obtain ⟨pc, rc, rfl, hc2⟩ := shs_I hc1
  obtain ⟨regs, e4, rfl, hregs, hc3⟩ := hc2
  obtain rfl := shs_nil hc3
  obtain ⟨g0, g1, g2, g3, rfl⟩ := shA4 _ hregs
  obtain ⟨d1, r5, rfl, h5⟩ := shs_I h4
  obtain ⟨d2, r6, rfl, h6⟩ := shs_I h5
  obtain ⟨d3, r7, rfl, h7⟩ := shs_I h6
  obtain ⟨d4, r8, rfl, h8⟩ := shs_I h7
  obtain ⟨d5, r9, rfl, h9⟩ := shs_I h8
  obtain ⟨d6, r10, rfl, h10⟩ := shs_I h9
  obtain ⟨d7, r11, rfl, h11⟩ := shs_B h10
  obtain ⟨d8, r12, rfl, h12⟩ := shs_I h11
  obtain ⟨d9, r13, rfl, h13⟩ := shs_I h12
  obtain ⟨d10, r14, rfl, h14⟩ := shs_I h13
  obtain rfl := shs_nil h14
  exact ⟨⟨a, b, c, pc, g0, g1, g2, g3, d1, d2, d3, d4, d5, d6, d7, d8, d9, d10⟩, rfl⟩
theorem shEBd (r : List AV) (h : ShV N sBd r) : ∃ w, r = encBoard w := by
  obtain ⟨a, r1, rfl, h1⟩ := shs_B h
  obtain ⟨b, r2, rfl, h2⟩ := shs_I h1
  obtain ⟨c, r3, rfl, _, h3⟩ := shs_L shEW h2
  obtain rfl := shs_nil h3
  exact ⟨⟨a, b, c⟩, rfl⟩
theorem shEBu (r : List AV) (h : ShV N sBu r) : ∃ w, r = encBuf w := by
  obtain ⟨a, r1, rfl, h1⟩ := shs_I h
  obtain ⟨b, r2, rfl, h2⟩ := shs_B h1
  obtain ⟨c, r3, rfl, _, h3⟩ := shs_L shEI h2
  obtain ⟨d, r4, rfl, _, h4⟩ := shs_L shEW h3
  obtain rfl := shs_nil h4
  exact ⟨⟨a, b, c, d⟩, rfl⟩
theorem shESe (r : List AV) (h : ShV N sSe r) : ∃ w, r = encSema w := by
  obtain ⟨a, r1, rfl, h1⟩ := shs_I h
  obtain ⟨b, r2, rfl, h2⟩ := shs_I h1
  obtain ⟨c, r3, rfl, h3⟩ := shs_B h2
  obtain ⟨d, r4, rfl, _, h4⟩ := shs_L shEW h3
  obtain rfl := shs_nil h4
  exact ⟨⟨a, b, c, d⟩, rfl⟩
theorem shEEv (r : List AV) (h : ShV N sEv r) : ∃ w, r = encEvent w := by
  obtain ⟨a, r1, rfl, h1⟩ := shs_B h
  obtain ⟨d, r4, rfl, _, h2⟩ := shs_L shEW h1
  obtain rfl := shs_nil h2
  exact ⟨⟨a, d⟩, rfl⟩
theorem shESm (r : List AV) (h : ShV N sSm r) : ∃ w, r = encSample w := by
  obtain ⟨a, r1, rfl, h1⟩ := shs_B h
  obtain ⟨b, r2, rfl, h2⟩ := shs_I h1
  obtain ⟨c, r3, rfl, h3⟩ := shs_I h2
  obtain rfl := shs_nil h3
  exact ⟨⟨a, b, c⟩, rfl⟩
theorem shEQu (r : List AV) (h : ShV N sQu r) : ∃ w, r = encQueue w := by
  obtain ⟨a, r1, rfl, h1⟩ := shs_I h
  obtain ⟨b, r2, rfl, _, h2⟩ := shs_L shEI h1
  obtain ⟨c, r3, rfl, h3⟩ := shs_I h2
  obtain rfl := shs_nil h3
  exact ⟨⟨a, b, c⟩, rfl⟩
theorem aI {a : AV} (h : shA N sI a) : ∃ n, a = iv n := by
  obtain ⟨n, h1, _⟩ := h; exact ⟨n, by simpa using h1⟩
theorem aWk {a : AV} (h : shA N sW a) : ∃ x y z, a = .agg [iv x, iv y, iv z] := by
  obtain ⟨l, rfl, h1⟩ := h
  obtain ⟨w, rfl⟩ := shEW _ h1
  exact ⟨w.proc, w.prio, w.value, rfl⟩
theorem aCf {a : AV} (h : shA N sCf a) : ∃ c : Conf, a = Cf c := by
  obtain ⟨l, rfl, h1⟩ := h
  obtain ⟨a1, r1, rfl, h2⟩ := shs_I h1
  obtain ⟨a2, r2, rfl, h3⟩ := shs_S h2
  obtain ⟨a3, r3, rfl, _, h4⟩ := shs_L shEC h3
  obtain ⟨a4, r4, rfl, h5⟩ := shs_I h4
  obtain ⟨a5, r5, rfl, h6⟩ := shs_S h5
  obtain ⟨a6, r6, rfl, h7⟩ := shs_S h6
  obtain ⟨a7, r7, rfl, h8⟩ := shs_I h7
  obtain ⟨a8, r8, rfl, h9⟩ := shs_S h8
  obtain ⟨a9, r9, rfl, h10⟩ := shs_S h9
  obtain ⟨a10, r10, rfl, h11⟩ := shs_I h10
  obtain ⟨a11, r11, rfl, h12⟩ := shs_S h11
  obtain rfl := shs_nil h12
  exact ⟨⟨a1, a2, a3, a4, a5, a6, a7, a8, a9, a10, a11⟩, rfl⟩
theorem aPa {a : AV} (h : shA 1048576 sPa a) : ∃ p : Part, a = Pa p ∧ Fits10 p := by
  obtain ⟨l, rfl, h1⟩ := h
  obtain ⟨a1, r1, rfl, h2⟩ := shs_I h1
  obtain ⟨a2, r2, rfl, h3⟩ := shs_I h2
  obtain ⟨a3, r3, rfl, h4⟩ := shs_I h3
  obtain ⟨a4, r4, rfl, n4, h5⟩ := shs_L shEI h4
  obtain ⟨a5, r5, rfl, n5, h6⟩ := shs_L shEP h5
  obtain ⟨a6, r6, rfl, n6, h7⟩ := shs_L shEBd h6
  obtain ⟨a7, r7, rfl, n7, h8⟩ := shs_L shEBu h7
  obtain ⟨a8, r8, rfl, n8, h9⟩ := shs_L shESe h8
  obtain ⟨a9, r9, rfl, n9, h10⟩ := shs_L shEEv h9
  obtain ⟨a10, r10, rfl, n10, h11⟩ := shs_L shESm h10
  obtain ⟨a11, r11, rfl, n11, h12⟩ := shs_L shEQu h11
  obtain ⟨lat, r12, rfl, hl1, h13⟩ := h12
  obtain ⟨b1, s1, rfl, hl2⟩ := shs_I hl1
  obtain ⟨b2, s2, rfl, _, hl3⟩ := shs_L shEI hl2
  obtain ⟨b3, s3, rfl, hl4⟩ := shs_I hl3
  obtain rfl := shs_nil hl4
  obtain ⟨a13, r13, rfl, n13, h14⟩ := shs_L shEI h13
  obtain rfl := shs_nil h14
  exact ⟨⟨a1, a2, a3, a4, a5, a6, a7, a8, a9, a10, a11, b1, b2, b3, a13⟩, rfl, ⟨n6, n7, n8, n9, n11⟩⟩
end Go.Qd
