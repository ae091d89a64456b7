/- A part of the library of this claim: rules of an abstract machine (values in place of addresses), proved against the model, and contracts of the functions. -/
import Derived.Test.YtkenbgmadkelcaaQsB
import Derived.Test.YtkenbgmadkelcaaQaC
set_option linter.unusedVariables false
set_option linter.unusedSimpArgs false
set_option maxHeartbeats 4000000
set_option maxRecDepth 10000
namespace Go.Qd
open Go Go.Proofs
/-- Waits without those of a process. -/
def noP (i : Int) (l : List Wait) : List Wait := l.filter (fun w => w.proc != i)
theorem noP_len (i : Int) (l : List Wait) : (noP i l).length ≤ l.length := List.length_filter_le _ _
theorem noP_none (i : Int) (l : List Wait) (h : ∀ w ∈ l, w.proc ≠ i) : noP i l = l := by
  unfold noP
  rw [List.filter_eq_self]
  intro w hw; simpa using h w hw
/-- What a list has become whose first j were looked at. -/
structure Cut (i : Int) (l : List Wait) (j : Nat) (r : List Wait) : Prop where
  len : r.length = l.length
  head : r.take (noP i (l.take j)).length = noP i (l.take j)
  tail : r.drop j = l.drop j
theorem Cut.le {i : Int} {l r : List Wait} {j : Nat} (h : Cut i l j r) (hj : j ≤ l.length) : (noP i (l.take j)).length ≤ j := by
  have := noP_len i (l.take j); simp at this; omega
theorem noP_succ (i : Int) (l : List Wait) (j : Nat) (hj : j < l.length) : noP i (l.take (j + 1)) = noP i (l.take j) ++ noP i [l[j]] := by
  unfold noP; rw [List.take_succ_eq_append_getElem hj, List.filter_append]
theorem Cut.get {i : Int} {l r : List Wait} {j : Nat} (h : Cut i l j r) (hj : j < l.length) : ∃ hr : j < r.length, r[j] = l[j] := by
  refine ⟨by rw [h.len]; exact hj, ?_⟩
  have h1 : (r.drop j)[0]? = (l.drop j)[0]? := by rw [h.tail]
  simp only [List.getElem?_drop, Nat.add_zero] at h1
  rw [List.getElem?_eq_getElem (by rw [h.len]; exact hj), List.getElem?_eq_getElem hj] at h1
  injection h1
theorem Cut.skip {i : Int} {l r : List Wait} {j : Nat} (h : Cut i l j r) (hj : j < l.length) (hw : l[j].proc = i) : Cut i l (j + 1) r := by
  have e : noP i (l.take (j + 1)) = noP i (l.take j) := by rw [noP_succ i l j hj]; simp [noP, hw]
  refine ⟨h.len, by rw [e]; exact h.head, ?_⟩
  rw [← List.drop_drop, h.tail, List.drop_drop]
theorem Cut.put {i : Int} {l r : List Wait} {j : Nat} (h : Cut i l j r) (hj : j < l.length) (hw : l[j].proc ≠ i) : Cut i l (j + 1) (r.set (noP i (l.take j)).length l[j]) := by
  have e : noP i (l.take (j + 1)) = noP i (l.take j) ++ [l[j]] := by rw [noP_succ i l j hj]; simp [noP, hw]
  have hle := h.le (by omega)
  have hl := h.len
  refine ⟨by simp [h.len], ?_, ?_⟩
  · rw [e, List.length_append]
    simp only [List.length_singleton]
    rw [List.take_succ_eq_append_getElem (by simp; omega), List.take_set_of_le (Nat.le_refl _), h.head]
    simp
  · rw [List.drop_set_of_lt (by omega), ← List.drop_drop, h.tail, List.drop_drop]
theorem Cut.start {i : Int} {l : List Wait} {j : Nat} (hj : j < l.length) (hw : l[j].proc = i) (hn : ∀ w ∈ l.take j, w.proc ≠ i) : Cut i l (j + 1) l ∧ (noP i (l.take (j + 1))).length = j := by
  have e : noP i (l.take (j + 1)) = l.take j := by rw [noP_succ i l j hj, noP_none i _ hn]; simp [noP, hw]
  have hjl : (l.take j).length = j := by simp; omega
  exact ⟨⟨rfl, by rw [e, hjl], rfl⟩, by rw [e, hjl]⟩
theorem set_enc {α : Type} (enc : α → List AV) (l : List α) (k : Nat) (x : α) : (l.map enc).set k (enc x) = (l.set k x).map enc := by
  rw [List.map_set]
abbrev isFn (i : Int) : AV := .fn 64 [] [.vptr [iv i]]
abbrev wObj (r : List Wait) : AObj := ⟨102, 3, true, r.map encWait⟩
theorem idxW {r : List Wait} {i n : Nat} (hi : i < n) : ∀ (h : Heap) (k : Nat), keySize h (.osl k 0 n) 3 = true → aindexAddr' T10 h 67 (.osl k 0 n) (i : Int) = some (.ptr k i 0) := idxOb (e := 102) rfl rfl rfl hi
theorem ldW {r : List Wait} {i : Nat} (hi : i < r.length) : ∀ (h : Heap) (k : Nat), hget h k = some (wObj r) → aload T10 h 102 (.ptr k i 0) = some ⟨.agg (encWait r[i]), [], [k], []⟩ :=
  load_at (r := encWait r[i]) (by simp [hi]) rfl
theorem stW {r : List Wait} {i : Nat} (hi : i < r.length) (x : Wait) : ∀ (fb nt : Nat) (env : Env) (heap : Heap) (k : Nat), hget heap k = some (wObj r) → astore T10 ⟨fb, nt, env, heap, []⟩ 102 (.ptr k i 0) (.agg (encWait x)) = some ⟨.tup [], [(k, wObj (r.set i x))], [k], []⟩ := fun fb nt env heap k hk => by
  unfold wObj at hk ⊢
  rw [← set_enc]
  exact store_at (cs := encWait x) (r := encWait r[i]) rfl rfl (by simp [hi]) rfl (Nat.le_refl _) rfl rfl fb nt env heap k hk
theorem slo {n m : Nat} (hm : m < n) : ∀ (h : Heap) (sz k : Nat), keySize h (.osl k 0 n) sz = true → aslice h sz (.osl k 0 n) (some (m : Int)) none none = some (.osl k m (n - m)) := fun h sz k hk => by
  unfold aslice
  have h1 : inB (m : Int) n n n = true := by simp [inB]; omega
  have h2 : ¬ ((n : Int) = (m : Int)) := by omega
  simp [alen, h1, hk, h2]
theorem shi {n m : Nat} (hm0 : 0 < m) (hm : m < n) : ∀ (h : Heap) (sz k : Nat), keySize h (.osl k 0 n) sz = true → aslice h sz (.osl k 0 n) none (some (m : Int)) none = some (.osl k 0 m) := fun h sz k hk => by
  unfold aslice
  have h1 : inB 0 (m : Int) n n = true := by simp [inB]; omega
  have h2 : ¬ m = 0 := by omega
  simp [alen, h1, hk, h2]
theorem shi0 {n m : Nat} (hm0 : m = 0) (hm : m < n) : ∀ (h : Heap) (sz k : Nat), keySize h (.osl k 0 n) sz = true → aslice h sz (.osl k 0 n) none (some (m : Int)) none = some (.lst []) := fun h sz k hk => by
  unfold aslice
  subst hm0
  simp [alen, inB]
theorem cleared (r : List Wait) (m n : Nat) (hm : m ≤ r.length) (hn : n = r.length - m) : putRows (r.map encWait) m (List.replicate n [.int .i64 0, .int .i64 0, .int .i64 0]) = (r.take m ++ List.replicate n (⟨0, 0, 0⟩ : Wait)).map encWait := by
  unfold putRows
  rw [List.map_append, List.map_take, List.map_replicate]
  have : ((r.map encWait).drop (m + (List.replicate n [AV.int .i64 0, .int .i64 0, .int .i64 0]).length)) = [] := by simp; omega
  rw [this, List.append_nil]
  rfl
theorem leave61_end (l : List Wait) (i : Int) (r : List Wait) (m : Nat) (hm : m = (noP i l).length) (hr : r.take m = noP i l) (hle : m ≤ r.length) :
    lsA (convA (idxIn [] 0) [(40, wObj r)] (.osl 40 0 m)) = Wl (noP i l) := by
  simp [convA, convL, idxIn, hget, lsA, lsL, hle]
  rw [← hr, List.map_take]
/-- procs.Leave$1 -/
theorem leave61 (l : List Wait) (i : Int) (hl : l.length ≤ 1000000) : Con Try.prog 61 [Wl l, .vptr [iv i]] (Wl (noP i l)) [] := by
  refine ⟨⟨_, _, Try.func61, rfl, by decide⟩, ICall.of_body' T10_ok ⟨Try.func61, rfl, by decide⟩ (by simp [Try.f61]) ?_⟩
  refine AWP.goA ?_
  refine AWP.region ?_
  refine AOps.goC (clone63 l hl) ?_
  refine AOps.inlineL T10_ok M10_ok rfl rfl (by (simp only [acall, aev, aevs, eget, reduceIte, Nat.reduceEqDiff, Option.getD, List.append_nil, List.nil_append, List.cons_append]) <;> rfl) ⟨Try.func62, rfl, by decide⟩ (by simp [Try.f62]) ?_
  refine AWP.enterF (show Try.f61.ntmps = 8 from rfl) ?_
  refine AWP.goA ?_
  refine AWP.region ?_
  refine AOps.goA ?_
  refine AOps.inlineL T10_ok M10_ok rfl rfl (by (simp only [acall, aev, aevs, eget, reduceIte, Nat.reduceEqDiff, Option.getD, List.append_nil, List.nil_append, List.cons_append]) <;> rfl) ⟨Try.func95, rfl, by decide⟩ (by simp [Try.f95]) ?_
  refine AWP.enterF (show Try.f62.ntmps = 42 from rfl) ?_
  refine AWP.goA ?_
  refine AWP.loopT (fun k : Nat => ⟨400, Try.f95.ntmps, [(0, .osl 40 0 l.length), (1, isFn i), (7, iv l.length), (8, iv k)], [(40, wObj l)], []⟩) (fun k => k ≤ l.length ∧ ∀ w ∈ l.take k, w.proc ≠ i) (fun k => l.length - k) 0 (by simp)
    (Thin.to [] rfl rfl rfl rfl rfl (by simp [envIn, eget, eput]) rfl) ?_
  rintro k ⟨hk, hn⟩
  refine AWP.goA ?_
  refine AWP.condA ?_ ?_ <;> intro hc
  · have hkl : k < l.length := by simpa using hc
    have hw := wrap_succ (show k < 9223372036854775807 by omega)
    have hix := idxW (r := l) hkl
    have hld := ldW (r := l) hkl
    have c := is64 l[k] i
    refine AWP.goFC (And.intro hix (And.intro hld (And.intro wt_close wt_keys))) c ?_
    simp only [wt_keys]
    refine AWP.condA ?_ ?_ <;> intro hc2
    · refine AWP.goA ?_
      refine AWP.ret ?_
      refine ⟨trivial, iv k, rfl, [], rfl, ?_⟩
      refine AOps.backF (show Try.f62.ntmps = 42 from rfl) ?_
      refine AOps.goA ?_
      refine AOps.endA ?_
      simp only [Then]
      have hne : (decide ((k : Int) = -1)) = false := by simp
      refine AWP.goF hne ?_
      refine AWP.condA ?_ ?_ <;> intro hc3
      · simp at hc3
      have hp : l[k].proc = i := by simpa using hc2
      refine AWP.goF hw ?_
      refine AWP.loopT (fun x : Nat × List Wait => ⟨64, 42, [(0, .osl 40 0 l.length), (1, isFn i), (4, .esl), (5, iv ((noP i (l.take x.1)).length : Nat)), (6, iv x.1)], [(40, wObj x.2)], []⟩)
        (fun x => x.1 ≤ l.length ∧ Cut i l x.1 x.2 ∧ (noP i (l.take x.1)).length < x.1) (fun x => l.length - x.1) (k + 1, l) ⟨hkl, (Cut.start hkl hp hn).1, by rw [(Cut.start hkl hp hn).2]; omega⟩
        (Thin.to [] rfl rfl rfl rfl rfl (by simp [envIn, eget, eput, (Cut.start hkl hp hn).2]) rfl) ?_
      rintro ⟨j, r⟩ ⟨hj, hcut, hlt⟩
      refine AWP.goA ?_
      refine AWP.condA ?_ ?_ <;> intro hc4
      · have hjl : j < l.length := by simpa using hc4
        have hwj := wrap_succ (show j < 9223372036854775807 by omega)
        have hixj := idxW (r := l) hjl
        obtain ⟨hjr, hge⟩ := hcut.get hjl
        have hldj := ldW (r := r) hjr
        rw [hge] at hldj
        have cj := is64 l[j] i
        obtain ⟨wa, wb, wc, hww⟩ : ∃ a b c, l[j] = ⟨a, b, c⟩ := ⟨_, _, _, rfl⟩
        simp only at hldj hcut hj
        rw [hww] at cj hldj
        simp only [encWait] at hldj cj
        refine AWP.goFC (And.intro hixj hldj) cj ?_
        simp only [List.take_succ_cons, List.take_zero, keysL, keysA, List.append_nil]
        refine AWP.condA ?_ ?_ <;> intro hc5
        · have hpj : wa ≠ i := by simpa using hc5
          have hpl : l[j].proc ≠ i := by rw [hww]; exact hpj
          simp only at hlt
          have hml : (noP i (l.take j)).length < r.length := by rw [hcut.len]; omega
          have hixm := idxW (r := l) (show (noP i (l.take j)).length < l.length by omega)
          have hwm := wrap_succ (show (noP i (l.take j)).length < 9223372036854775807 by omega)
          have hst := stW (r := r) hml ⟨wa, wb, wc⟩
          simp only [encWait] at hst
          have hst2 : ∀ (fb nt : Nat) (env : Env) (heap : Heap) (k : Nat), hget heap k = some (wObj r) → astore T10 ⟨fb, nt, env, heap, []⟩ 102 (.ptr k (noP i (l.take j)).length 0) (.agg (List.take 3 [iv wa, iv wb, iv wc])) = some ⟨.tup [], [(k, wObj (r.set (noP i (l.take j)).length ⟨wa, wb, wc⟩))], [k], []⟩ := hst
          refine AWP.goF (And.intro hixm (And.intro hst2 (And.intro hwj hwm))) ?_
          have e := noP_succ i l j hjl
          have hm1 : (noP i (l.take (j + 1))).length = (noP i (l.take j)).length + 1 := by rw [e, hww]; simp [noP, hpj]
          have hput := hcut.put hjl hpl
          rw [hww] at hput
          refine ⟨(j + 1, r.set (noP i (l.take j)).length ⟨wa, wb, wc⟩), ⟨by simp only; omega, hput, by simp only; rw [hm1]; omega⟩, by simp only; omega, Thin.to [120] rfl rfl rfl rfl rfl (by simp [envIn, eget, hm1]) rfl⟩
        · have hpj : wa = i := by simpa using hc5
          have hpl : l[j].proc = i := by rw [hww]; exact hpj
          simp only at hlt
          have e := noP_succ i l j hjl
          have hm1 : (noP i (l.take (j + 1))).length = (noP i (l.take j)).length := by rw [e, hww]; simp [noP, hpj]
          refine AWP.goF hwj ?_
          refine ⟨(j + 1, r), ⟨by simp only; omega, hcut.skip hjl hpl, by simp only; rw [hm1]; omega⟩, by simp only; omega, Thin.to [120] rfl rfl rfl rfl rfl (by simp [envIn, eget, hm1]) rfl⟩
      · have hje : j = l.length := by simp at hc4 hj; omega
        subst hje
        simp only [List.take_length] at hlt hcut ⊢
        have hhead := hcut.head
        have hrl := hcut.len
        rw [List.take_length] at hhead
        refine AWP.goF (slo hlt) ?_
        refine AWP.region ?_
        refine AOps.goF (slo hlt) ?_
        refine AOps.clearS T10_ok rfl rfl rfl rfl rfl rfl (by rfl) (by rfl) rfl (by decide) (by simp) (by omega) (by simp; omega) rfl rfl rfl rfl ?_
        refine AOps.asA ?_
        refine AOps.endA ?_
        simp only [Then]
        rw [cleared r (noP i l).length (l.length - (noP i l).length) (by omega) (by omega)]
        obtain ⟨r2, hr2⟩ : ∃ r2, r.take (noP i l).length ++ List.replicate (l.length - (noP i l).length) ⟨0, 0, 0⟩ = r2 := ⟨_, rfl⟩
        have hr2h : r2.take (noP i l).length = noP i l := by
          rw [← hr2, hhead]; simp
        have hr2l : (noP i l).length ≤ r2.length := by rw [← hr2]; simp; omega
        rw [hr2]
        rcases Nat.eq_zero_or_pos (noP i l).length with h0 | h0
        · refine AWP.goF (shi0 h0 hlt) ?_
          refine AWP.ret ?_
          refine ⟨trivial, .lst [], rfl, [], rfl, ?_⟩
          refine AOps.backF (show Try.f61.ntmps = 8 from rfl) ?_
          refine AOps.goA ?_
          refine AOps.endA ?_
          simp only [Then]
          refine AWP.goA ?_
          refine AWP.ret ?_
          exact ⟨trivial, [], by simp, .lst [], rfl, by rw [List.length_eq_zero_iff.1 h0]; rfl, rfl, rfl⟩
        · refine AWP.goF (shi h0 hlt) ?_
          refine AWP.ret ?_
          refine ⟨trivial, .osl 40 0 (noP i l).length, rfl, [], rfl, ?_⟩
          refine AOps.backF (show Try.f61.ntmps = 8 from rfl) ?_
          refine AOps.goA ?_
          refine AOps.endA ?_
          simp only [Then]
          refine AWP.goA ?_
          refine AWP.ret ?_
          exact ⟨trivial, [], by simp, .osl 40 0 (noP i l).length, rfl, leave61_end l i r2 _ rfl hr2h hr2l, rfl, rfl⟩
    · refine AWP.goF hw ?_
      refine ⟨k + 1, ⟨by omega, fun w hw2 => ?_⟩, by omega, Thin.to [] rfl rfl rfl rfl rfl (by simp [envIn, eget]) rfl⟩
      rw [List.take_succ_eq_append_getElem hkl] at hw2
      rcases List.mem_append.1 hw2 with h | h
      · exact hn w h
      · simp only [List.mem_singleton] at h; subst h; simpa using hc2
  · have hke : k = l.length := by simp at hc; omega
    subst hke
    rw [List.take_length] at hn
    refine AWP.goA ?_
    refine AWP.ret ?_
    refine ⟨trivial, iv (-1), rfl, [], rfl, ?_⟩
    refine AOps.backF (show Try.f62.ntmps = 42 from rfl) ?_
    refine AOps.goA ?_
    refine AOps.endA ?_
    simp only [Then]
    refine AWP.goA ?_
    refine AWP.condA ?_ ?_ <;> intro hc3
    · refine AWP.goA ?_
      refine AWP.ret ?_
      refine ⟨trivial, .osl 40 0 l.length, rfl, [], rfl, ?_⟩
      refine AOps.backF (show Try.f61.ntmps = 8 from rfl) ?_
      refine AOps.goA ?_
      refine AOps.endA ?_
      simp only [Then]
      refine AWP.goA ?_
      refine AWP.ret ?_
      exact ⟨trivial, [], by simp, .osl 40 0 l.length, rfl, leave61_end l i l _ (by rw [noP_none i l hn]) (by rw [noP_none i l hn, List.take_length]) (Nat.le_refl _), rfl, rfl⟩
    · cases hc3
end Go.Qd
