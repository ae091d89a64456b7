/- A part of the library of this claim: rules of an abstract machine (values in place of addresses), proved against the model, and contracts of the functions. -/
import Derived.Test.YtkenbgmadkelcaaW12
import Derived.Test.YtkenbgmadkelcaaAbs36
set_option linter.unusedVariables false
set_option linter.unusedSimpArgs false
set_option maxHeartbeats 4000000
set_option maxRecDepth 10000
namespace Go.Qd
open Go Go.Proofs
/-! ### The first buffer's values may be written -/
/-- A buffer whose values lie in an object. -/
def encBufN (k : Nat) (b : Buf) : List AV := [iv b.depth, .bool b.rk, .osl k 0 b.vals.length, Wl b.l]
abbrev bfObj (k : Nat) (b : Buf) (t : List Buf) : AObj := ⟨69, 4, false, encBufN k b :: t.map encBuf⟩
abbrev vlObj (b : Buf) : AObj := ⟨3, 1, true, b.vals.map encI⟩
theorem convL_bufs (ρ : Nat → Option Nat) (h : Heap) (l : List Buf) : (l.map encBuf).map (convL ρ h) = l.map encBuf := by
  rw [List.map_map]; rfl
theorem convL_buf (ρ : Nat → Option Nat) (h : Heap) (b : Buf) : convL ρ h (encBuf b) = encBuf b := rfl
theorem renL_bufs (base : Nat) (l : List Buf) : (l.map encBuf).map (renL base) = l.map encBuf := by
  rw [List.map_map]; rfl
theorem renO_open (base ty sz : Nat) (rows : List (List AV)) : renO base ⟨ty, sz, false, rows⟩ = ⟨ty, sz, false, rows.map (renL base)⟩ := rfl
theorem renO_true (base ty sz : Nat) (rows : List (List AV)) : renO base ⟨ty, sz, true, rows⟩ = ⟨ty, sz, true, rows⟩ := rfl
theorem store_atN {t q i ty sz : Nat} {cl cl' : Bool} {r cs r' : List AV} {R : List (List AV)} {v : AV} {ti : TI} (ht : tget T10 t = some ti) (hc : cellsOf v = some cs) (hi : R[i]? = some r) (hl : cs.length = ti.size) (hq : q + cs.length ≤ r.length) (hcl : (cl && AV.closedAll cs) = cl') (hr : splice r q cs = r') :
    ∀ (fb nt : Nat) (env : Env) (heap : Heap) (k : Nat), hget heap k = some ⟨ty, sz, cl, R⟩ → astore T10 ⟨fb, nt, env, heap, []⟩ t (.ptr k i q) v = some ⟨.tup [], [(k, ⟨ty, sz, cl', R.set i r'⟩)], [k], []⟩ := fun fb nt env heap k hk => by
  unfold astore
  simp only [ht, hc, hk, hi]
  rw [if_pos ⟨hl, hq, by simp⟩, hcl, hr]
/-- procs.each, of buffers of which the first one has a list of its own -/
theorem each84N (g : List Wait → List Wait) (F : Nat) (caps : List AV) (b0 : Buf) (bt : List Buf) (hl : (b0 :: bt).length ≤ 1000000) (hvl : ∀ b, b ∈ b0 :: bt → b.vals.length ≤ 1000000) (hcc : ∀ h : Heap, closeL h caps = caps) (hck : keysL caps = []) (hof : ∀ b, b ∈ b0 :: bt → Con Try.prog F (Wl b.l :: caps) (Wl (g b.l)) []) :
    Con Try.prog 84 [.lst ((b0 :: bt).map encBuf), .fn 85 [] [.vptr [.fn F [] caps]]] (.osl 0 0 (b0 :: bt).length) [bfObj 1 (gBuf g b0) (bt.map (gBuf g)), vlObj b0] := by
  refine ⟨⟨_, _, Try.func84, rfl, by decide⟩, ICall.of_body' T10_ok ⟨Try.func84, rfl, by decide⟩ (by simp [Try.f84]) ?_⟩
  have c99 := clone99 (b0 :: bt) hl
  obtain ⟨n, hlen0⟩ : ∃ n, (b0 :: bt).length = n := ⟨_, rfl⟩
  obtain ⟨R0, hR0⟩ : ∃ R, (b0 :: bt).map encBuf = R := ⟨_, rfl⟩
  obtain ⟨R1, hR1⟩ : ∃ R, (gBuf g b0 :: bt).map encBuf = R := ⟨_, rfl⟩
  rw [hlen0] at hl ⊢
  rw [hlen0, hR0] at c99
  rw [hR0]
  have hlen : n = bt.length + 1 := by rw [← hlen0]; rfl
  refine AWP.goC c99 ?_
  refine AWP.loopT (fun x : Nat × Heap => ⟨0, Try.f84.ntmps, [(0, .osl 56 0 n), (1, .fn 85 [] [.vptr [.fn F [] caps]]), (9, iv (n)), (10, iv (x.1 : Nat))], x.2, []⟩)
    (fun x => (x.1 = 0 ∧ x.2 = [(56, ⟨69, 4, true, R0⟩)]) ∨ ∃ j, x.1 = j + 1 ∧ j ≤ bt.length ∧ x.2 = [(56, ⟨69, 4, false, encBufN 8 (gBuf g b0) :: (upto (gBuf g) bt j).map encBuf⟩), (8, vlObj b0)]) (fun x => n - x.1) (0, [(56, ⟨69, 4, true, R0⟩)]) (.inl ⟨rfl, rfl⟩)
    (Thin.to [] rfl rfl rfl rfl rfl (by simp [envIn, eget, eput]) (by simp [killsH])) ?_
  rintro ⟨i, hp⟩ hinv
  simp only at hinv
  have hi : i ≤ n := by
    rcases hinv with ⟨h, _⟩ | ⟨j, h, h2, _⟩ <;> rw [hlen] <;> omega
  refine AWP.goA ?_
  refine AWP.condA ?_ ?_ <;> intro hc
  · have hil : i < n := by have h := of_decide_eq_true hc; omega
    have hix : ∀ (h : Heap) (k : Nat), keySize h (.osl k 0 n) 4 = true → aindexAddr' T10 h 31 (.osl k 0 n) (i : Int) = some (.ptr k i 0) := idxOb (e := 69) rfl rfl rfl hil
    have hw := wrap_succ (show i < 9223372036854775807 by omega)
    rcases hinv with ⟨h0, rfl⟩ | ⟨j, hj, hjl, rfl⟩
    · have hrow : R0[i]? = some (encBuf b0) := by subst h0; first | (rw [← hR0, ← hR1]; rfl) | (rw [← hR1]; rfl) | (rw [← hR0]; rfl)
      have hset : R0.set i (encBuf (gBuf g b0)) = R1 := by subst h0; first | (rw [← hR0, ← hR1]; rfl) | (rw [← hR1]; rfl) | (rw [← hR0]; rfl)
      have hrow2 : R1[i]? = some (encBuf (gBuf g b0)) := by subst h0; first | (rw [← hR0, ← hR1]; rfl) | (rw [← hR1]; rfl) | (rw [← hR0]; rfl)
      have hset2 : R1.set i (encBufN 280 (gBuf g b0)) = encBufN 280 (gBuf g b0) :: bt.map encBuf := by subst h0; first | (rw [← hR0, ← hR1]; rfl) | (rw [← hR1]; rfl) | (rw [← hR0]; rfl)
      have hld : ∀ (h : Heap) (k : Nat), hget h k = some ⟨69, 4, true, R0⟩ → aload T10 h 67 (.ptr k i 3) = some ⟨Wl b0.l, [], [k], []⟩ := load_at hrow rfl
      have hld2 : ∀ (h : Heap) (k : Nat), hget h k = some ⟨69, 4, true, R0⟩ → aload T10 h 26 (.ptr k i 2) = some ⟨Il b0.vals, [], [k], []⟩ := load_at hrow rfl
      have hst := store_atN (cs := [Wl (g b0.l)]) (t := 67) (q := 3) (v := Wl (g b0.l)) (ty := 69) (sz := 4) (cl := true) (cl' := true) (r' := encBuf (gBuf g b0)) rfl rfl hrow rfl (by simp [encBuf]) rfl rfl
      rw [hset] at hst
      have hst2 := store_atN (cs := [.osl 280 0 b0.vals.length]) (t := 26) (q := 2) (v := .osl 280 0 b0.vals.length) (ty := 69) (sz := 4) (cl := true) (cl' := false) (r' := encBufN 280 (gBuf g b0)) rfl rfl hrow2 rfl (by simp [encBuf]) rfl rfl
      rw [hset2] at hst2
      refine AWP.goF hix ?_
      refine AWP.region ?_
      refine AOps.goF hix ?_
      refine AOps.inlineL T10_ok M10_ok rfl rfl (by (simp only [acall, aev, aevs, eget, reduceIte, Nat.reduceEqDiff, Option.getD, List.append_nil, List.nil_append, List.cons_append]) <;> rfl) ⟨Try.func85, rfl, by decide⟩ (by simp [Try.f85]) ?_
      refine AWP.enterF (show Try.f84.ntmps = 20 from rfl) ?_
      have hA := And.intro hld (And.intro hst (And.intro hld2 hst2))
      apply AWP.anyR Zz_mixed
      focus
        (repeat (apply Trace.cons; (focus exact Loc.opF hA); (focus exact applyF hA)))
        (apply Trace.cons; (focus exact Loc.conF (And.intro hcc hck) (hof b0 (by simp))); (focus exact applyA))
        (repeat (apply Trace.cons; (focus exact Loc.opF hA); (focus exact applyF hA)))
        (apply Trace.cons; (focus exact Loc.conA (clone86 b0.vals (hvl _ (by simp)))); (focus exact applyA))
        (repeat (apply Trace.cons; (focus exact Loc.opF hA); (focus exact applyF hA)))
        exact Trace.nil _
      focus kernel_rfl
      simp only [Then]
      refine ⟨trivial, .tup [], rfl, [(280, 8)], rfl, ?_⟩
      simp only [encBufN]
      refine AOps.backF (And.intro (show Try.f84.ntmps = 20 from rfl) convL_bufs) ?_
      refine AOps.goA ?_
      refine AOps.endA ?_
      simp only [Then, InBlock]
      refine AWP.goF hw ?_
      refine ⟨(i + 1, [(56, ⟨69, 4, false, encBufN 8 (gBuf g b0) :: bt.map encBuf⟩), (8, vlObj b0)]), .inr ⟨0, by omega, by omega, by rw [upto_0]; rfl⟩, by show n - (i + 1) < n - i; omega, Thin.to [] rfl rfl rfl rfl rfl (by simp [envIn, eget]) rfl⟩
    · have hjb : j < bt.length := by rw [hlen] at hil; omega
      have hmem : bt[j] ∈ b0 :: bt := List.mem_cons_of_mem _ (List.getElem_mem hjb)
      have hrow : (encBufN 8 (gBuf g b0) :: (upto (gBuf g) bt j).map encBuf)[i]? = some (encBuf bt[j]) := by
        subst hj; rw [List.getElem?_cons_succ]; exact upto_get _ _ _ _ hjb
      have hset : (encBufN 8 (gBuf g b0) :: (upto (gBuf g) bt j).map encBuf).set i (encBuf (gBuf g bt[j])) = encBufN 8 (gBuf g b0) :: (upto (gBuf g) bt (j + 1)).map encBuf := by
        subst hj; rw [List.set_cons_succ, upto_set _ _ _ _ hjb]
      have hrow2 : (encBufN 8 (gBuf g b0) :: (upto (gBuf g) bt (j + 1)).map encBuf)[i]? = some (encBuf (gBuf g bt[j])) := by
        rw [← hset]
        have h1 : (upto (gBuf g) bt j).length = bt.length := upto_len _ _ _ hjl
        rw [List.getElem?_set_self (by simp; omega)]
      have hset2 : (encBufN 8 (gBuf g b0) :: (upto (gBuf g) bt (j + 1)).map encBuf).set i (encBuf (gBuf g bt[j])) = encBufN 8 (gBuf g b0) :: (upto (gBuf g) bt (j + 1)).map encBuf := by
        rw [← hset, List.set_set]
      have hld : ∀ (h : Heap) (k : Nat), hget h k = some ⟨69, 4, false, encBufN 8 (gBuf g b0) :: (upto (gBuf g) bt j).map encBuf⟩ → aload T10 h 67 (.ptr k i 3) = some ⟨Wl bt[j].l, [], [k], []⟩ := load_at hrow rfl
      have hld2 : ∀ (h : Heap) (k : Nat), hget h k = some ⟨69, 4, false, encBufN 8 (gBuf g b0) :: (upto (gBuf g) bt j).map encBuf⟩ → aload T10 h 26 (.ptr k i 2) = some ⟨Il bt[j].vals, [], [k], []⟩ := load_at hrow rfl
      have hst := store_atN (cs := [Wl (g bt[j].l)]) (t := 67) (q := 3) (v := Wl (g bt[j].l)) (ty := 69) (sz := 4) (cl := false) (cl' := false) (r' := encBuf (gBuf g bt[j])) rfl rfl hrow rfl (by simp [encBuf]) rfl rfl
      rw [hset] at hst
      have hst2 := store_atN (cs := [Il bt[j].vals]) (t := 26) (q := 2) (v := Il bt[j].vals) (ty := 69) (sz := 4) (cl := false) (cl' := false) (r' := encBuf (gBuf g bt[j])) rfl rfl hrow2 rfl (by simp [encBuf]) rfl rfl
      rw [hset2] at hst2
      refine AWP.goF hix ?_
      refine AWP.region ?_
      refine AOps.goF hix ?_
      refine AOps.inlineL T10_ok M10_ok rfl rfl (by (simp only [acall, aev, aevs, eget, reduceIte, Nat.reduceEqDiff, Option.getD, List.append_nil, List.nil_append, List.cons_append]) <;> rfl) ⟨Try.func85, rfl, by decide⟩ (by simp [Try.f85]) ?_
      refine AWP.enterF (show Try.f84.ntmps = 20 from rfl) ?_
      have hA := And.intro hld (And.intro hst (And.intro hld2 hst2))
      apply AWP.anyR Zz_mixed
      focus
        (repeat (apply Trace.cons; (focus exact Loc.opF hA); (focus exact applyF hA)))
        (apply Trace.cons; (focus exact Loc.conF (And.intro hcc hck) (hof bt[j] hmem)); (focus exact applyA))
        (repeat (apply Trace.cons; (focus exact Loc.opF hA); (focus exact applyF hA)))
        (apply Trace.cons; (focus exact Loc.conA (clone86C bt[j].vals (hvl _ hmem))); (focus exact applyA))
        (repeat (apply Trace.cons; (focus exact Loc.opF hA); (focus exact applyF hA)))
        exact Trace.nil _
      focus kernel_rfl
      simp only [Then]
      refine ⟨trivial, .tup [], rfl, [], rfl, ?_⟩
      simp only [encBufN]
      refine AOps.backF (And.intro (show Try.f84.ntmps = 20 from rfl) convL_bufs) ?_
      refine AOps.goA ?_
      refine AOps.endA ?_
      simp only [Then, InBlock]
      refine AWP.goF hw ?_
      refine ⟨(i + 1, [(56, ⟨69, 4, false, encBufN 8 (gBuf g b0) :: (upto (gBuf g) bt (j + 1)).map encBuf⟩), (8, vlObj b0)]), .inr ⟨j + 1, by omega, by omega, rfl⟩, by show n - (i + 1) < n - i; omega, Thin.to [] rfl rfl rfl rfl rfl (by simp [envIn, eget]) rfl⟩
  · have hie : i = n := by have h := of_decide_eq_false hc; omega
    rcases hinv with ⟨h0, _⟩ | ⟨j, hj, hjl, rfl⟩
    · rw [h0, hlen] at hie; omega
    · have hjb : j = bt.length := by rw [hlen] at hie; omega
      subst hjb
      refine AWP.goA ?_
      refine AWP.ret ?_
      exact ⟨trivial, [56, 8], by simp, .osl 56 0 n, rfl, rfl, by simp [keepO, hget, convO, convL, convA, idxIn, encBufN, convL_buf, upto_all], rfl⟩
end Go.Qd
