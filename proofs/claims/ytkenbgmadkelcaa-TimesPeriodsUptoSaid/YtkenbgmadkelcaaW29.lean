/- A part of the library of this claim: rules of an abstract machine (values in place of addresses), proved against the model, and contracts of the functions. -/
import Derived.Test.YtkenbgmadkelcaaW28
set_option linter.unusedVariables false
set_option linter.unusedSimpArgs false
set_option maxHeartbeats 8000000
set_option maxRecDepth 10000
namespace Go.Qd
open Go Go.Proofs Go.RowKit
/-- At the loop's head: what the slots hold. -/
structure HI (w : World) (ok : Nat → Prop) (l : Nat) (lb0 lb1 v7 : Value) (n : Nat) (J : World → Prop) (i : Nat) (a : Act) (w' : World) : Prop where
  dfr : a.defers = []
  nt : a.tmps.size = 25
  s0 : a.tmps.getD 0 Go.undef = .func (.yield l) #[] #[]
  s1 : a.tmps.getD 1 Go.undef = lb0
  s2 : a.tmps.getD 2 Go.undef = lb1
  s7 : a.tmps.getD 7 Go.undef = v7
  s8 : a.tmps.getD 8 Go.undef = .int .i64 n
  s9 : a.tmps.getD 9 Go.undef = .int .i64 i
  j : J w'
  kept : Kept ok ok w w'
  size : w.heap.size ≤ w'.heap.size
abbrev hE (p : Part) (F : Nat) (now : Int) (i : Nat) : Env := [(0, .undef), (1, .vptr (paC p)), (2, .vptr [.fn F [] [.vptr [iv now]]]), (7, Pl p.procs), (8, iv p.procs.length), (9, iv i)]
section
variable {w : World} {ok : Nat → Prop} {l : Nat} {lb0 lb1 v7 : Value} {p : Part} {F : Nat} {now : Int} {J : World → Prop}
theorem HI.rel (hok : ∀ b, ok b → b < w.heap.size) (h0 : VRel w ok mu0 (.vptr (paC p)) lb0) (h1 : VRel w ok mu0 (.vptr [.fn F [] [.vptr [iv now]]]) lb1) (h7 : VRel w ok mu0 (Pl p.procs) v7) {i : Nat} {a : Act} {w' : World}
    (h : HI w ok l lb0 lb1 v7 p.procs.length J i a w') : Rel ⟨0, 25, hE p F now i, [], []⟩ a w' ok mu0 := by
  refine ⟨h.dfr, h.nt, fun t x ht => ?_, ⟨fun b hb => Nat.lt_of_lt_of_le (hok b hb) h.size, fun k o h => (by cases h), fun k x h => (by cases h), fun k k' o o' b s s' h => (by cases h)⟩, fun k x h => by cases h⟩
  simp only [hE, eget] at ht
  split at ht
  · rename_i e; subst e; injection ht with ht; subst ht; exact .undef _ _
  split at ht
  · rename_i e; subst e; injection ht with ht; subst ht; rw [h.s1]; exact h0.mono h.kept (.refl _)
  split at ht
  · rename_i e; subst e; injection ht with ht; subst ht; rw [h.s2]; exact h1.mono h.kept (.refl _)
  split at ht
  · rename_i e; subst e; injection ht with ht; subst ht; rw [h.s7]; exact h7.mono h.kept (.refl _)
  split at ht
  · rename_i e; subst e; injection ht with ht; subst ht; rw [h.s8]; exact .int _ _ _
  split at ht
  · rename_i e; subst e; injection ht with ht; subst ht; rw [h.s9]; exact .int _ _ _
  · cases ht
theorem HI.step {n i : Nat} {a a' : Act} {w' w'' : World} (hJ : ∀ X Y, J X → Below X.heap.size X Y → J Y) (h : HI w ok l lb0 lb1 v7 n J i a w') {s' : AS} {ok' : Nat → Prop} {μ' : Mu} (hr : Rel s' a' w'' ok' μ') (hn : s'.nt = 25) (hs : Step 0 [] [] w' ok mu0 s'.heap s'.frz w'' ok' μ')
    (ht : ∀ t ∈ [0, 1, 2, 7, 8, 9], a'.tmps.getD t Go.undef = a.tmps.getD t Go.undef) : HI w ok l lb0 lb1 v7 n J i a' w'' :=
  ⟨hr.dfr, hr.nt.trans hn, (ht 0 (by simp)).trans h.s0, (ht 1 (by simp)).trans h.s1, (ht 2 (by simp)).trans h.s2, (ht 7 (by simp)).trans h.s7, (ht 8 (by simp)).trans h.s8, (ht 9 (by simp)).trans h.s9, hJ _ _ h.j hs.below, h.kept.trans hs.kept.low, Nat.le_trans h.size hs.size⟩
end
theorem Rel.slot {s : AS} {a : Act} {w : World} {ok : Nat → Prop} {μ : Mu} (hr : Rel s a w ok μ) {t : Nat} {x : AV} (hv : VRel w ok μ x (a.tmps.getD t Go.undef)) : Rel { s with env := eput s.env t x } a w ok μ := by
  refine ⟨hr.dfr, hr.nt, fun q y hq => ?_, hr.wf, hr.top⟩
  simp only [eget_eput] at hq
  split at hq
  · rename_i e; subst e; injection hq with hq; subst hq; exact hv
  · exact hr.env q y hq
theorem filter_split {n : Nat} (f : Fin n → Bool) (i : Nat) (hi : i < n) (h : f ⟨i, hi⟩ = true) : ∃ t, ((List.finRange n).take i).filter f ++ [⟨i, hi⟩] ++ t = (List.finRange n).filter f := by
  refine ⟨((List.finRange n).drop (i + 1)).filter f, ?_⟩
  have hxi : (List.finRange n)[i]? = some ⟨i, hi⟩ := by simp [hi]
  have e : (List.finRange n).take (i + 1) = (List.finRange n).take i ++ [⟨i, hi⟩] := by rw [List.take_add_one, hxi]; rfl
  have e2 : ((List.finRange n).take (i + 1)).filter f = ((List.finRange n).take i).filter f ++ [⟨i, hi⟩] := by rw [e, List.filter_append]; simp [h]
  rw [← e2, ← List.filter_append, List.take_append_drop]
/-- times.some's iterator -/
theorem iter97 (p : Part) (F : Nat) (now : Int) (so : Proc → Bool) (hl : p.procs.length ≤ 1000000) (hof : ∀ x : Proc, x ∈ p.procs → Con Try.prog F [.agg (encProc x), .vptr [iv now]] (.bool (so x)) []) :
    IterC Try.prog 97 [.vptr (paC p), .vptr [.fn F [] [.vptr [iv now]]]] p.procs.length (fun k => iv (k : Nat)) (fun k => .agg (encProc p.procs[k])) ((List.finRange p.procs.length).filter fun k => so p.procs[k]) := by
  intro w ok lb hok hlb l J hJ hY hJ0
  obtain ⟨lb0, r0, e0, h0, hr0⟩ := hlb.uncons
  obtain ⟨lb1, r1, e1, h1, hr1⟩ := hr0.uncons
  have e2 := hr1.unnil
  subst e2 e1
  have hlbe : lb = #[lb0, lb1] := by apply Array.ext'; simpa using e0
  subst hlbe
  refine callsIn_wide.2 (calls_of_wp (P := Try.prog) (f := 97) (fn := Try.f97) Try.func97 rfl (cwp_wp rfl ?_))
  have hw0 : Wf [] [] w ok mu0 := ⟨hok, fun k o h => (by cases h), fun k x h => (by cases h), fun k k' o o' b s s' h => (by cases h)⟩
  have hvs : VRels w ok mu0 [.undef, .vptr (paC p), .vptr [.fn F [] [.vptr [iv now]]]] (#[.func (.yield l) #[] #[]] ++ #[lb0, lb1] : Array Value).toList := .cons (.undef _ _) (.cons h0 (.cons h1 .nil))
  have hent := enter_rel (fb := 0) (nt := 25) hw0 (fun k x h => by cases h) hvs (by simp)
  rw [show Try.f97.ntmps = 25 from rfl]
  obtain ⟨T, hT⟩ : ∃ T : Array Value, (#[.func (.yield l) #[] #[]] ++ #[lb0, lb1]) ++ Array.replicate (25 - (#[.func (.yield l) #[] #[]] ++ #[lb0, lb1] : Array Value).size) Go.undef = T := ⟨_, rfl⟩
  rw [hT] at hent ⊢
  have t0 : T.getD 0 Go.undef = .func (.yield l) #[] #[] := by rw [← hT]; simp [Array.getD_eq_getD_getElem?, Array.getElem?_append]
  have t1 : T.getD 1 Go.undef = lb0 := by rw [← hT]; simp [Array.getD_eq_getD_getElem?, Array.getElem?_append]
  have t2 : T.getD 2 Go.undef = lb1 := by rw [← hT]; simp [Array.getD_eq_getD_getElem?, Array.getElem?_append]
  refine cwp_seq (cwp_region_lit ?_)
  refine oList_fieldAddr T10_ok rfl rfl (p := .vptr (paC p)) rfl rfl rfl hent fun u6 v6 => ?_
  have r6 := hent.putVal (t := 6) (by show 6 < 25; decide) v6
  simp only [entryEnv, eput, reduceIte, Nat.reduceEqDiff, Nat.reduceAdd, Nat.zero_add] at r6
  refine oList_load T10_ok rfl rfl rfl rfl r6 fun v7 hv7 => ?_
  have r7 := r6.putVal (t := 7) (by show 7 < 25; decide) hv7
  simp only [eput, reduceIte, Nat.reduceEqDiff] at r7
  refine oListA (N := fun s' => s' = ⟨0, 25, [(0, .undef), (1, .vptr (paC p)), (2, .vptr [.fn F [] [.vptr [iv now]]]), (6, .vptr [Pl p.procs]), (7, Pl p.procs), (8, iv p.procs.length), (9, iv 0)], [], []⟩) ?_ [0, 1, 2, 7] (by simp) r7 ?_
  · refine AOps.goA ?_
    exact AOps.endA rfl
  intro a1 w1 s1 ok1 μ1 hs1 hr1 hst1 ht1
  subst hs1
  have q7 : (((⟨T, []⟩ : Act).put (some 6) u6).put (some 7) v7).tmps.getD 7 Go.undef = v7 := by
    rw [getD_put (by rw [r6.nt]; show 7 < 25; decide), if_pos rfl]
  have q0 : ∀ t, t ≠ 6 → t ≠ 7 → (((⟨T, []⟩ : Act).put (some 6) u6).put (some 7) v7).tmps.getD t Go.undef = T.getD t Go.undef := fun t h6 h7 => by
    rw [put_getD (fun x hx e => by cases hx; exact h7 e.symm), put_getD (fun x hx e => by cases hx; exact h6 e.symm)]
  have hHI : HI w ok l lb0 lb1 v7 p.procs.length (J []) 0 a1 w1 := 
    ⟨hr1.dfr, hr1.nt, (ht1 0 (by simp)).trans ((q0 0 (by decide) (by decide)).trans t0), (ht1 1 (by simp)).trans ((q0 1 (by decide) (by decide)).trans t1), (ht1 2 (by simp)).trans ((q0 2 (by decide) (by decide)).trans t2), (ht1 7 (by simp)).trans q7,
      raw_int hr1 rfl, raw_int hr1 rfl, hJ _ _ _ hJ0 hst1.below, hst1.kept.low, hst1.size⟩
  simp only [Exit.then]
  refine cwp_block (cwp_loop_count (fun i a w' => HI w ok l lb0 lb1 v7 p.procs.length (J (((List.finRange p.procs.length).take i).filter fun k => so p.procs[k])) i a w') p.procs.length ?_ ?_ hHI)
  · intro i a w' hi hh
    have hr := hh.rel hok h0 h1 hv7
    refine cwp_seq (cwp_region_lit (oListA (N := fun s' => s' = ⟨0, 25, hE p F now i ++ [(10, .bool true)], [], []⟩) ?_ [0, 1, 2, 7, 8, 9] (by simp) hr ?_))
    · have hd : decide ((i : Int) < (p.procs.length : Int)) = true := by simpa using hi
      refine AOps.goF hd ?_
      exact AOps.endA rfl
    intro a1 w1 s1 ok1 μ1 hs1 hr1 hst1 ht1
    subst hs1
    simp only [Exit.then]
    have hh1 := hh.step (hJ _) hr1 rfl hst1 ht1
    refine cwp_seq (cwp_cond_split (t := true) (raw_bool hr1 rfl) (fun _ => cwp_skip ?_) (fun h => by cases h))
    simp only [Exit.then]
    have hr' := hh1.rel hok h0 h1 hv7
    obtain ⟨x, hx⟩ : ∃ x, p.procs[i] = x := ⟨_, rfl⟩
    have hix := idx29 (l := p.procs) hi
    have hc := hof x (hx ▸ List.getElem_mem hi)
    rw [hx] at hix
    simp only [encProc] at hix hc
    refine cwp_seq (cwp_block (cwp_seq (cwp_region_lit (oListA (N := fun s' => s' = ⟨0, 25, hE p F now i ++ [(11, iv i), (12, .vptr (encProc x)), (13, .agg (encProc x)), (5, .ptr 40 0 0), (4, iv i)], [(40, ⟨49, 18, true, [encProc x]⟩)], []⟩) ?_ [0, 1, 2, 7, 8, 9] (by simp) hr' ?_))))
    · simp only [encProc]
      refine AOps.goF hix ?_
      exact AOps.endA rfl
    intro a2 w2 s2 ok2 μ2 hs2 hr2 hst2 ht2
    subst hs2
    simp only [Exit.then]
    have hh2 := hh1.step (hJ _) hr2 rfl hst2 ht2
    refine cwp_seq (cwp_region_lit (oList_append _ [_, _, _, _] _ _ (oListA (N := fun s' => s' = ⟨0, 25, hE p F now i ++ [(11, iv i), (12, .vptr (encProc x)), (13, .agg (encProc x)), (5, .ptr 40 0 0), (4, iv i), (14, .fn F [] [.vptr [iv now]]), (15, .agg (encProc x)), (16, .bool (so x)), (17, .bool (so x))], [(40, ⟨49, 18, true, [encProc x]⟩)], []⟩) ?_ [0, 1, 2, 7, 8, 9] (by simp) hr2 ?_)))
    · simp only [encProc]
      refine AOps.goA ?_
      refine AOps.conA hc ?_
      refine AOps.goA ?_
      exact AOps.endA rfl
    intro a3 w3 s3 ok3 μ3 hs3 hr3 hst3 ht3
    subst hs3
    simp only
    have hst13 := hst2.trans hst3
    have ht13 : ∀ t ∈ [0, 1, 2, 7, 8, 9], a3.tmps.getD t Go.undef = a1.tmps.getD t Go.undef := fun t h => (ht3 t h).trans (ht2 t h)
    have hxi : (List.finRange p.procs.length)[i]? = some ⟨i, hi⟩ := by simp [hi]
    have htk : (List.finRange p.procs.length).take (i + 1) = (List.finRange p.procs.length).take i ++ [⟨i, hi⟩] := by
      rw [List.take_add_one, hxi]; rfl
    have hR4 : ∀ {J' : World → Prop} (hJ' : ∀ X Y, J' X → Below X.heap.size X Y → J' Y) {a4 : Act} {w4 : World}, HI w ok l lb0 lb1 v7 p.procs.length J' i a4 w4 → cwp Try.prog (.region 4 #[{ dst := some 24, op := Op.binOp BinOp.add 3 (Operand.tmp 9) (Operand.const (Value.int IntKind.i64 1)) 3, type := 3, pos := "times.go:14", after := #[], guard := none },
                      { dst := some 9, op := Op.move (Operand.tmp 24), type := 3, pos := "times.go:14",
                        after := #[{ on := 0, ground := Ground.data }], guard := none }] false) (fun e a' w' => e = .normal ∧ HI w ok l lb0 lb1 v7 p.procs.length J' (i + 1) a' w') a4 w4 := by
      intro J' hJ' a4 w4 hh4
      have hr4 := hh4.rel hok h0 h1 hv7
      have hw := wrap_succ (show i < 9223372036854775807 by omega)
      refine cwp_region_lit (oListA (N := fun s' => s' = ⟨0, 25, [(0, .undef), (1, .vptr (paC p)), (2, .vptr [.fn F [] [.vptr [iv now]]]), (7, Pl p.procs), (8, iv p.procs.length), (9, iv (i + 1 : Nat)), (24, iv (i + 1 : Nat))], [], []⟩) ?_ [0, 1, 2, 7, 8] (by simp) hr4 ?_)
      · refine AOps.goF hw ?_
        exact AOps.endA rfl
      intro a5 w5 s5 ok5 μ5 hs5 hr5 hst5 ht5
      subst hs5
      exact ⟨rfl, hr5.dfr, hr5.nt, (ht5 0 (by simp)).trans hh4.s0, (ht5 1 (by simp)).trans hh4.s1, (ht5 2 (by simp)).trans hh4.s2, (ht5 7 (by simp)).trans hh4.s7, (ht5 8 (by simp)).trans hh4.s8, raw_int hr5 rfl, hJ' _ _ hh4.j hst5.below, hh4.kept.trans hst5.kept.low, Nat.le_trans hh4.size hst5.size⟩
    by_cases hso : so x = true
    · rw [hso] at hr3 hst13
      have r4 := hr3.putFree (t := 18) rfl (a3.eval (.tmp 0))
      have r5 := r4.putFree (t := 19) rfl ((a3.put (some 18) (a3.eval (.tmp 0))).eval (.tmp 4))
      refine oList_move rfl (yielded_of hr3 rfl) rfl ?_
      refine oList_move rfl (yielded_of r4 rfl) rfl ?_
      refine oList_append _ [_] _ _ ?_
      refine oListA (N := fun s' => s' = ⟨0, 25, hE p F now i ++ [(11, iv i), (12, .vptr (encProc x)), (13, .agg (encProc x)), (5, .ptr 40 0 0), (4, iv i), (14, .fn F [] [.vptr [iv now]]), (15, .agg (encProc x)), (16, .bool true), (17, .bool true), (20, .agg (encProc x))], [(40, ⟨49, 18, true, [encProc x]⟩)], []⟩) ?_ [0, 1, 2, 7, 8, 9, 18, 19] (by simp) r5 ?_
      · refine AOps.goA ?_
        exact AOps.endA rfl
      intro a6 w6 s6 ok6 μ6 hs6 hr6 hst6 ht6
      subst hs6
      simp only
      have q6 : ∀ t ∈ [0, 1, 2, 7, 8, 9], a6.tmps.getD t Go.undef = a3.tmps.getD t Go.undef := fun t h => by
        refine (ht6 t (by simp at h ⊢; omega)).trans ?_
        rw [put_getD (fun y hy e => by cases hy; subst e; simp at h), put_getD (fun y hy e => by cases hy; subst e; simp at h)]
      have hh6 := hh1.step (hJ _) hr6 rfl (hst13.trans hst6) (fun t h => (q6 t h).trans (ht13 t h))
      have e18 : a6.tmps.getD 18 Go.undef = .func (.yield l) #[] #[] := by
        refine (ht6 18 (by simp)).trans ?_
        rw [put_getD (fun y hy e => by cases hy; cases e), getD_put (by rw [hr3.nt]; show 18 < 25; decide), if_pos rfl]
        exact (ht13 0 (by simp)).trans hh1.s0
      have e19 : a6.tmps.getD 19 Go.undef = .int .i64 i := by
        refine (ht6 19 (by simp)).trans ?_
        rw [getD_put (by rw [r4.nt]; show 19 < 25; decide), if_pos rfl]
        show (a3.put (some 18) (a3.eval (.tmp 0))).tmps.getD 4 Go.undef = _
        rw [put_getD (fun y hy e => by cases hy; cases e)]
        exact raw_int hr3 rfl
      have v20 : VRel w6 ok6 μ6 (.agg (encProc x)) (a6.tmps.getD 20 Go.undef) := hr6.env 20 _ rfl
      obtain ⟨v, hv⟩ : ∃ v, a6.tmps.getD 20 Go.undef = v := ⟨_, rfl⟩
      rw [hv] at v20
      refine oList_yield rfl (yielded_of hr6 rfl) rfl e18 e19 hv ?_
      obtain ⟨fn', tmps', assign', body', y1, y2⟩ := hY _ ⟨i, hi⟩ w6 (.int .i64 i) v (filter_split (fun k => so p.procs[k]) i hi (by show so p.procs[i] = true; rw [hx]; exact hso)) hh6.j (fun _ _ _ => .int _ _ _) (fun w' ok' μ' => by
        show VRel w' ok' μ' (.agg (encProc p.procs[i])) v
        rw [hx]
        exact v20.flat rfl _ _ _)
      refine ⟨fn', tmps', assign', body', y1, RoundIn.mono y2 fun e Y he => ?_⟩
      obtain ⟨rfl, jY, bY, kY⟩ := he
      simp only
      have z6 : ∀ t ∈ [0, 1, 2, 7, 8, 9], (a6.put (some 21) (.bool true)).tmps.getD t Go.undef = a6.tmps.getD t Go.undef := fun t h => put_getD (fun y hy e => by cases hy; subst e; simp at h)
      have hhY : HI w ok l lb0 lb1 v7 p.procs.length (J (((List.finRange p.procs.length).take i).filter (fun k => so p.procs[k]) ++ [⟨i, hi⟩])) i (a6.put (some 21) (.bool true)) Y :=
        ⟨hh6.dfr, by simp [Act.put, hh6.nt], (z6 0 (by simp)).trans hh6.s0, (z6 1 (by simp)).trans hh6.s1, (z6 2 (by simp)).trans hh6.s2, (z6 7 (by simp)).trans hh6.s7, (z6 8 (by simp)).trans hh6.s8, (z6 9 (by simp)).trans hh6.s9, jY, hh6.kept.trans kY, Nat.le_trans hh6.size bY.size⟩
      have rY := hhY.rel hok h0 h1 hv7
      have rY1 := rY.slot (t := 17) (x := .bool true) (by rw [put_getD (fun y hy e => by cases hy; cases e), raw_bool hr6 (t := 17) rfl]; exact .bool _ _)
      have rY2 := rY1.slot (t := 21) (x := .bool true) (by rw [getD_put (by rw [hr6.nt]; show 21 < 25; decide), if_pos rfl]; exact .bool _ _)
      simp only [hE, eput, reduceIte, Nat.reduceEqDiff] at rY2
      refine oListA (N := fun s' => s'.nt = 25 ∧ eget s'.env 23 = some (.bool false)) ?_ [0, 1, 2, 7, 8, 9] (by simp) rY2 ?_
      · refine AOps.goA ?_
        exact AOps.endA ⟨rfl, rfl⟩
      intro a4 w4 s4 ok4 μ4 hs4 hr4 hst4 ht4
      have hh4 := hhY.step (hJ _) hr4 hs4.1 hst4 ht4
      simp only [Exit.then]
      refine cwp_cond_split (t := false) (raw_bool hr4 hs4.2) (fun h => by cases h) (fun _ => cwp_skip ?_)
      simp only [Exit.inBlock]
      refine cwp_mono (hR4 (hJ _) hh4) fun e a5 w5 h5 => ?_
      obtain ⟨rfl, h5⟩ := h5
      simp only [Exit.then]
      have hsp : so p.procs[i] = true := by rw [hx]; exact hso
      rw [htk, List.filter_append]
      simpa [hsp] using h5
    · have hso : so x = false := by simpa using hso
      rw [hso] at hr3 hst13
      refine oListA (N := fun s' => s'.nt = 25 ∧ eget s'.env 23 = some (.bool false)) ?_ [0, 1, 2, 7, 8, 9] (by simp) hr3 ?_
      · refine AOps.goA ?_
        exact AOps.endA ⟨rfl, rfl⟩
      intro a4 w4 s4 ok4 μ4 hs4 hr4 hst4 ht4
      have hh4 := hh1.step (hJ _) hr4 hs4.1 (hst13.trans hst4) (fun t h => (ht4 t h).trans (ht13 t h))
      simp only [Exit.then]
      refine cwp_cond_split (t := false) (raw_bool hr4 hs4.2) (fun h => by cases h) (fun _ => cwp_skip ?_)
      simp only [Exit.inBlock]
      refine cwp_mono (hR4 (hJ _) hh4) fun e a5 w5 h5 => ?_
      obtain ⟨rfl, h5⟩ := h5
      simp only [Exit.then]
      have hsp : so p.procs[i] = false := by rw [hx]; exact hso
      rw [htk, List.filter_append]
      simpa [hsp] using h5
  · intro a w' hh
    have hr := hh.rel hok h0 h1 hv7
    refine cwp_seq (cwp_region_lit (oListA (N := fun s' => s' = ⟨0, 25, hE p F now p.procs.length ++ [(10, .bool false)], [], []⟩) ?_ [0, 1, 2, 7, 8, 9] (by simp) hr ?_))
    · have hd : decide ((p.procs.length : Int) < (p.procs.length : Int)) = false := by simp
      refine AOps.goF hd ?_
      exact AOps.endA rfl
    intro a1 w1 s1 ok1 μ1 hs1 hr1 hst1 ht1
    subst hs1
    simp only [Exit.then]
    have hh1 := hh.step (hJ _) hr1 rfl hst1 ht1
    refine cwp_seq (cwp_cond_split (t := false) (raw_bool hr1 rfl) (fun h => by cases h) (fun _ => cwp_exit ?_))
    simp only [Exit.then, Exit.inBlock, reduceIte]
    have hj := hh1.j
    rw [List.take_of_length_le (by simp)] at hj
    exact ⟨hr1.dfr, _, results_none rfl _ _ _, ⟨_, rfl⟩, hj⟩
end Go.Qd
