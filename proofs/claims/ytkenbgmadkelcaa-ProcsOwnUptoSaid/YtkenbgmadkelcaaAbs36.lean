/- A part of the library of this claim: rules of an abstract machine (values in place of addresses), proved against the model, and contracts of the functions. -/
import Derived.Test.YtkenbgmadkelcaaQaC
set_option linter.unusedVariables false
set_option linter.unusedSimpArgs false
namespace Go.Qd
open Go Go.RowKit
variable {P : Program}
/-! ### What a callee hands over may hold places of what it hands over -/
def renO (base : Nat) (o : AObj) : AObj := if o.closed = true then o else { o with rows := o.rows.map (renL base) }
theorem renO_ty (base : Nat) (o : AObj) : (renO base o).ty = o.ty := by unfold renO; split <;> rfl
theorem renO_sz (base : Nat) (o : AObj) : (renO base o).sz = o.sz := by unfold renO; split <;> rfl
theorem renO_len (base : Nat) (o : AObj) : (renO base o).rows.length = o.rows.length := by unfold renO; split <;> simp
theorem renO_nil (base : Nat) (o : AObj) : (renO base o).rows = [] ↔ o.rows = [] := by unfold renO; split <;> simp
theorem RowsRel.renO {w : World} {ok : Nat → Prop} {μ μ' : Mu} {o : AObj} {cs : Array Value} (h : RowsRel w ok (o.mu μ) o.sz o.rows cs) (base : Nat) (hm : ∀ k x, μ k = some x → μ' (base + k) = some x) :
    RowsRel w ok ((renO base o).mu μ') o.sz (renO base o).rows cs := by
  unfold Go.Qd.renO
  by_cases hc : o.closed = true
  · rw [if_pos hc]
    unfold AObj.mu at h ⊢
    rw [if_pos hc] at h ⊢
    exact h
  · rw [if_neg hc]
    unfold AObj.mu at h ⊢
    rw [if_neg hc] at h
    simp only [hc, if_false]
    refine ⟨fun j hj => ?_, fun j hj q hq => ?_⟩
    · simp only [List.getElem_map, renL_len]
      exact h.len j (by simpa using hj)
    · simp only [List.getElem_map, renL_get] at hq ⊢
      rw [renL_len] at hq
      obtain ⟨u, h1, h2⟩ := h.at_ j (by simpa using hj) q hq
      exact ⟨u, h1, h2.ren base hm⟩
def AS.gaveN (s : AS) (dst : Option Tmp) (base : Nat) (ks : List Nat) (r : AV) (objs : List AObj) : AS :=
  { fb := s.fb, nt := s.nt, env := (match dst with | some d => eput s.env d (renA base r) | none => s.env), heap := s.heap ++ enumH base (objs.map (renO base)), frz := ks ++ s.frz }
theorem gave_relN {s : AS} {a : Act} {w w' : World} {ok ok' : Nat → Prop} {μ μ' : Mu} {ks : List Nat} (hr : Rel s a w ok μ) {objs : List AObj} (hwo : Wf (enumH 0 objs) [] w' ok' μ') (hs : Step 0 [] [] w (okF ok μ ks) mu0 (enumH 0 objs) [] w' ok' μ')
    {base : Nat} (hfree : freeKeys s base objs.length = true) (hfk : ∀ i, i < objs.length → base + i ∉ ks) {r : AV} {v : Value} (hv : VRel w' ok' μ' r v) (dst : Option Tmp) (hd : ∀ d, dst = some d → d < s.nt) :
    ∃ μ2, Rel (s.gaveN dst base ks r objs) (a.put dst v) w' ok' μ2 ∧ Step s.fb s.heap s.frz w ok μ (s.gaveN dst base ks r objs).heap (s.gaveN dst base ks r objs).frz w' ok' μ2 := by
  obtain ⟨hr1, hkp1, hst1⟩ := hr.freeze ks
  have hfr : ∀ i, i < objs.length → hget s.heap (base + i) = none ∧ base + i < s.top ∧ s.fb ≤ base + i ∧ base + i ∉ s.frz := fun i hi => by
    unfold freeKeys at hfree
    rw [List.all_eq_true] at hfree
    exact freeKey_spec (hfree i (List.mem_range.2 hi))
  have hnone : ∀ i, i < objs.length → μ (base + i) = none := fun i hi => by
    cases hm : μ (base + i) with
    | none => rfl
    | some x => obtain ⟨o, ho⟩ := hr.wf.dom _ x hm; rw [(hfr i hi).1] at ho; cases ho
  let μ2 : Mu := fun k => if base ≤ k ∧ k < base + objs.length then μ' (k - base) else μ k
  have hin : ∀ i, i < objs.length → μ2 (base + i) = μ' i := fun i hi => by
    show (if _ then _ else _) = _
    rw [if_pos (by omega)]; congr 1; omega
  have hout : ∀ k, ¬ (base ≤ k ∧ k < base + objs.length) → μ2 k = μ k := fun k hk => if_neg hk
  have hle : MuLe μ μ2 := fun k x hx => by
    by_cases e : base ≤ k ∧ k < base + objs.length
    · have := hnone (k - base) (by omega)
      rw [show base + (k - base) = k by omega] at this
      rw [this] at hx; cases hx
    · rw [hout k e]; exact hx
  have hdomE : ∀ k x, μ' k = some x → k < objs.length := fun k x hx => by
    obtain ⟨o, ho⟩ := hwo.dom k x hx
    rw [hget_enum, if_pos (Nat.zero_le _), Nat.sub_zero] at ho
    exact (List.getElem?_eq_some_iff.1 ho).1
  have hle' : ∀ k x, μ' k = some x → μ2 (base + k) = some x := fun k x hx => by rw [hin k (hdomE k x hx)]; exact hx
  have hheap : ∀ k, hget (s.heap ++ enumH base (objs.map (renO base))) k = if base ≤ k ∧ k < base + objs.length then (objs[k - base]?).map (renO base) else hget s.heap k := by
    intro k
    rw [hget_append, hget_enum]
    by_cases e : base ≤ k ∧ k < base + objs.length
    · rw [if_pos e, if_pos e.1]
      have := (hfr (k - base) (by omega)).1
      rw [show base + (k - base) = k by omega] at this
      rw [this, List.getElem?_map]
    · rw [if_neg e]
      cases hk : hget s.heap k with
      | some o => rfl
      | none =>
        simp only
        split
        · rename_i hb; rw [List.getElem?_eq_none (by simp; omega)]
        · rfl
  have hbelow := hs.below
  have hblk : ∀ k o b sz, hget s.heap k = some o → μ k = some (b, sz) → b < w.heap.size := fun k o b sz ho hm => by
    rcases hr.wf.obj k o ho with ⟨b', cs', h1, h2, _⟩ | ⟨_, h1⟩
    · rw [h1] at hm; injection hm with hm; injection hm with hm _; subst hm
      exact (Array.getElem?_eq_some_iff.1 h2).1
    · rw [h1] at hm; cases hm
  have hblkE : ∀ i o b sz, objs[i]? = some o → μ' i = some (b, sz) → w.heap.size ≤ b := fun i o b sz ho hm => by
    rcases hs.own b ⟨i, o, sz, by rw [hget_enum, if_pos (Nat.zero_le _), Nat.sub_zero]; exact ho, by simp, hm⟩ with ⟨_, _, _, h, _⟩ | h
    · cases h
    · exact h
  have hkp : Kept (okF ok μ ks) ok' w w' := hs.kept
  have hkpa : Kept ok ok' w w' := hkp1.trans hkp
  have henv : ∀ t x, eget s.env t = some x → VRel w' ok' μ2 x (a.tmps.getD t Go.undef) := fun t x hx => (hr.env t x hx).mono hkpa hle
  refine ⟨μ2, ⟨?_, ?_, fun t x hx => ?_, ⟨hwo.okb, fun k o ho => ?_, fun k x hx => ?_, fun k1 k2 o1 o2 b s1 s2 h1 h2 h3 h4 => ?_⟩, fun k x hx => ?_⟩, ⟨hkpa, hs.os, hs.tape, hs.output, hs.size, fun b hb hn => hbelow.block b hb, ?_, ?_, fun k x hk hx => hle k x hx⟩⟩
  · cases dst <;> exact hr.dfr
  · cases dst with
    | none => exact hr.nt
    | some d => simp [Act.put, AS.gaveN, hr.nt]
  · cases dst with
    | none => exact henv t x hx
    | some d =>
      simp only [AS.gaveN, eget_eput] at hx
      rw [getD_put (by rw [hr.nt]; exact hd d rfl)]
      split at hx
      · rename_i e; rw [if_pos e]; injection hx with hx; subst hx; exact hv.ren base hle'
      · rename_i e; rw [if_neg e]; exact henv t x hx
  · simp only [AS.gaveN, hheap] at ho ⊢
    split at ho
    · rename_i e
      obtain ⟨o0, ho0, rfl⟩ := Option.map_eq_some_iff.1 ho
      rw [renO_ty, renO_sz, renO_len]
      rcases hwo.obj (k - base) o0 (by rw [hget_enum, if_pos (Nat.zero_le _), Nat.sub_zero]; exact ho0) with ⟨b, cs, g1, g2, g3, g4, g5, g6⟩ | ⟨g1, g2⟩
      · have hkk : base + (k - base) = k := by omega
        refine .inl ⟨b, cs, by rw [← hkk, hle' _ _ g1], g2, g3, fun _ => g4 (by simp), fun hz => ?_, ?_⟩
        · simp only [List.mem_append] at hz
          rcases hz with hz | hz
          · exact absurd hz (by rw [← hkk]; exact hfk _ (by omega))
          · exact absurd hz (by rw [← hkk]; exact (hfr _ (by omega)).2.2.2)
        · exact g6.renO base hle'
      · refine .inr ⟨by rw [renO_nil]; exact g1, ?_⟩
        have := hin (k - base) (by omega)
        rw [show base + (k - base) = k by omega] at this
        rw [this]; exact g2
    · rename_i e
      rcases hr1.wf.obj k o ho with ⟨b, cs, g1, g2, g3, g4, g5, g6⟩ | ⟨g1, g2⟩
      · have hb := hblk k o b o.sz ho g1
        refine .inl ⟨b, cs, hle _ _ g1, by rw [hbelow.block b hb]; exact g2, g3, fun hz hb2 => ?_, fun hz => hkp.okLe b (g5 hz), g6.mono hkp (AObj.mu_le o hle)⟩
        rcases hs.okNew b hb2 with h | ⟨_, _, _, h, _⟩ | h
        · exact g4 hz h
        · cases h
        · omega
      · exact .inr ⟨g1, by rw [hout k e]; exact g2⟩
  · simp only [AS.gaveN, hheap]
    by_cases e : base ≤ k ∧ k < base + objs.length
    · rw [if_pos e, List.getElem?_eq_getElem (by omega)]; exact ⟨_, rfl⟩
    · rw [if_neg e]
      rw [hout k e] at hx
      exact hr.wf.dom k x hx
  · simp only [AS.gaveN, hheap] at h1 h2
    by_cases e1 : base ≤ k1 ∧ k1 < base + objs.length <;> by_cases e2 : base ≤ k2 ∧ k2 < base + objs.length
    · rw [if_pos e1] at h1
      rw [if_pos e2] at h2
      obtain ⟨o1, h1', rfl⟩ := Option.map_eq_some_iff.1 h1
      obtain ⟨o2, h2', rfl⟩ := Option.map_eq_some_iff.1 h2
      have q1 := hin (k1 - base) (by omega)
      have q2 := hin (k2 - base) (by omega)
      rw [show base + (k1 - base) = k1 by omega, h3] at q1
      rw [show base + (k2 - base) = k2 by omega, h4] at q2
      have := hwo.inj (k1 - base) (k2 - base) o1 o2 b s1 s2 (by rw [hget_enum, if_pos (Nat.zero_le _), Nat.sub_zero]; exact h1') (by rw [hget_enum, if_pos (Nat.zero_le _), Nat.sub_zero]; exact h2') q1.symm q2.symm
      omega
    · rw [if_pos e1] at h1
      rw [if_neg e2] at h2
      obtain ⟨o1, h1', rfl⟩ := Option.map_eq_some_iff.1 h1
      have q1 := hin (k1 - base) (by omega)
      rw [show base + (k1 - base) = k1 by omega, h3] at q1
      rw [hout k2 e2] at h4
      have a1 := hblkE _ o1 b s1 h1' q1.symm
      have a2 := hblk k2 o2 b s2 h2 h4
      omega
    · rw [if_neg e1] at h1
      rw [if_pos e2] at h2
      obtain ⟨o2, h2', rfl⟩ := Option.map_eq_some_iff.1 h2
      have q2 := hin (k2 - base) (by omega)
      rw [show base + (k2 - base) = k2 by omega, h4] at q2
      rw [hout k1 e1] at h3
      have a1 := hblkE _ o2 b s2 h2' q2.symm
      have a2 := hblk k1 o1 b s1 h1 h3
      omega
    · rw [if_neg e1] at h1
      rw [if_neg e2] at h2
      rw [hout k1 e1] at h3
      rw [hout k2 e2] at h4
      exact hr.wf.inj k1 k2 o1 o2 b s1 s2 h1 h2 h3 h4
  · by_cases e : base ≤ k ∧ k < base + objs.length
    · have := (hfr (k - base) (by omega)).2.1
      show k < s.top
      omega
    · rw [hout k e] at hx; exact hr.top k x hx
  · intro b hb
    rcases hs.okNew b hb with h | ⟨_, _, _, h, _⟩ | h
    · exact hst1.okNew b h
    · cases h
    · exact .inr (.inr h)
  · rintro b ⟨k, o, sz, h1, h2, h3⟩
    simp only [AS.gaveN, hheap, List.mem_append, not_or] at h1 h2
    by_cases e : base ≤ k ∧ k < base + objs.length
    · rw [if_pos e] at h1
      obtain ⟨o, h1', rfl⟩ := Option.map_eq_some_iff.1 h1
      have q1 := hin (k - base) (by omega)
      rw [show base + (k - base) = k by omega, h3] at q1
      exact .inr (hblkE _ o b sz h1' q1.symm)
    · rw [if_neg e] at h1
      rw [hout k e] at h3
      exact .inl ⟨k, o, sz, h1, h2.2, h3⟩


theorem icall_callsN {s : AS} {a : Act} {w : World} {ok : Nat → Prop} {μ : Mu} (hr : Rel s a w ok μ) {f : FuncId} {l : List AV} {vals : Array Value} (hv : VRels w ok μ l vals.toList) {r : AV} {objs : List AObj} (hc : ICall P f (closeL s.heap l) r objs)
    {base : Nat} (hfree : freeKeys s base objs.length = true) (hfk : (List.range objs.length).all (fun i => !(keysL l).contains (base + i)) = true) (dst : Option Tmp) (hd : ∀ d, dst = some d → d < s.nt) :
    Calls P f vals w fun e w' => ∃ v ok' μ', e = .returned v ∧ Rel (s.gaveN dst base (keysL l) r objs) (a.put dst v) w' ok' μ' ∧ Step s.fb s.heap s.frz w ok μ (s.gaveN dst base (keysL l) r objs).heap (s.gaveN dst base (keysL l) r objs).frz w' ok' μ' := by
  obtain ⟨hr1, hkp1, hst1⟩ := hr.freeze (keysL l)
  have hvals : VRels w (okF ok μ (keysL l)) mu0 (closeL s.heap l) vals.toList := ⟨by rw [closeL_len]; exact hv.len, fun i h1 h2 => by
    rw [closeL_get]
    exact (hv.at_ i _ h2).close hr.wf hkp1 (fun k hk b sz hm => .inr ⟨k, sz, keysL_get _ hk, hm⟩)⟩
  refine Calls.mono (hc w _ vals hr1.wf.okb hvals) fun e w' he => ?_
  obtain ⟨v, ok', μ', rfl, h1, h2, h3⟩ := he
  rw [List.all_eq_true] at hfk
  obtain ⟨μ2, g1, g2⟩ := gave_relN hr h2 h3 hfree (fun i hi => by
    have := hfk i (List.mem_range.2 hi)
    simpa using this) h1 dst hd
  exact ⟨v, ok', μ2, rfl, g1, g2⟩
theorem AOps.conN {M : Meths} (hM : MOk P M) {ops : Array Oper} {o : Oper} {rest : List Oper} {s : AS} {N : AS → Prop} {f : FuncId} {cl : List AV} {r : AV} {objs : List AObj} (hc : Con P f cl r objs) (hg : o.guard = none) (hd : dstOk s o.dst = true) {l : List AV} (hca : acall M s.env o.op = some (f, l))
    (hcl' : closeL s.heap l = cl) {base : Nat} (hb : s.key o.dst = base) (hfree : freeKeys s base objs.length = true) (hfk : (List.range objs.length).all (fun i => !(keysL l).contains (base + i)) = true)
    {s' : AS} (hs : s.gaveN o.dst base (keysL l) r objs = s') (hn : AOps P ops rest s' N) : AOps P ops (o :: rest) s N := by
  obtain ⟨⟨fn, c, hf⟩, hi⟩ := hc
  subst hs; subst hcl'
  intro a w ok μ hr
  obtain ⟨vals, hrun, hvals⟩ := acall_enters hM hf hca a w ok μ hr
  refine oList_plain hg fun K hK => ?_
  unfold oOp
  rw [hrun]
  simp only [oupon]
  refine Calls.mono (icall_callsN hr hvals hi hfree hfk o.dst (dstOk_spec hd)) fun e w1 he => ?_
  obtain ⟨v, ok', μ', rfl, hrel, hst⟩ := he
  exact hK _ _ (hn.after (s := s) rfl rfl hrel hst)
def callOutN (base : Nat) (ks : List Nat) (r : AV) (objs : List AObj) : Out := ⟨renA base r, enumH base (objs.map (renO base)), ks, ks⟩
theorem gave_eqvN {s : AS} {dst : Option Tmp} {base : Nat} {ks : List Nat} {r : AV} {objs : List AObj} (hfree : freeKeys s base objs.length = true) : (s.gaveN dst base ks r objs).Eqv (s.apply dst (callOutN base ks r objs)) := by
  refine ⟨rfl, rfl, fun t => rfl, fun k => ?_, fun k => ?_⟩
  · simp only [AS.apply, AS.gaveN, callOutN]
    rw [hget_hputs_enum s.heap, hget_append, hget_enum, List.length_map]
    by_cases e : base ≤ k ∧ k < base + objs.length
    · rw [if_pos e, if_pos e.1]
      have : hget s.heap k = none := by
        unfold freeKeys at hfree
        rw [List.all_eq_true] at hfree
        have := (freeKey_spec (hfree (k - base) (List.mem_range.2 (by omega)))).1
        rwa [show base + (k - base) = k by omega] at this
      rw [this]
    · rw [if_neg e]
      cases hget s.heap k with
      | some o => rfl
      | none =>
        simp only
        split
        · rename_i hb; rw [List.getElem?_eq_none (by simp; omega)]
        · rfl
  · simp [AS.apply, AS.gaveN, callOutN]
theorem Loc.icallN {M : Meths} (hM : MOk P M) {ops : Array Oper} {o : Oper} {s : AS} (hg : o.guard = none) (hd : dstOk s o.dst = true) {f : FuncId} {l : List AV} (hca : acall M s.env o.op = some (f, l))
    {fn : Func} {c : Code} (hf : FnIs P f fn c) {r : AV} {objs : List AObj} {cl : List AV} (hcl' : closeL s.heap l = cl) (hc : ICall P f cl r objs) {base : Nat} (hfree : freeKeys s base objs.length = true) (hfk : (List.range objs.length).all (fun i => !(keysL l).contains (base + i)) = true)
    {out : Out} (hout : callOutN base (keysL l) r objs = out) : Loc P ops o out s := by
  intro i ho s' hA a w ok μ hr K Q hK
  subst hout; subst hcl'
  obtain ⟨vals, hrun, hvals⟩ := acall_enters hM hf (acall_loc hA hca) a w ok μ hr
  have hcl2 : closeL s'.heap l = closeL s.heap l := closeL_loc l fun k hk => hA.heap k (.inl hk)
  have hfree' : freeKeys s' base objs.length = true := by
    unfold freeKeys at hfree ⊢
    rw [List.all_eq_true] at hfree ⊢
    intro j hj
    have hj' := List.mem_range.1 hj
    have hk : base + j ∈ keysU (callOutN base (keysL l) r objs) := (keysU_enum _ base _).2 ⟨by omega, by simp; omega⟩
    rw [freeKey_loc hA.fb hA.nt (hA.heap _ (.inr hk)) (hA.frz _ hk)]
    exact hfree j hj
  unfold oOpI
  rw [ho]
  simp only
  rw [if_pos (by simp [Region.wanted, hg])]
  unfold oOp
  rw [hrun]
  simp only [oupon]
  refine Calls.mono (icall_callsN hr hvals (hcl2 ▸ hc) hfree' hfk o.dst (dstOk_spec (by rw [dstOk_loc hA.nt]; exact hd))) fun e w1 he => ?_
  obtain ⟨v, ok', μ', rfl, hrel, hst⟩ := he
  exact hK _ _ ok' μ' (hrel.eqv (gave_eqvN hfree')) (hst.eqv (gave_eqvN hfree'))
theorem Loc.conN {M : Meths} (hM : MOk P M) {ops : Array Oper} {o : Oper} {s : AS} {f : FuncId} {cl : List AV} {r : AV} {objs : List AObj} (hc : Con P f cl r objs) (hg : o.guard = none) (hd : dstOk s o.dst = true) {l : List AV} (hca : acall M s.env o.op = some (f, l))
    (hcl' : closeL s.heap l = cl) {base : Nat} (hb : s.key o.dst = base) (hfree : freeKeys s base objs.length = true) (hfk : (List.range objs.length).all (fun i => !(keysL l).contains (base + i)) = true)
    {out : Out} (hout : callOutN base (keysL l) r objs = out) : Loc P ops o out s := by
  obtain ⟨⟨fn, c, hf⟩, hi⟩ := hc
  exact Loc.icallN hM hg hd hca hf hcl' hi hfree hfk hout
end Go.Qd
