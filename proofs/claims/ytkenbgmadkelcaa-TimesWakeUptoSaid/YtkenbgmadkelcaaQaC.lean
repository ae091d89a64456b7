/- A part of the library of this claim: rules of an abstract machine (values in place of addresses), proved against the model, and contracts of the functions. -/
import Derived.Test.YtkenbgmadkelcaaQaB
import Derived.Lib.AppendZerosOnto
import Derived.Lib.Overlaps
import Derived.Laws.Externs
import Derived.LoopN
import Derived.RangeFuncLeaves
import GoSem.ClaimJoined
import Derived.JoinedOf
import Derived.KernelRfl
import Derived.OpenShut
import Derived.Carry
import Derived.ChangeOld
import Derived.WideShapes
set_option linter.unusedVariables false
set_option linter.unusedSimpArgs false
namespace Go.Qd
open Go Go.RowKit
variable {P : Program}

/-! ### What an operation comes to hangs only on what it looks at -/
theorem freeKey_loc {s s' : AS} {k : Nat} (hfb : s'.fb = s.fb) (hnt : s'.nt = s.nt) (hh : hget s'.heap k = hget s.heap k) (hz : k ∈ s'.frz ↔ k ∈ s.frz) : freeKey s' k = freeKey s k := by
  unfold freeKey AS.top
  rw [hfb, hnt, hh]
  congr 2
  by_cases h : k ∈ s.frz
  · have h' := hz.2 h
    simp [h, h']
  · have h' : k ∉ s'.frz := fun x => h (hz.1 x)
    simp [h, h']
theorem cellsAt_loc {h h' : Heap} {p : AV} {cs : List AV} {rd : List Nat} (hc : cellsAt h p = some (cs, rd)) (hh : ∀ k, k ∈ rd → hget h' k = hget h k) : cellsAt h' p = some (cs, rd) := by
  cases p <;> simp only [cellsAt] at hc ⊢ <;> try exact hc
  rename_i k j q
  cases hk : hget h k with
  | none => rw [hk] at hc; cases hc
  | some o =>
    rw [hk] at hc
    simp only at hc
    split at hc
    · rename_i row hr
      injection hc with hc
      injection hc with e1 e2
      subst e1; subst e2
      rw [hh k (by simp), hk]
      simp only [hr]
    · cases hc
theorem aload_loc {T : Tab} {h h' : Heap} {t : Nat} {p : AV} {out : Out} (hc : aload T h t p = some out) (hh : ∀ k, k ∈ out.rd → hget h' k = hget h k) : aload T h' t p = some out := by
  unfold aload at hc ⊢
  split at hc
  · rename_i i cs rd ht hcs
    split at hc
    · rename_i v hv
      injection hc with hc; subst hc
      rw [cellsAt_loc hcs hh]
      simp only [ht, hv]
    · cases hc
  · cases hc
theorem keySize_loc {h h' : Heap} {p : AV} {sz : Nat} (hh : ∀ k, k ∈ keysP p → hget h' k = hget h k) : keySize h' p sz = keySize h p sz := by
  cases p <;> simp only [keySize]
  rename_i k j n
  rw [hh k (by simp [keysP])]
theorem arows_loc {h h' : Heap} {sz : Nat} {x : AV} {rows : List (List AV)} {rd : List Nat} {cl : Bool} (hc : arows h sz x = some (rows, rd, cl)) (hh : ∀ k, k ∈ rd → hget h' k = hget h k) : arows h' sz x = some (rows, rd, cl) := by
  cases x <;> simp only [arows] at hc ⊢ <;> try exact hc
  rename_i k j n
  cases hk : hget h k with
  | none => rw [hk] at hc; cases hc
  | some o =>
    rw [hk] at hc
    simp only at hc
    split at hc
    · rename_i hcond
      injection hc with hc
      injection hc with e1 e2
      injection e2 with e2 e3
      subst e1; subst e2; subst e3
      rw [hh k (by simp), hk]
      simp only [if_pos hcond]
    · cases hc
structure Agr (out : Out) (s s' : AS) : Prop where
  fb : s'.fb = s.fb
  nt : s'.nt = s.nt
  heap : ∀ k, k ∈ out.rd ∨ k ∈ keysU out → hget s'.heap k = hget s.heap k
  frz : ∀ k, k ∈ keysU out → (k ∈ s'.frz ↔ k ∈ s.frz)
theorem Agr.free {out : Out} {s s' : AS} (h : Agr out s s') {k : Nat} (hk : k ∈ keysU out) : freeKey s' k = freeKey s k := freeKey_loc h.fb h.nt (h.heap k (.inr hk)) (h.frz k hk)
theorem aalloc_loc {T : Tab} {s s' : AS} {key t : Nat} {out : Out} (hc : aalloc T s key t = some out) (hA : Agr out s s') : aalloc T s' key t = some out := by
  unfold aalloc at hc ⊢
  split at hc
  · rename_i i hi
    split at hc
    · rename_i hk
      injection hc with hc; subst hc
      rw [hA.free (by simp [keysU, Out.new]), if_pos hk]
    · cases hc
  · cases hc
theorem abox_loc {s s' : AS} {key t : Nat} {v : AV} {out : Out} (hc : abox s key t v = some out) (hA : Agr out s s') : abox s' key t v = some out := by
  unfold abox at hc ⊢
  split at hc
  · rename_i i hi
    split at hc
    · rename_i hk
      injection hc with hc; subst hc
      rw [hA.free (by simp [keysU, Out.new]), if_pos hk]
    · cases hc
  · cases hc
theorem astore_loc {T : Tab} {s s' : AS} {t : Nat} {p v : AV} {out : Out} (hc : astore T s t p v = some out) (hA : Agr out s s') : astore T s' t p v = some out := by
  unfold astore at hc ⊢
  split at hc
  · rename_i i k j q cs ht hcs
    split at hc
    · rename_i ob hob
      split at hc
      · rename_i row hrow
        split at hc
        · rename_i hcond
          injection hc with hc; subst hc
          have hk : k ∈ keysU (⟨.tup [], [(k, ⟨ob.ty, ob.sz, ob.closed && AV.closedAll cs, ob.rows.set j (splice row q cs)⟩)], [k], []⟩ : Out) := by simp [keysU]
          rw [hA.heap k (.inr hk), hob]
          simp only [hrow]
          rw [if_pos ⟨hcond.1, hcond.2.1, fun h => hcond.2.2 ((hA.frz k hk).1 h)⟩]
        · cases hc
      · cases hc
    · cases hc
  · cases hc
theorem amakeSlice_loc {T : Tab} {s s' : AS} {key t : Nat} {n : Int} {out : Out} (hc : amakeSlice T s key t n = some out) (hA : Agr out s s') : amakeSlice T s' key t n = some out := by
  unfold amakeSlice at hc ⊢
  split at hc
  · split at hc
    · split at hc
      · split at hc
        · rename_i hk
          injection hc with hc; subst hc
          rw [if_pos ⟨(hA.free (by simp [keysU])).trans hk.1, hk.2⟩]
        · cases hc
      · cases hc
    · cases hc
  · cases hc
theorem abuildSlice_loc {T : Tab} {s s' : AS} {key t n : Nat} {l : List (Nat × AV)} {out : Out} (hc : abuildSlice T s key t n l = some out) (hA : Agr out s s') : abuildSlice T s' key t n l = some out := by
  unfold abuildSlice at hc ⊢
  split at hc
  · split at hc
    · split at hc
      · split at hc
        · rename_i hk
          split at hc
          · rename_i hr
            injection hc with hc; subst hc
            rw [if_pos ⟨(hA.free (by simp [keysU])).trans hk.1, hk.2⟩]
          · cases hc
        · cases hc
      · cases hc
    · cases hc
  · cases hc
theorem aappend_loc {T : Tab} {s s' : AS} {key t : Nat} {x : AV} {out : Out} (hc : aappend T s key t x = some out) (hA : Agr out s s') : aappend T s' key t x = some out := by
  unfold aappend at hc ⊢
  split at hc
  · split at hc
    · split at hc
      · split at hc
        · rename_i hr
          split at hc
          · rename_i hk
            injection hc with hc; subst hc
            rw [arows_loc hr (fun k hk => hA.heap k (.inl hk))]
            simp only
            rw [if_pos ⟨(hA.free (by simp [keysU])).trans hk.1, hk.2⟩]
          · cases hc
        · cases hc
      · cases hc
    · cases hc
  · cases hc
theorem aindexAddr_loc {T : Tab} {h h' : Heap} {t : Nat} {p r : AV} {n : Int} (hc : aindexAddr' T h t p n = some r) (hh : ∀ k, k ∈ keysP p → hget h' k = hget h k) : aindexAddr' T h' t p n = some r := by
  unfold aindexAddr' at hc ⊢
  split at hc
  · split at hc
    · split at hc
      · split at hc
        · rw [keySize_loc hh]; exact hc
        · cases hc
      · exact hc
    · cases hc
  · cases hc
theorem aslice_loc {h h' : Heap} {sz : Nat} {p r : AV} {lo hi mx : Option Int} (hc : aslice h sz p lo hi mx = some r) (hh : ∀ k, k ∈ keysP p → hget h' k = hget h k) : aslice h' sz p lo hi mx = some r := by
  unfold aslice at hc ⊢
  rw [keySize_loc hh]; exact hc
theorem aevs_loc {e e' : Env} : ∀ {l : List Operand}, (∀ x, x ∈ l → aev e' x = aev e x) → aevs e' l = aevs e l := by
  intro l
  induction l with
  | nil => intro _; rfl
  | cons x r ih =>
    intro h
    simp only [aevs]
    rw [h x (by simp), ih fun y hy => h y (by simp [hy])]
theorem aparts_loc {e e' : Env} : ∀ {l : List (Nat × Operand)}, (∀ x, x ∈ l.map (·.2) → aev e' x = aev e x) → aparts e' l = aparts e l := by
  intro l
  induction l with
  | nil => intro _; rfl
  | cons x r ih =>
    intro h
    obtain ⟨i, x⟩ := x
    simp only [aparts]
    rw [h x (by simp), ih fun y hy => h y (by simp only [List.map_cons, List.mem_cons]; exact .inr hy)]
theorem aopt_loc {e e' : Env} {x : Option Operand} (h : ∀ y, x = some y → aev e' y = aev e y) : aopt e' x = aopt e x := by
  cases x with
  | none => rfl
  | some y => simp only [aopt]; rw [h y rfl]
theorem agree_ev {ops : Array Oper} {o : Oper} {out : Out} {s s' : AS} (hA : Agree ops o out s s') : ∀ x, x ∈ o.op.operands.toList → aev s'.env x = aev s.env x := by
  intro x hx
  cases x with
  | tmp t =>
    simp only [aev]
    rw [hA.env t (by
      unfold Oper.looksAt
      simp only [List.mem_append, List.mem_filterMap]
      exact .inl ⟨_, hx, rfl⟩)]
  | const v => rfl
  | global g => rfl
  | func f => rfl
theorem aop_loc {T : Tab} {ops : Array Oper} {o : Oper} {s s' : AS} {key : Nat} {out : Out} (h : aop T s key o.op = some out) (hAg : Agree ops o out s s') : aop T s' key o.op = some out := by
  have hev := agree_ev hAg
  have hA : Agr out s s' := ⟨hAg.fb, hAg.nt, hAg.heap, hAg.frz⟩
  unfold aop at h
  split at h
  all_goals try (cases h; done)
  all_goals rename_i ho; rw [ho] at hev ⊢
  all_goals simp only [Op.operands, Call.operands, List.mem_append, List.mem_cons, List.not_mem_nil, or_false, forall_eq_or_imp, forall_eq, List.append_toArray, List.cons_append, List.nil_append, Array.toList_append] at hev
  case h_4 => exact aalloc_loc h hA
  case h_6 => simp only [aop, aparts_loc (e := s.env) (e' := s'.env) hev]; exact h
  case h_7 =>
    simp only [aop, aparts_loc (e := s.env) (e' := s'.env) hev]
    split at h
    · exact abuildSlice_loc h hA
    · cases h
  case h_13 =>
    simp only [aop, aevs_loc (e := s.env) (e' := s'.env) (fun x hx => hev x (.inl hx)), aevs_loc (e := s.env) (e' := s'.env) (fun x hx => hev x (.inr hx))]; exact h
  case h_19 =>
    rename_i t x lo hi mx
    have h1 := hev.1
    have h2 : aopt s'.env lo = aopt s.env lo := aopt_loc fun y hy => by subst hy; exact hev.2 y (by simp)
    have h3 : aopt s'.env hi = aopt s.env hi := aopt_loc fun y hy => by subst hy; exact hev.2 y (by simp)
    have h4 : aopt s'.env mx = aopt s.env mx := aopt_loc fun y hy => by subst hy; exact hev.2 y (by simp)
    simp only [aop, h1, h2, h3, h4]
    split at h
    · split at h
      · rename_i r hr
        injection h with h; subst h
        rw [aslice_loc hr (fun k hk => hA.heap k (.inl hk))]
      · cases h
    · cases h
  all_goals simp only [aop, hev]
  all_goals try (exact h; done)
  case h_5 => split at h <;> first | exact abox_loc h hA | cases h
  case h_8 => split at h <;> first | exact aload_loc h (fun k hk => hA.heap k (.inl hk)) | cases h
  case h_9 => split at h <;> first | exact astore_loc h hA | cases h
  case h_18 =>
    split at h
    · split at h
      · rename_i r hr
        injection h with h; subst h
        rw [aindexAddr_loc hr (fun k hk => hA.heap k (.inl hk))]
      · cases h
    · cases h
  case h_20 =>
    split at h
    · split at h
      · rename_i e; rw [if_pos e]; exact amakeSlice_loc h hA
      · cases h
    · cases h
  case h_23 =>
    split at h
    · rename_i e
      rw [if_pos e]
      split at h
      · exact aappend_loc h hA
      · cases h
    · cases h

/-! ### Operations that go in any order -/
theorem goes_op {ops : Array Oper} {i : Nat} {o : Oper} (ho : ops[i]? = some o) {s : AS} {out : Out} (hd : dstOk s o.dst = true) (h : RunsTo P s o out)
    (hg : o.guard = none ∨ ∃ j want, o.guard = some (j, want) ∧ aguard ops s.env j = some (.bool want)) : Goes P ops i s (s.apply o.dst out) := by
  intro a w ok μ hr K Q hK
  obtain ⟨v, w', hrun, hl⟩ := h a w ok μ hr
  obtain ⟨ok', μ', hr', hs'⟩ := hr.apply hl o.dst (dstOk_spec hd)
  unfold oOpI
  rw [ho]
  simp only
  have hw : Region.wanted o (yielded ops a.tmps) = true := by
    rcases hg with hg | ⟨j, want, hg, hy⟩
    · simp [Region.wanted, hg]
    · simp [Region.wanted, hg, yielded_of hr hy]
  rw [if_pos hw]
  unfold oOp
  rcases hrun with hrun | ⟨hrun, rfl⟩
  · rw [hrun]; exact hK _ _ ok' μ' hr' hs'
  · rw [hrun]; exact hK _ _ ok' μ' hr' hs'
theorem goes_no {ops : Array Oper} {i : Nat} {o : Oper} (ho : ops[i]? = some o) {s : AS} (hd : dstOk s o.dst = true) {j : Nat} {want : Bool} (hg : o.guard = some (j, want))
    (hy : aguard ops s.env j = some (.bool (!want)) ∨ aguard ops s.env j = some (.tup [])) : Goes P ops i s (s.apply o.dst (.pure (.tup []))) := by
  intro a w ok μ hr K Q hK
  obtain ⟨ok', μ', hr', hs'⟩ := hr.apply (Left.same hr [] (av := .tup []) (v := Go.undef) (.tup _ _ _ rfl (fun i h1 _ => by cases h1))) o.dst (dstOk_spec hd)
  unfold oOpI
  rw [ho]
  simp only
  have hw : Region.wanted o (yielded ops a.tmps) = false := by
    rcases hy with hy | hy
    · simp [Region.wanted, hg, yielded_of hr hy]
    · simp [Region.wanted, hg, yielded_void hr hy]
  rw [hw]
  exact hK _ _ ok' μ' hr' hs'
/-- What an operation does wherever it is met with the same before it. -/
def Loc (P : Program) (ops : Array Oper) (o : Oper) (out : Out) (s : AS) : Prop := ∀ i, ops[i]? = some o → ∀ s', Agree ops o out s s' → Goes P ops i s' (s'.apply o.dst out)
theorem dstOk_loc {s s' : AS} (h : s'.nt = s.nt) (d : Option Tmp) : dstOk s' d = dstOk s d := by cases d <;> simp [dstOk, h]
theorem guard_loc {ops : Array Oper} {o : Oper} {out : Out} {s s' : AS} (hA : Agree ops o out s s') {j : Nat} {want : Bool} (hg : o.guard = some (j, want)) : aguard ops s'.env j = aguard ops s.env j := by
  unfold aguard
  cases hd : (ops[j]?).bind (·.dst) with
  | none => rfl
  | some d =>
    simp only [Option.bind_some]
    exact hA.env d (by unfold Oper.looksAt; simp [hg, hd])
theorem Loc.op {T : Tab} (hT : TOk P T) {ops : Array Oper} {o : Oper} {s : AS} {out : Out} (hg : o.guard = none) (hd : dstOk s o.dst = true) (h : aop T s (s.key o.dst) o.op = some out) : Loc P ops o out s := fun i ho s' hA => by
  have hk : s'.key o.dst = s.key o.dst := by unfold AS.key; rw [hA.fb]
  exact goes_op ho (by rw [dstOk_loc hA.nt]; exact hd) (aop_sound hT (key := s'.key o.dst) (by rw [hk]; exact aop_loc h hA)) (.inl hg)
theorem Loc.opYes {T : Tab} (hT : TOk P T) {ops : Array Oper} {o : Oper} {s : AS} {out : Out} {j : Nat} {want : Bool} (hg : o.guard = some (j, want)) (hy : aguard ops s.env j = some (.bool want)) (hd : dstOk s o.dst = true)
    (h : aop T s (s.key o.dst) o.op = some out) : Loc P ops o out s := fun i ho s' hA => by
  have hk : s'.key o.dst = s.key o.dst := by unfold AS.key; rw [hA.fb]
  exact goes_op ho (by rw [dstOk_loc hA.nt]; exact hd) (aop_sound hT (key := s'.key o.dst) (by rw [hk]; exact aop_loc h hA)) (.inr ⟨j, want, hg, (guard_loc hA hg).trans hy⟩)
theorem Loc.opNo {ops : Array Oper} {o : Oper} {s : AS} {j : Nat} {want : Bool} (hg : o.guard = some (j, want)) (hy : aguard ops s.env j = some (.bool (!want)) ∨ aguard ops s.env j = some (.tup [])) (hd : dstOk s o.dst = true) :
    Loc P ops o (.pure (.tup [])) s := fun i ho s' hA => by
  have e := guard_loc hA hg
  exact goes_no ho (by rw [dstOk_loc hA.nt]; exact hd) hg (by rw [e]; exact hy)

/-- The operations of a region in the order of its text, and what each comes to. -/
inductive Trace (P : Program) (ops : Array Oper) : AS → List Oper → List Out → AS → Prop
  | nil (s : AS) : Trace P ops s [] [] s
  | cons {s s1 s2 : AS} {o : Oper} {rest : List Oper} {out : Out} {outs : List Out} (h : Loc P ops o out s) (hs : s.apply o.dst out = s1) (ht : Trace P ops s1 rest outs s2) : Trace P ops s (o :: rest) (out :: outs) s2
theorem Trace.get {ops : Array Oper} {s : AS} {l : List Oper} {outs : List Out} {s2 : AS} (h : Trace P ops s l outs s2) : outs.length = l.length ∧ ∀ (all : List Out) (n : Nat), (∀ j, j < outs.length → all[n + j]? = outs[j]?) → (∀ j, j < l.length → ops[n + j]? = l[j]?) →
    ∀ s0, stOf ops all s0 (fun _ => true) n = s → stOf ops all s0 (fun _ => true) (n + l.length) = s2 ∧ ∀ i, n ≤ i → i < n + l.length → ∀ o, ops[i]? = some o → Loc P ops o (effOf all i) (stOf ops all s0 (fun _ => true) i) := by
  induction h with
  | nil s => exact ⟨rfl, fun all n _ _ s0 hs => ⟨hs, fun i h1 h2 => by simp at h2; omega⟩⟩
  | @cons s s1 s2 o rest out outs h hs ht ih =>
    obtain ⟨ih1, ih2⟩ := ih
    refine ⟨by simp [ih1], fun all n ha hl s0 h0 => ?_⟩
    have e0 : all[n]? = some out := by have := ha 0 (by simp); simpa using this
    have e1 : ops[n]? = some o := by have := hl 0 (by simp); simpa using this
    have heff : effOf all n = out := by simp [effOf, List.getD, e0]
    have hst : stOf ops all s0 (fun _ => true) (n + 1) = s1 := by
      rw [stOf_succ, h0]
      simp only [dstOf, e1, Option.bind_some, heff, hs, cond_true]
    obtain ⟨g1, g2⟩ := ih2 all (n + 1) (fun j hj => by
      have := ha (j + 1) (by simp; omega)
      rw [show n + 1 + j = n + (j + 1) by omega, this]; simp) (fun j hj => by
      have := hl (j + 1) (by simp; omega)
      rw [show n + 1 + j = n + (j + 1) by omega, this]; simp) s0 hst
    refine ⟨by rw [show n + (o :: rest).length = n + 1 + rest.length by simp; omega]; exact g1, fun i h1 h2 o' ho' => ?_⟩
    by_cases e : i = n
    · subst e
      rw [e1] at ho'; injection ho' with ho'; subst ho'
      rw [heff, h0]; exact h
    · exact g2 i (by omega) (by simp at h2; omega) o' ho'
/-- What is done before what, by the edges. -/
def bitsUp : Nat → List Oper → List Nat → List Nat
  | _, [], acc => acc
  | n, o :: r, acc => bitsUp (n + 1) r (acc ++ [o.after.toList.foldl (fun b e => if Region.binds .any e = true then b ||| (1 <<< e.on) ||| acc.getD e.on 0 else b) 0])
def bitsOf (ops : Array Oper) : List Nat := bitsUp 0 ops.toList []
def anyOk (ops : Array Oper) (outs : List Out) (cut : Nat) : Bool := pairsOk ops outs (bitsOf ops) && bitsOk ops (bitsOf ops) && edgesOk ops && tailOk ops (bitsOf ops) cut && decide (cut ≤ ops.size)
theorem AWP.anyT {id : Nat} {l1 l2 : List Oper} {ops : Array Oper} (hops : ops = (l1 ++ l2).toArray) {s0 s1 : AS} {outs : List Out} {K : Exit → AS → Prop} (hm : P.follows .mixedOrders = true) (ht : Trace P ops s0 l1 outs s1)
    (hok : anyOk ops outs l1.length = true) (hK : AOps P ops l2 s1 (K .normal)) : AWP P (.region id ops true) s0 K := by
  unfold anyOk at hok
  simp only [Bool.and_eq_true, decide_eq_true_eq] at hok
  obtain ⟨⟨⟨⟨h1, h2⟩, h3⟩, h4⟩, h5⟩ := hok
  obtain ⟨g1, g2⟩ := ht.get
  have hget : ∀ j, j < l1.length → ops[0 + j]? = l1[j]? := fun j hj => by rw [hops, Nat.zero_add, List.getElem?_toArray, List.getElem?_append_left hj]
  obtain ⟨g3, g4⟩ := g2 outs 0 (fun j _ => by rw [Nat.zero_add]) hget s0 rfl
  rw [Nat.zero_add] at g3 g4
  refine AWP.anyCut hm outs (bitsOf ops) ⟨h1, h2, h3⟩ l1.length h5 h4 (fun i o hi ho s hA => g4 i (Nat.zero_le _) hi o ho i ho s hA) ?_
  subst hops
  rw [g3]
  have e : List.drop l1.length (l1 ++ l2).toArray.toList = l2 := by simp
  rw [e]
  exact hK
end Go.Qd
set_option linter.unusedVariables false
set_option linter.unusedSimpArgs false
namespace Go.Qd
open Go Go.RowKit
variable {P : Program}

/-! ### What a call enters -/
def Enters (P : Program) (s : AS) (o : Oper) (f : FuncId) (l : List AV) : Prop := ∀ a w ok μ, Rel s a w ok μ → ∃ vals : Array Value, (execOp a.eval o).run P w = .ok (.enter f vals) w ∧ VRels w ok μ l vals.toList
/-- Methods, by type and name. -/
abbrev Meths := List (TypeId × String × FuncId)
def mget : Meths → TypeId → String → Option FuncId
  | [], _, _ => none
  | (t, m, f) :: r, t', m' => if t = t' ∧ m = m' then some f else mget r t' m'
def MOk (P : Program) (M : Meths) : Prop := ∀ t m f, mget M t m = some f → ∀ v w, (method (P.types.size + Made.depth) t v m).run P w = .ok (f, v) w
theorem MOk.nil : MOk P [] := fun _ _ _ h => by cases h
theorem MOk.cons {t : TypeId} {m : String} {f : FuncId} {M : Meths} (h : ∀ v w, (method (P.types.size + Made.depth) t v m).run P w = .ok (f, v) w) (hM : MOk P M) : MOk P ((t, m, f) :: M) := by
  intro t' m' f' hg
  simp only [mget] at hg
  split at hg
  · rename_i e; obtain ⟨rfl, rfl⟩ := e; injection hg with hg; subst hg; exact h
  · exact hM t' m' f' hg
def acall (M : Meths) (env : Env) : Op → Option (FuncId × List AV)
  | .call ⟨.value fx, args, _⟩ => match aev env fx, aevs env args.toList with
    | some (.fn f first cap), some l => some (f, first ++ l ++ cap)
    | _, _ => none
  | .call ⟨.invoke r m, args, _⟩ => match aev env r, aevs env args.toList with
    | some (.iface t v), some l => match mget M t m with
      | some f => some (f, v :: l)
      | none => none
    | _, _ => none
  | _ => none
theorem acall_loc {M : Meths} {ops : Array Oper} {o : Oper} {out : Out} {s s' : AS} (hA : Agree ops o out s s') {x : FuncId × List AV} (h : acall M s.env o.op = some x) : acall M s'.env o.op = some x := by
  have hev := agree_ev hA
  unfold acall at h
  split at h
  all_goals try (cases h; done)
  all_goals rename_i ho; rw [ho] at hev ⊢
  all_goals simp only [Op.operands, Call.operands, List.mem_append, List.mem_cons, List.not_mem_nil, or_false, forall_eq_or_imp, forall_eq, List.append_toArray, List.cons_append, List.nil_append, Array.toList_append] at hev
  all_goals simp only [acall, hev.1, aevs_loc (e := s.env) (e' := s'.env) (fun x hx => hev.2 x hx)]
  all_goals exact h
theorem acall_enters {M : Meths} (hM : MOk P M) {s : AS} {o : Oper} {f : FuncId} {l : List AV} {fn : Func} {c : Code} (hf : FnIs P f fn c) (h : acall M s.env o.op = some (f, l)) : Enters P s o f l := by
  unfold acall at h
  split at h
  · rename_i fx args ts ho
    split at h
    · rename_i g first cap l' h1 h2
      injection h with h
      injection h with e1 e2
      subst e1; subst e2
      exact fun a w ok μ hr => call_run hr ho hf h1 h2
    · cases h
  · rename_i r m args ts ho
    split at h
    · rename_i t v l' h1 h2
      split at h
      · rename_i g hg
        injection h with h
        injection h with e1 e2
        subst e1; subst e2
        intro a w ok μ hr
        have hv := aev_rel hr h1
        have hlv := aevs_rel hr h2
        generalize he : a.eval r = u at hv
        cases hv with
        | iface _ _ _ u0 hu =>
          refine ⟨#[u0] ++ args.map a.eval, ?_, ?_⟩
          · have hm := hM t m g hg u0 w
            have hne : ¬ fn.name = "runtime.NumGoroutine" := by have := hf.name; simpa using this
            have hcf : ∀ vals, (callFunc g vals).run P w = .ok (.enter g vals) w := fun vals => by
              simp [callFunc, program, Sem.run, hf.get, hf.body, hne]
            have h0 : (#[Value.iface t u0] ++ args.map a.eval)[0]? = some (Value.iface t u0) := by rw [Array.getElem?_append_left (by simp)]; rfl
            have h1' : (#[Value.iface t u0] ++ args.map a.eval).extract 1 (#[Value.iface t u0] ++ args.map a.eval).size = args.map a.eval := by
              apply Array.ext'; simp [List.take_of_length_le]
            unfold execOp
            simp only [ho, resolve, he, Deferred.ofValue, invoke, Sem.run_bind, Sem.run_pure, Result.andThen_ok, h0, h1', callMethod]
            have hp : (program).run P w = .ok P w := rfl
            simp only [hp, Result.andThen_ok, hm, hcf]
          · simpa using VRels.cons hu hlv
      · cases h
    · cases h
  · cases h
/-! ### Calls -/
theorem AOps.inlineC {T : Tab} (hT : TOk P T) {M : Meths} (hM : MOk P M) {ops : Array Oper} {o : Oper} {rest : List Oper} {s : AS} {N : AS → Prop} (hg : o.guard = none) (hd : dstOk s o.dst = true) {f : FuncId} {l : List AV} (hc : acall M s.env o.op = some (f, l))
    {fn : Func} {c : Code} (hf : FnIs P f fn c) (hn : l.length ≤ fn.ntmps) (hb : AWP P c (s.enter fn.ntmps l) (fun e s1 => isRet e ∧ ∃ r, ares T s1 fn.results.toList = some r ∧ AOps P ops rest (s.back s1 o.dst r) N)) : AOps P ops (o :: rest) s N := by
  intro a w ok μ hr
  obtain ⟨vals, hrun, hvals⟩ := acall_enters hM hf hc a w ok μ hr
  refine oList_plain hg fun K hK => ?_
  unfold oOp
  rw [hrun]
  simp only [oupon]
  have hent := enter_rel (nt := fn.ntmps) hr.wf hr.top hvals hn
  refine Calls.mono (calls_of_wp (R := fun e w' => ∃ v, e = .returned v ∧ ∃ s1 a1 ok1 μ1 r, Rel s1 a1 w' ok1 μ1 ∧ VRel w' ok1 μ1 r v ∧ Step s.top s.heap s.frz w ok μ s1.heap s1.frz w' ok1 μ1 ∧ AOps P ops rest (s.back s1 o.dst r) N) hf.get hf.body
    (cwp_wp rfl (cwp_mono (hb _ w ok μ hent) fun e a1 w1 hp => ?_))) fun e w1 he => ?_
  · obtain ⟨s1, ok1, μ1, ⟨hk1, r, hk2, hk3⟩, h1, h2, h3, h4⟩ := hp
    obtain ⟨v, hv1, hv2⟩ := ares_rel hT h3 hk2
    cases e <;> first
      | exact hk1.elim
      | exact ⟨h3.dfr, v, hv1, v, rfl, s1, a1, ok1, μ1, r, h3, hv2, h4, hk3⟩
  · obtain ⟨v, rfl, s1, a1, ok1, μ1, r, h1, h2, h3, h4⟩ := he
    obtain ⟨ok', μ', hrel, hst⟩ := back_rel hr h1 h3 h2 o.dst (dstOk_spec hd)
    exact hK _ _ (h4.after (s := s) rfl rfl hrel hst)
theorem AOps.icallC {M : Meths} (hM : MOk P M) {ops : Array Oper} {o : Oper} {rest : List Oper} {s : AS} {N : AS → Prop} (hg : o.guard = none) (hd : dstOk s o.dst = true) {f : FuncId} {l : List AV} (hca : acall M s.env o.op = some (f, l))
    {fn : Func} {c : Code} (hf : FnIs P f fn c) {r : AV} {objs : List AObj} {cl : List AV} (hcl' : closeL s.heap l = cl) (hc : ICall P f cl r objs) {base : Nat} (hfree : freeKeys s base objs.length = true) (hfk : (List.range objs.length).all (fun i => !(keysL l).contains (base + i)) = true)
    (hcl : objs.all (·.closed) = true) {s' : AS} (hs : s.gave o.dst base (keysL l) r objs = s') (hn : AOps P ops rest s' N) : AOps P ops (o :: rest) s N := by
  subst hs; subst hcl'
  intro a w ok μ hr
  obtain ⟨vals, hrun, hvals⟩ := acall_enters hM hf hca a w ok μ hr
  refine oList_plain hg fun K hK => ?_
  unfold oOp
  rw [hrun]
  simp only [oupon]
  refine Calls.mono (icall_calls hr hvals hc hfree hfk hcl o.dst (dstOk_spec hd)) fun e w1 he => ?_
  obtain ⟨v, ok', μ', rfl, hrel, hst⟩ := he
  exact hK _ _ (hn.after (s := s) rfl rfl hrel hst)

mutual
theorem closeA_loc {h h' : Heap} : ∀ (a : AV), (∀ k, k ∈ keysA a → hget h' k = hget h k) → closeA h' a = closeA h a
  | .osl k j n, hh => by simp only [closeA, hh k (by simp [keysA])]
  | .ptr k j q, hh => by simp only [closeA, hh k (by simp [keysA])]
  | .fn f a b, hh => by
    simp only [closeA]
    rw [closeL_loc a (fun k hk => hh k (by simp [keysA, hk])), closeL_loc b (fun k hk => hh k (by simp [keysA, hk]))]
  | .iface t v, hh => by simp only [closeA]; rw [closeA_loc v (fun k hk => hh k (by simp [keysA, hk]))]
  | .agg l, hh => by simp only [closeA]; rw [closeL_loc l (fun k hk => hh k (by simp [keysA, hk]))]
  | .tup l, hh => by simp only [closeA]; rw [closeL_loc l (fun k hk => hh k (by simp [keysA, hk]))]
  | .osc .., _ => rfl
  | .undef, _ => rfl
  | .bool _, _ => rfl
  | .int _ _, _ => rfl
  | .nilp, _ => rfl
  | .nilf, _ => rfl
  | .esl, _ => rfl
  | .vptr _, _ => rfl
  | .lst _, _ => rfl
theorem closeL_loc {h h' : Heap} : ∀ (l : List AV), (∀ k, k ∈ keysL l → hget h' k = hget h k) → closeL h' l = closeL h l
  | [], _ => rfl
  | a :: r, hh => by
    simp only [closeL]
    rw [closeA_loc a (fun k hk => hh k (by simp [keysL, hk])), closeL_loc r (fun k hk => hh k (by simp [keysL, hk]))]
end
theorem hget_hputs_enum (h : Heap) : ∀ (objs : List AObj) (base : Nat) (h : Heap) (k : Nat), hget (hputs h (enumH base objs)) k = if base ≤ k ∧ k < base + objs.length then objs[k - base]? else hget h k := by
  intro objs
  induction objs with
  | nil => intro base h k; rw [if_neg (by simp <;> omega)]; rfl
  | cons o r ih =>
    intro base h k
    rw [enumH, hputs_cons, ih]
    by_cases e : base + 1 ≤ k ∧ k < base + 1 + r.length
    · rw [if_pos e, if_pos (by simp; omega), show k - base = (k - (base + 1)) + 1 by omega, List.getElem?_cons_succ]
    · rw [if_neg e, hget_hput]
      by_cases e2 : base = k
      · subst e2; rw [if_pos rfl, if_pos (by simp)]; simp
      · rw [if_neg e2, if_neg (by simp; omega)]
theorem keysU_enum : ∀ (objs : List AObj) (base k : Nat), k ∈ (enumH base objs).map (·.1) ↔ base ≤ k ∧ k < base + objs.length := by
  intro objs
  induction objs with
  | nil => intro base k; simp [enumH] <;> omega
  | cons o r ih =>
    intro base k
    simp only [enumH, List.map_cons, List.mem_cons, ih, List.length_cons]
    omega
def callOut (base : Nat) (ks : List Nat) (r : AV) (objs : List AObj) : Out := ⟨renA base r, enumH base objs, ks, ks⟩
theorem gave_eqv {s : AS} {dst : Option Tmp} {base : Nat} {ks : List Nat} {r : AV} {objs : List AObj} (hfree : freeKeys s base objs.length = true) : (s.gave dst base ks r objs).Eqv (s.apply dst (callOut base ks r objs)) := by
  refine ⟨rfl, rfl, fun t => rfl, fun k => ?_, fun k => ?_⟩
  · simp only [AS.apply, AS.gave, callOut]
    rw [hget_hputs_enum s.heap, hget_append, hget_enum]
    by_cases e : base ≤ k ∧ k < base + objs.length
    · rw [if_pos e, if_pos e.1]
      have : hget s.heap k = none := by
        unfold freeKeys at hfree
        rw [List.all_eq_true] at hfree
        have := (freeKey_spec (hfree (k - base) (List.mem_range.2 (by omega)))).1
        rwa [show base + (k - base) = k by omega] at this
      rw [this]
    · rw [if_neg e]
      cases hget s.heap k with
      | some o => rfl
      | none =>
        simp only
        split
        · rename_i hb; rw [List.getElem?_eq_none (by omega)]
        · rfl
  · simp [AS.apply, AS.gave, callOut]
/-- A call by its contract, in any order. -/
theorem Loc.icall {M : Meths} (hM : MOk P M) {ops : Array Oper} {o : Oper} {s : AS} (hg : o.guard = none) (hd : dstOk s o.dst = true) {f : FuncId} {l : List AV} (hca : acall M s.env o.op = some (f, l))
    {fn : Func} {c : Code} (hf : FnIs P f fn c) {r : AV} {objs : List AObj} {cl : List AV} (hcl' : closeL s.heap l = cl) (hc : ICall P f cl r objs) {base : Nat} (hfree : freeKeys s base objs.length = true) (hfk : (List.range objs.length).all (fun i => !(keysL l).contains (base + i)) = true)
    (hcl : objs.all (·.closed) = true) {out : Out} (hout : callOut base (keysL l) r objs = out) : Loc P ops o out s := by
  intro i ho s' hA a w ok μ hr K Q hK
  subst hout; subst hcl'
  obtain ⟨vals, hrun, hvals⟩ := acall_enters hM hf (acall_loc hA hca) a w ok μ hr
  have hcl2 : closeL s'.heap l = closeL s.heap l := closeL_loc l fun k hk => hA.heap k (.inl hk)
  have hfree' : freeKeys s' base objs.length = true := by
    unfold freeKeys at hfree ⊢
    rw [List.all_eq_true] at hfree ⊢
    intro j hj
    have hj' := List.mem_range.1 hj
    have hk : base + j ∈ keysU (callOut base (keysL l) r objs) := (keysU_enum objs base _).2 ⟨by omega, by omega⟩
    rw [freeKey_loc hA.fb hA.nt (hA.heap _ (.inr hk)) (hA.frz _ hk)]
    exact hfree j hj
  unfold oOpI
  rw [ho]
  simp only
  rw [if_pos (by simp [Region.wanted, hg])]
  unfold oOp
  rw [hrun]
  simp only [oupon]
  refine Calls.mono (icall_calls hr hvals (hcl2 ▸ hc) hfree' hfk hcl o.dst (dstOk_spec (by rw [dstOk_loc hA.nt]; exact hd))) fun e w1 he => ?_
  obtain ⟨v, ok', μ', rfl, hrel, hst⟩ := he
  exact hK _ _ ok' μ' (hrel.eqv (gave_eqv hfree')) (hst.eqv (gave_eqv hfree'))
end Go.Qd
set_option linter.unusedVariables false
set_option linter.unusedSimpArgs false
namespace Go.Qd
open Go Go.RowKit
variable {P : Program}

/-! ### Slices whose room is known -/
def ocap : AV → AV
  | .osc o j n _ => .osl o j n
  | a => a
theorem VRel.ocap {w : World} {ok : Nat → Prop} {μ : Mu} {a : AV} {v : Value} (h : VRel w ok μ a v) : VRel w ok μ (ocap a) v := by
  cases a with
  | osc o j n c =>
    cases h with
    | osc _ _ _ _ b sz _ h h1 h2 hs => exact .osl _ _ _ _ _ _ _ h h1 h2 hs
  | _ => exact h
def dimE : Env → Env
  | [] => []
  | (t, v) :: r => (t, ocap v) :: dimE r
theorem eget_dimE : ∀ (e : Env) (t : Nat), eget (dimE e) t = (eget e t).map ocap := by
  intro e
  induction e with
  | nil => intro t; rfl
  | cons x r ih =>
    intro t
    obtain ⟨k, v⟩ := x
    simp only [dimE, eget]
    split
    · rfl
    · exact ih t
def AS.dim (s : AS) : AS := { s with env := dimE s.env }
theorem Rel.dim {s : AS} {a : Act} {w : World} {ok : Nat → Prop} {μ : Mu} (hr : Rel s a w ok μ) : Rel s.dim a w ok μ :=
  ⟨hr.dfr, hr.nt, fun t v ht => by
    simp only [AS.dim, eget_dimE] at ht
    obtain ⟨u, h1, rfl⟩ := Option.map_eq_some_iff.1 ht
    exact (hr.env t u h1).ocap, hr.wf, hr.top⟩
theorem RunsTo.dim {s : AS} {o : Oper} {out : Out} (h : RunsTo P s.dim o out) : RunsTo P s o out := fun a w ok μ hr => by
  obtain ⟨v, w', h1, h2⟩ := h a w ok μ hr.dim
  exact ⟨v, w', h1, ⟨h2.ex⟩⟩

/-- An object's rows, as far as its room. -/
def AObj.pad (o : AObj) (n : Nat) : AObj := { o with rows := o.rows ++ List.replicate (n - o.rows.length) (List.replicate o.sz .undef) }
theorem Rel.known {s : AS} {a : Act} {w : World} {ok : Nat → Prop} {μ : Mu} (hr : Rel s a w ok μ) {t k n : Nat} {ob : AObj} (he : eget s.env t = some (.osl k 0 n)) (hob : hget s.heap k = some ob) (hn : 0 < n) (hsz : ob.sz ≠ 0) :
    ∃ c, n ≤ c ∧ c ≤ maxLen ∧ Rel { s with env := eput s.env t (.osc k 0 n c), heap := hput s.heap k (ob.pad c) } a w ok μ ∧ Step s.fb s.heap s.frz w ok μ (hput s.heap k (ob.pad c)) s.frz w ok μ := by
  have hv := hr.env t _ he
  generalize hx : a.tmps.getD t Go.undef = x at hv
  cases hv with
  | osl0 => omega
  | osl _ _ _ _ b sz cap hm h1 h2 hs =>
    obtain ⟨cs, ty, g1, g2⟩ := hs
    have hobj : ∃ cs', μ k = some (b, ob.sz) ∧ w.heap[b]? = some (.cells cs' ob.ty (0, 0)) ∧ cs' = cs ∧ sz = ob.sz ∧ ob.rows.length * ob.sz ≤ cs'.size ∧ (k ∉ s.frz → ¬ ok b) ∧ (k ∈ s.frz → ok b) ∧ RowsRel w ok (ob.mu μ) ob.sz ob.rows cs' := by
      rcases hr.wf.obj k ob hob with ⟨b', cs', q1, q2, q3, q4, q5, q6⟩ | ⟨_, q1⟩
      · rw [hm] at q1; injection q1 with q1; injection q1 with e1 e2
        subst e1
        rw [g1] at q2; injection q2 with q2; injection q2 with q2 q2'
        subst q2
        exact ⟨cs, e2 ▸ hm, q2' ▸ g1, rfl, e2, q3, q4, q5, q6⟩
      · rw [hm] at q1; cases q1
    obtain ⟨cs', q1, q2, rfl, q0, q3, q4, q5, q6⟩ := hobj
    subst q0
    have hpad : RowsRel w ok ((ob.pad cap).mu μ) ob.sz (ob.pad cap).rows cs' ∧ (ob.pad cap).rows.length * ob.sz ≤ cs'.size := by
      have hle : (ob.pad cap).rows.length * ob.sz ≤ cs'.size := by
        simp only [AObj.pad, List.length_append, List.length_replicate]
        by_cases h : ob.rows.length ≤ cap
        · rw [show ob.rows.length + (cap - ob.rows.length) = 0 + cap by omega]; exact g2
        · rw [show ob.rows.length + (cap - ob.rows.length) = ob.rows.length by omega]; exact q3
      refine ⟨⟨fun j hj => ?_, fun j hj q hq => ?_⟩, hle⟩
      · simp only [AObj.pad] at hj ⊢
        by_cases h : j < ob.rows.length
        · rw [List.getElem_append_left h]; exact q6.len j h
        · rw [List.getElem_append_right (by omega)]; simp
      · by_cases h : j < ob.rows.length
        · have e : (ob.pad cap).rows[j] = ob.rows[j] := by simp only [AObj.pad]; rw [List.getElem_append_left h]
          have hq' : q < ob.rows[j].length := by rw [e] at hq; exact hq
          obtain ⟨u, a1, a2⟩ := q6.at_ j h q hq'
          refine ⟨u, a1, ?_⟩
          simp only [e]; exact a2
        · have e : (ob.pad cap).rows[j] = List.replicate ob.sz .undef := by
            simp only [AObj.pad]; rw [List.getElem_append_right (by omega)]; simp
          have hq' : q < ob.sz := by rw [e] at hq; simpa using hq
          have hb : j * ob.sz + q < cs'.size := by
            have : (j + 1) * ob.sz ≤ (ob.pad cap).rows.length * ob.sz := Nat.mul_le_mul_right _ hj
            rw [Nat.add_mul, Nat.one_mul] at this
            omega
          refine ⟨cs'[j * ob.sz + q], Array.getElem?_eq_getElem hb, ?_⟩
          simp only [e, List.getElem_replicate]; exact .undef _ _
    refine ⟨cap, h1, h2, ⟨hr.dfr, hr.nt, fun t' v' ht' => ?_, ⟨hr.wf.okb, fun k' o' ho' => ?_, fun k' x' hx' => ?_, fun k1 k2 o1 o2 b' s1 s2 a1 a2 a3 a4 => ?_⟩, hr.top⟩, ⟨.refl _ _, rfl, rfl, rfl, Nat.le_refl _, fun _ _ _ => rfl, fun _ h => .inl h, ?_, fun _ _ _ h => h⟩⟩
    · simp only [eget_eput] at ht'
      split at ht'
      · rename_i e; subst e; injection ht' with ht'; subst ht'; rw [hx]
        exact .osc _ _ _ _ _ _ _ hm h1 h2 ⟨cs', ty, g1, g2⟩
      · exact hr.env t' v' ht'
    · simp only [hget_hput] at ho'
      split at ho'
      · rename_i e; subst e; injection ho' with ho'; subst ho'
        exact .inl ⟨b, cs', q1, q2, hpad.2, q4, q5, hpad.1⟩
      · exact hr.wf.obj k' o' ho'
    · simp only [hget_hput]
      split
      · exact ⟨_, rfl⟩
      · exact hr.wf.dom k' x' hx'
    · have : ∀ k' o', hget (hput s.heap k (ob.pad cap)) k' = some o' → ∃ p, hget s.heap k' = some p := fun k' o' h => by
        rw [hget_hput] at h
        split at h
        · rename_i e; subst e; exact ⟨ob, hob⟩
        · exact ⟨_, h⟩
      obtain ⟨p1, hp1⟩ := this k1 o1 a1
      obtain ⟨p2, hp2⟩ := this k2 o2 a2
      exact hr.wf.inj k1 k2 p1 p2 b' s1 s2 hp1 hp2 a3 a4
    · rintro b' ⟨k', o', s1, a1, a2, a3⟩
      rw [hget_hput] at a1
      split at a1
      · rename_i e; subst e; exact .inl ⟨k, ob, s1, hob, a2, a3⟩
      · exact .inl ⟨k', o', s1, a1, a2, a3⟩
theorem AWP.known {c : Code} {s : AS} {K : Exit → AS → Prop} (t k n : Nat) (ob : AObj) (he : eget s.env t = some (.osl k 0 n)) (hob : hget s.heap k = some ob) (hn : 0 < n) (hsz : ob.sz ≠ 0)
    (h : ∀ cap, n ≤ cap → cap ≤ maxLen → AWP P c { s with env := eput s.env t (.osc k 0 n cap), heap := hput s.heap k (ob.pad cap) } K) : AWP P c s K := by
  intro a w ok μ hr
  obtain ⟨cap, h1, h2, hr1, hs1⟩ := hr.known he hob hn hsz
  refine cwp_mono (h cap h1 h2 a w ok μ hr1) fun e a' w' hp => ?_
  exact Post.step (s := s) (s1 := { s with env := eput s.env t (.osc k 0 n cap), heap := hput s.heap k (ob.pad cap) }) rfl rfl hs1 hp

/-! ### cap, and slices as far as the room -/
theorem cap_ok {T : Tab} (hT : TOk P T) {s : AS} {o : Oper} {t : Nat} {x : Operand} (ho : o.op = .call { callee := .builtin .cap, args := #[x], argTypes := #[t] }) {i : TI} {e : Nat} (ht : tget T t = some i) (hi : i.kind = .slice e) {k j n c : Nat}
    (hx : aev s.env x = some (.osc k j n c)) : RunsTo P s o (.pure (.int .i64 c)) :=
  .pure fun a w ok μ hr => by
    have hv := aev_rel hr hx
    generalize he : a.eval x = u at hv
    cases hv with
    | osc =>
      refine ⟨_, ?_, .int _ _ _⟩
      have hu := (hT.facts ht).slice hi
      unfold execOp
      simp [ho, resolve, invoke, builtin, Builtin.cap_, he, run_underlying hu, goInt]
theorem bounds_cap {lo hi : Option Value} {l h : Int} {len cap : Nat} (hl : (lo = none ∧ l = 0) ∨ ∃ k, lo = some (.int k l)) (hh : (hi = none ∧ h = len) ∨ ∃ k, hi = some (.int k h)) (h1 : 0 ≤ l) (h2 : l ≤ h) (h3 : h ≤ cap) (w : World) :
    (Instr.sliceBounds true len cap lo hi none).run P w = .ok (l.toNat, h.toNat, cap) w := by
  unfold Instr.sliceBounds
  rcases hh with ⟨rfl, rfl⟩ | ⟨kh, rfl⟩
  · rcases hl with ⟨rfl, rfl⟩ | ⟨kl, rfl⟩
    · simp
    · simp only [Sem.run_bind, Sem.run_pure, Result.andThen_ok, bound_run h1 h2]; try simp
  · rcases hl with ⟨rfl, rfl⟩ | ⟨kl, rfl⟩
    · simp only [Sem.run_bind, Sem.run_pure, Result.andThen_ok, bound_run (show 0 ≤ h by omega) (show h ≤ (cap : Int) by omega)]; simp
    · simp only [Sem.run_bind, Sem.run_pure, Result.andThen_ok, bound_run (show 0 ≤ h by omega) (show h ≤ (cap : Int) by omega), bound_run h1 (show l ≤ (h.toNat : Int) by omega)]
def oslice (h : Heap) (sz k j n c : Nat) (lo hi : Option Int) : Option AV :=
  if 0 ≤ lo.getD 0 ∧ lo.getD 0 ≤ hi.getD n ∧ hi.getD n ≤ c ∧ keySize h (.osl k j n) sz = true then
    if (lo.getD 0).toNat = c then some .esl else some (.osc k (j + (lo.getD 0).toNat) ((hi.getD n).toNat - (lo.getD 0).toNat) (c - (lo.getD 0).toNat))
  else none
theorem oslice_ok {T : Tab} (hT : TOk P T) {s : AS} {o : Oper} {t : Nat} {x : Operand} {lo hi : Option Operand} (ho : o.op = .slice t x lo hi none) {i ei : TI} {e : Nat} (ht : tget T t = some i) (hi' : i.kind = .slice e) (he : tget T e = some ei)
    {k j n c : Nat} {p' : AV} {l h : Option Int} (hx : aev s.env x = some (.osc k j n c)) (hl : aopt s.env lo = some l) (hh : aopt s.env hi = some h) (hs : oslice s.heap ei.size k j n c l h = some p') : RunsTo P s o (.pure p') :=
  .pure fun a w ok μ hr => by
    have hv := aev_rel hr hx
    have hk := (hT.facts ht).slice hi'
    unfold oslice at hs
    split at hs
    case isFalse => cases hs
    rename_i hcond
    obtain ⟨c1, c2, c3, hks⟩ := hcond
    generalize hxe : a.eval x = u at hv
    cases hv with
    | osc _ _ _ _ b sz _ hm h1 h2 hs' =>
      have hbr := bounds_cap (P := P) (lo := lo.map a.eval) (hi := hi.map a.eval) (l := l.getD 0) (h := h.getD n) (len := n) (cap := c)
        (by rcases aopt_spec hr hl with ⟨rfl, rfl⟩ | ⟨y, k, j, rfl, rfl, h3⟩
            · exact .inl ⟨rfl, rfl⟩
            · exact .inr ⟨k, by simp [h3]⟩)
        (by rcases aopt_spec hr hh with ⟨rfl, rfl⟩ | ⟨y, k, j, rfl, rfl, h3⟩
            · exact .inl ⟨rfl, rfl⟩
            · exact .inr ⟨k, by simp [h3]⟩) c1 c2 c3 w
      obtain ⟨L, hL⟩ : ∃ L, L = l.getD 0 := ⟨_, rfl⟩
      obtain ⟨H, hH⟩ : ∃ H, H = h.getD (n : Int) := ⟨_, rfl⟩
      rw [← hL, ← hH] at hbr hs
      rw [← hL] at c1 c2
      rw [← hH] at c2 c3
      refine ⟨.slice (if c = L.toNat then some ⟨b, j * sz, none⟩ else (some (⟨b, j * sz, none⟩ : Addr)).map (·.add (L.toNat * ei.size))) (H.toNat - L.toNat) (c - L.toNat), ?_, ?_⟩
      · unfold execOp
        have hopt : (none : Option Operand).map a.eval = none := rfl
        simp only [ho, hxe, hopt, Instr.sliceAt, Instr.slice, Sem.run_bind, run_underlying hk, Result.andThen_ok, hbr, (hT.facts he).run_sizeOf, Sem.run_pure]
      · split at hs
        · rename_i e1
          injection hs with hs; subst hs
          have g1 : H.toNat - L.toNat = 0 := by omega
          have g2 : c - L.toNat = 0 := by omega
          rw [g1, g2]; exact .esl _ _
        · rename_i e1
          injection hs with hs; subst hs
          simp only [keySize] at hks
          split at hks
          · rename_i ob hob
            have hsz : ob.sz = ei.size := by simpa using hks
            have hsz' : sz = ob.sz := by
              rcases hr.wf.obj k ob hob with ⟨b', cs, g1, _⟩ | ⟨_, g1⟩
              · rw [hm] at g1; injection g1 with g1; injection g1
              · rw [hm] at g1; cases g1
            rw [if_neg (by omega)]
            simp only [Option.map_some, addr_add]
            rw [← hsz, ← hsz', ← Nat.add_mul]
            refine .osc _ _ _ _ _ _ _ hm (by omega) (by omega) ?_
            obtain ⟨cs, ty, g1, g2⟩ := hs'
            refine ⟨cs, ty, g1, Nat.le_trans (Nat.mul_le_mul_right _ ?_) g2⟩
            omega
          · cases hks

/-! ### append of zeros, without room for them -/
theorem appz_ok {T : Tab} (hT : TOk P T) {s : AS} {o : Oper} {t tn : Nat} {x y : Operand} (ho : o.op = .call { callee := .builtin .append, args := #[x, y], argTypes := #[t, tn] }) {i ei ti : TI} {e : Nat} {kn kq : IntKind} (ht : tget T t = some i) (hi : i.kind = .slice e)
    (he : tget T e = some ei) (htn : tget T tn = some ti) (hti : ti.kind = .int kn) {k j n c m : Nat} (hx : aev s.env x = some (.osc k j n c)) (hy : aev s.env y = some (.int kq m)) {rows : List (List AV)} {rd : List Nat} {cl : Bool} (hrows : arows s.heap ei.size (.osl k j n) = some (rows, rd, cl))
    (hm0 : 0 < m) (hroom : c < n + m) (hs : 0 < ei.size) (hb0 : 0 < ei.bytes) (hz0 : ei.zero.length = ei.size) (hb : (n + m) * ei.bytes ≤ 140737488355328) (hzc : AV.closedAll ei.zero = true) {key : Nat} (hfree : freeKey s key = true) :
    RunsTo P s o ⟨.osl key 0 (n + m), [(key, ⟨e, ei.size, cl, rows ++ List.replicate m ei.zero⟩)], rd, []⟩ := by
  obtain ⟨q1, q2, q3, q4⟩ := freeKey_spec hfree
  have hu := (hT.facts ht).slice hi
  have hun : P.underlying tn = some (.int kn) := by have := (hT.facts htn).kind; rw [hti] at this; exact this
  obtain ⟨⟨ii, z, hii, hisz, hib, hiz, hzz⟩, _, _⟩ := hT.facts he
  intro a w ok μ hr
  have hxv := aev_rel hr hx
  have hyv := eval_int (aev_rel hr hy)
  have hxo : VRel w ok μ (.osl k j n) (a.eval x) := hxv.ocap
  generalize hxe : a.eval x = xv at hxv hxo
  cases hxv with
  | osc _ _ _ _ b sz _ hm h1 h2 hs' =>
    obtain ⟨A, cap, news, e1, e2, e3, e4, e5⟩ := firstCells_drew (P := P) hr hs hrows hxo
    have hlen : rows.length = n := by injection e1 with _ e1; exact e1.symm
    have hzv : VRels w ok μ ei.zero z.cells.toList := sameZs_rel hzz
    have hzs : z.cells.size = ei.size := by have := hzv.len; simp at this; omega
    have hneed : n + m ≤ 140737488355328 := Nat.le_trans (Nat.le_mul_of_pos_right _ hb0) hb
    have hmb : m * ii.bytes ≤ 140737488355328 := by rw [hib]; exact Nat.le_trans (Nat.mul_le_mul_right _ (by omega)) hb
    have hold : (Builtin.firstCells ii.size n (.slice (some ⟨b, j * sz, none⟩) n c)).run P w.drew = .ok news.toList.toArray w.drew := by
      rw [hisz]
      have := e3
      rw [hlen] at this
      simpa using this
    have hrun := Lib.run_append_grow_zeros (P := P) w t tn o.type e ii z kq kn hu hun hii hiz (some ⟨b, j * sz, none⟩) n c news.toList hold m hm0 (by omega) hroom (by omega) (by omega) (by rw [hib]; exact growslice_fits hroom hb)
    obtain ⟨G, hG⟩ : ∃ G, G = grownCap w (n + m) c e := ⟨_, rfl⟩
    rw [← hG] at hrun
    have hG1 : n + m ≤ G := by rw [hG]; exact grownCap_ge _ _ _ _
    have hG2 : G ≤ maxLen := by rw [hG]; exact grownCap_le_maxLen _ _ _ _ (by simp only [maxLen]; omega)
    obtain ⟨hrd, hsd⟩ := hr.drew
    refine ⟨_, _, .inl (?_ : _ = Result.ok (Next.value (.slice (some ⟨w.heap.size, 0, none⟩) (n + m) G)) (w.drew.alloc (.cells (news ++ Builtin.zeroCells z.cells m ++ Builtin.zeroCells z.cells (G - (n + m))) e))), Left.after hsd ?_⟩
    · unfold execOp
      simp [ho, resolve, invoke, builtin, hxe, hyv, hrun]
    · have hz := RowsRel.zeros hzv m (by omega)
      rw [hz0] at hz
      have hzcs : Builtin.zeroCells z.cells m = (Array.range (m * ei.size)).map (z.cells[· % z.cells.size]!) := by unfold Builtin.zeroCells; rw [hzs]
      have hzsz : (Builtin.zeroCells z.cells m).size = m * ei.size := by rw [hzcs]; simp
      have hrl : (rows ++ List.replicate m ei.zero).length = n + m := by simp [hlen]
      have hfull : (news ++ Builtin.zeroCells z.cells m ++ Builtin.zeroCells z.cells (G - (n + m))).size = G * ei.size := by
        simp only [Array.size_append, e4, hzsz]
        have : (Builtin.zeroCells z.cells (G - (n + m))).size = (G - (n + m)) * ei.size := by unfold Builtin.zeroCells; rw [hzs]; simp
        rw [this, hlen, ← Nat.add_mul, ← Nat.add_mul]; congr 1; omega
      have e5' := e5.mono hsd.kept (MuLe.refl _)
      have hcell : RowsRel w.drew ok (if cl = true then mu0 else μ) ei.size (rows ++ List.replicate m ei.zero) (news ++ Builtin.zeroCells z.cells m ++ Builtin.zeroCells z.cells (G - (n + m))) := by
        have hz' : RowsRel w.drew ok (if cl = true then mu0 else μ) ei.size (List.replicate m ei.zero) (Builtin.zeroCells z.cells m) := by
          rw [hzcs]
          exact (hz.shut (by rw [List.all_eq_true]; intro r hrr; rw [List.eq_of_mem_replicate hrr]; exact hzc)).mono hsd.kept (MuLe.refl _)
        refine ⟨fun jj hj => ?_, fun jj hj q hq => ?_⟩
        · by_cases h : jj < rows.length
          · rw [List.getElem_append_left h]; exact e5'.len jj h
          · rw [List.getElem_append_right (by omega)]; simp [hz0]
        · by_cases h : jj < rows.length
          · have e : (rows ++ List.replicate m ei.zero)[jj] = rows[jj] := List.getElem_append_left h
            have hq' : q < rows[jj].length := by rw [e] at hq; exact hq
            obtain ⟨u, a1, a2⟩ := e5'.at_ jj h q hq'
            refine ⟨u, ?_, by simp only [e]; exact a2⟩
            rw [Array.append_assoc, Array.getElem?_append_left (Array.getElem?_eq_some_iff.1 a1).1]; exact a1
          · have hj' : jj - rows.length < (List.replicate m ei.zero).length := by simp only [List.length_append] at hj; omega
            have e : (rows ++ List.replicate m ei.zero)[jj] = (List.replicate m ei.zero)[jj - rows.length] := List.getElem_append_right (by omega)
            have hq' : q < (List.replicate m ei.zero)[jj - rows.length].length := by rw [e] at hq; exact hq
            obtain ⟨u, a1, a2⟩ := hz'.at_ _ hj' q hq'
            refine ⟨u, ?_, by simp only [e]; exact a2⟩
            have hlt := (Array.getElem?_eq_some_iff.1 a1).1
            have hpos : jj * ei.size + q = rows.length * ei.size + ((jj - rows.length) * ei.size + q) := by
              rw [← Nat.add_assoc, ← Nat.add_mul]; congr 2; omega
            rw [Array.append_assoc, Array.getElem?_append_right (by rw [e4, hpos]; omega), e4, hpos, Nat.add_sub_cancel_left, Array.getElem?_append_left hlt]; exact a1
      refine ⟨(Left.new (av := .osl key 0 (n + m)) (v := .slice (some ⟨w.heap.size, 0, none⟩) (n + m) G) hrd q1 q2 q3 (by rw [hfull, hrl]; exact Nat.mul_le_mul_right _ hG1) q4 hcell (fun μ' hle hself hk => ?_)).ex⟩
      have := VRel.osl (w := w.drew.alloc (.cells (news ++ Builtin.zeroCells z.cells m ++ Builtin.zeroCells z.cells (G - (n + m))) e)) (ok := ok) μ' key 0 (n + m) w.heap.size ei.size G hself hG1 hG2 ⟨_, e, heap_push_new _ _, by rw [Nat.zero_add, hfull]; exact Nat.le_refl _⟩
      rw [Nat.zero_mul] at this
      exact this
end Go.Qd
set_option linter.unusedVariables false
set_option linter.unusedSimpArgs false
namespace Go.Qd
open Go Go.RowKit
variable {P : Program}

/-! ### copy -/
theorem copy_ok {T : Tab} (hT : TOk P T) {s : AS} {o : Oper} {t : Nat} {x y : Operand} (ho : o.op = .call { callee := .builtin .copy, args := #[x, y], argTypes := #[t, t] }) {i ei : TI} {e : Nat} (ht : tget T t = some i) (hi : i.kind = .slice e)
    (he : tget T e = some ei) {xv yv : AV} {k j n : Nat} (hx : aev s.env x = some xv) (hxv : ocap xv = .osl k j n) (hy : aev s.env y = some yv) {rows : List (List AV)} {rd : List Nat} {cl : Bool} (hrows : arows s.heap ei.size (ocap yv) = some (rows, rd, cl))
    {ob : AObj} (hob : hget s.heap k = some ob) (hsz : ob.sz = ei.size) (hs : 0 < ei.size) (hz : k ∉ s.frz) {m : Nat} (hm : m = Nat.min rows.length n) (hm0 : 0 < m) (hfit : j + m ≤ ob.rows.length) (hone : (rows.take m).all (fun r => r.all AV.one) = true) :
    RunsTo P s o ⟨.int .i64 m, [(k, ⟨ob.ty, ob.sz, ob.closed && cl, putRows ob.rows j (rows.take m)⟩)], rd, []⟩ := by
  have hu := (hT.facts ht).slice hi
  intro a w ok μ hr
  have hxo : VRel w ok μ (.osl k j n) (a.eval x) := hxv ▸ (aev_rel hr hx).ocap
  have hyo := (aev_rel hr hy).ocap
  obtain ⟨A, cap, news, e1, e2, e3, e4, e5, e6⟩ := arows_rel (P := P) hr hs hrows hyo
  have hlenm : (rows.take m).length = m := by rw [List.length_take, hm]; exact Nat.min_eq_left (Nat.min_le_left _ _)
  have hmr : m ≤ rows.length := by rw [hm]; exact Nat.min_le_left _ _
  have hmn : m ≤ n := by rw [hm]; exact Nat.min_le_right _ _
  have hcells := e4 w rfl m hmr
  generalize hxe : a.eval x = xu at hxo
  cases hxo with
  | osl0 => omega
  | osl _ _ _ _ b sz c hmu h1 h2 hs' =>
    obtain ⟨cs, ty, hb, hle⟩ := hs'
    have hobj : μ k = some (b, ob.sz) ∧ w.heap[b]? = some (.cells cs ob.ty (0, 0)) ∧ sz = ob.sz ∧ ob.rows.length * ob.sz ≤ cs.size ∧ RowsRel w ok (ob.mu μ) ob.sz ob.rows cs := by
      rcases hr.wf.obj k ob hob with ⟨b', cs', q1, q2, q3, q4, q5, q6⟩ | ⟨_, q1⟩
      · rw [hmu] at q1; injection q1 with q1; injection q1 with e1 e2
        subst e1
        rw [hb] at q2; injection q2 with q2; injection q2 with q2 q2'
        subst q2
        exact ⟨e2 ▸ hmu, q2' ▸ hb, e2, q3, q6⟩
      · rw [hmu] at q1; cases q1
    obtain ⟨g1, g2, g3, g4, g5⟩ := hobj
    subst g3
    have hnsz : (news.extract 0 (m * ei.size)).size = m * ei.size := by
      rw [Array.size_extract, e5]
      have := Nat.mul_le_mul_right ei.size hmr
      omega
    have hnew : RowsRel w ok (if cl = true then mu0 else μ) ob.sz (rows.take m) (news.extract 0 (m * ei.size)) := by
      rw [hsz]
      refine ⟨fun jj hj => ?_, fun jj hj q hq => ?_⟩
      · rw [List.getElem_take]; exact e6.len jj (by rw [hlenm] at hj; omega)
      · have hj' : jj < m := by rw [hlenm] at hj; exact hj
        have e : (rows.take m)[jj] = rows[jj] := List.getElem_take
        have hq' : q < rows[jj].length := by rw [e] at hq; exact hq
        obtain ⟨u, a1, a2⟩ := e6.at_ jj (by omega) q hq'
        refine ⟨u, ?_, by simp only [e]; exact a2⟩
        have hql : q < ei.size := by rw [← e6.len jj (by omega)]; exact hq'
        have hlt : jj * ei.size + q < m * ei.size := by
          have : (jj + 1) * ei.size ≤ m * ei.size := Nat.mul_le_mul_right _ hj'
          rw [Nat.add_mul, Nat.one_mul] at this
          omega
        rw [Array.getElem?_extract, if_pos (by rw [e5]; have := Nat.mul_le_mul_right ei.size hmr; omega), Nat.zero_add]
        exact a1
    have honeN : ∀ v ∈ (news.extract 0 (m * ei.size)).toList, v.oneCell' = true := by
      intro v hv
      obtain ⟨z, hz1, rfl⟩ := List.mem_iff_getElem.1 hv
      simp only [Array.length_toList] at hz1
      rw [hnsz] at hz1
      have hj : z / ei.size < (rows.take m).length := by rw [hlenm, Nat.div_lt_iff_lt_mul hs]; exact hz1
      have hq : z % ei.size < (rows.take m)[z / ei.size].length := by rw [hnew.len _ hj, hsz]; exact Nat.mod_lt _ hs
      obtain ⟨u, a1, a2⟩ := hnew.at_ _ hj _ hq
      rw [hsz, show z / ei.size * ei.size + z % ei.size = z by rw [Nat.mul_comm]; exact Nat.div_add_mod _ _, Array.getElem?_eq_getElem (by rw [hnsz]; exact hz1)] at a1
      injection a1 with a1
      rw [Array.getElem_toList, a1]
      refine a2.one ?_
      rw [List.all_eq_true] at hone
      have := hone _ (List.getElem_mem hj)
      rw [List.all_eq_true] at this
      exact this _ (List.getElem_mem hq)
    have hcs : (j + (rows.take m).length) * ob.sz ≤ cs.size := by rw [hlenm]; exact Nat.le_trans (Nat.mul_le_mul_right _ hfit) g4
    obtain ⟨cs', p1, p2, p3⟩ := store_rows (P := P) (cl := cl) hr hob g1 g2 g5 (by omega) hcs (by rw [hnsz, hlenm, hsz]) hnew honeN
    refine ⟨goInt m, w.setRow b cs', .inl ?_, ?_⟩
    · have hmm : Nat.min rows.length n = m := hm.symm
      unfold execOp
      have hlenY : (Builtin.lenOf (a.eval y)).run P w = .ok rows.length w := by rw [e1]; rfl
      simp [ho, resolve, invoke, builtin, Builtin.copy_, hxe, run_underlying hu, hlenY, hmm, (hT.facts he).run_sizeOf, hcells]
      have hst : (storeCells ⟨b, j * ob.sz, none⟩ (news.extract 0 (m * ei.size)).toList).run P w = .ok () (w.setRow b cs') := p1
      simp at hst
      simp [hst]
    · refine Left.turn hr hob hz g1 g2 p2 (by rw [putRows_len (by omega), hlenm, Nat.max_eq_left hfit]; exact g4) p3 rd (fun _ => .int _ _ _)

/-! ### slices.overlaps, at two objects -/
theorem overlaps_ok {T : Tab} (hT : TOk P T) {s : AS} {o : Oper} {f : FuncId} {x y : Operand} {ts : Array TypeId} (ho : o.op = .call { callee := .value (.func f), args := #[x, y], argTypes := ts }) {tS tR e : TypeId} {i ei : TI} (ht : tget T tS = some i) (hi : i.kind = .slice e) (he : tget T e = some ei) (hs : 0 < ei.size)
    (hcall : ∀ vals w, (callFunc f vals).run P w = ((Extern.SlicesOverlaps.overlaps #[tS, tS] #[tR] vals).run P w).andThen fun v w' => .ok (.value v) w') {k j n k' j' n' c' : Nat} (hx : aev s.env x = some (.osl k j n)) (hy : aev s.env y = some (.osc k' j' n' c')) (hn : 0 < n) (hc' : 0 < c') (hne : k ≠ k')
    {ob ob' : AObj} (hob : hget s.heap k = some ob) (hob' : hget s.heap k' = some ob') (hsz' : ob'.sz = ei.size) : RunsTo P s o (.pure (.bool false)) :=
  .pure fun a w ok μ hr => by
    have hu := (hT.facts ht).slice hi
    have hxv := aev_rel hr hx
    have hyv := aev_rel hr hy
    generalize hxe : a.eval x = xu at hxv
    generalize hye : a.eval y = yu at hyv
    cases hxv with
    | osl0 => omega
    | osl _ _ _ _ b sz c hm h1 h2 hs1 =>
      cases hyv with
      | osc _ _ _ _ b' sz' _ hm' h1' h2' hs2 =>
        obtain ⟨cs, ty, g1, g2⟩ := hs1
        obtain ⟨cs', ty', g1', g2'⟩ := hs2
        have hbb : b ≠ b' := fun e => hne (hr.wf.inj k k' ob ob' b sz sz' hob hob' hm (e ▸ hm'))
        have hsz2 : sz' = ei.size := by
          rcases hr.wf.obj k' ob' hob' with ⟨b2, cs2, q1, _⟩ | ⟨_, q1⟩
          · rw [hm'] at q1; injection q1 with q1; injection q1 with _ q1; rw [q1, hsz']
          · rw [hm'] at q1; cases q1
        have hpos : cs'.size ≠ 0 := by
          have : 0 < (j' + c') * sz' := Nat.mul_pos (by omega) (by omega)
          omega
        refine ⟨.bool false, ?_, .bool _ _⟩
        have hrun := Lib.run_overlaps_apart (P := P) w tS tR e hu ei.size (fun w => (hT.facts he).run_sizeOf w) ⟨b, j * sz, none⟩ ⟨b', j' * sz', none⟩ n c n' c' hbb ty ty' cs.size cs'.size (by simp [World.shape?, g1]) (by simp [World.shape?, g1']) hpos
          (by simp [World.frozen?, g1]) (by simp [World.frozen?, g1])
        unfold execOp
        have hf1 : a.eval (.func f) = .func (.func f) #[] #[] := rfl
        simp [ho, resolve, hf1, Deferred.ofValue, invoke, hxe, hye, hcall, hrun]
end Go.Qd
set_option linter.unusedVariables false
set_option linter.unusedSimpArgs false
namespace Go.Qd
open Go Go.RowKit
variable {P : Program}

/-! ### Operations on slices whose room is known -/
def aslice2 (T : Tab) (s : AS) (t : TypeId) (k j n c : Nat) (lo hi : Option Operand) : Option Out :=
  match aopt s.env lo, aopt s.env hi, asliceT T t with
  | some l, some h, some sz => match oslice s.heap sz k j n c l h with
    | some r => some ⟨r, [], [k], []⟩
    | none => none
  | _, _, _ => none
def aop2 (T : Tab) (s : AS) (key : Nat) : Op → Option Out
  | .move x => match aev s.env x with | some v => some (.pure v) | none => none
  | .assign x => match aev s.env x with | some v => some (.pure v) | none => none
  | .slice t x lo hi none => match aev s.env x with
    | some (.osc k j n c) => aslice2 T s t k j n c lo hi
    | _ => aop T s.dim key (.slice t x lo hi none)
  | op => aop T s.dim key op
theorem aop2_sound {T : Tab} (hT : TOk P T) {s : AS} {o : Oper} {key : Nat} {out : Out} (h : aop2 T s key o.op = some out) : RunsTo P s o out := by
  unfold aop2 at h
  split at h
  · rename_i x ho
    split at h
    · rename_i v hv; injection h with h; subst h; exact move_ok (.inl ho) hv
    · cases h
  · rename_i x ho
    split at h
    · rename_i v hv; injection h with h; subst h; exact move_ok (.inr ho) hv
    · cases h
  · rename_i t x lo hi ho
    split at h
    · rename_i k j n c hx
      unfold aslice2 at h
      split at h
      · rename_i l hh sz h2 h3 h5
        split at h
        · rename_i r hr
          injection h with h; subst h
          obtain ⟨i, e, ei, g1, g2, g3, g4⟩ := asliceT_spec h5
          subst g4
          exact (oslice_ok hT ho g1 g2 g3 hx h2 h3 hr).rd
        · cases h
      · cases h
    · exact RunsTo.dim (aop_sound hT (key := key) (ho ▸ h))
  · exact RunsTo.dim (aop_sound hT (key := key) h)
theorem oslice_loc {h h' : Heap} {sz k j n c : Nat} {r : AV} {lo hi : Option Int} (hc : oslice h sz k j n c lo hi = some r) (hh : hget h' k = hget h k) : oslice h' sz k j n c lo hi = some r := by
  unfold oslice at hc ⊢
  have : keySize h' (.osl k j n) sz = keySize h (.osl k j n) sz := keySize_loc fun k' hk => by simp only [keysP, List.mem_singleton] at hk; subst hk; exact hh
  rw [this]; exact hc
theorem Agree.dim {ops : Array Oper} {o : Oper} {out : Out} {s s' : AS} (h : Agree ops o out s s') : Agree ops o out s.dim s'.dim :=
  ⟨h.fb, h.nt, fun t ht => by simp only [AS.dim, eget_dimE, h.env t ht], h.heap, h.frz⟩
theorem aop2_loc {T : Tab} {ops : Array Oper} {o : Oper} {s s' : AS} {key : Nat} {out : Out} (h : aop2 T s key o.op = some out) (hA : Agree ops o out s s') : aop2 T s' key o.op = some out := by
  have hev := agree_ev hA
  have hdim : ∀ op, o.op = op → aop T s.dim key op = some out → aop T s'.dim key op = some out := fun op ho h => by subst ho; exact aop_loc h hA.dim
  unfold aop2 at h
  split at h
  · rename_i x ho
    rw [ho] at hev ⊢
    simp only [aop2, hev x (by simp [Op.operands])]; exact h
  · rename_i x ho
    rw [ho] at hev ⊢
    simp only [aop2, hev x (by simp [Op.operands])]; exact h
  · rename_i t x lo hi ho
    rw [ho] at hev
    have h1 := hev x (by simp [Op.operands])
    have h2 : aopt s'.env lo = aopt s.env lo := aopt_loc fun y hy => by subst hy; exact hev y (by simp [Op.operands])
    have h3 : aopt s'.env hi = aopt s.env hi := aopt_loc fun y hy => by subst hy; exact hev y (by simp [Op.operands])
    rw [ho]
    simp only [aop2, h1]
    split at h
    · rename_i k j n c hx
      unfold aslice2 at h ⊢
      rw [h2, h3]
      split at h
      · split at h
        · rename_i r hr
          injection h with h; subst h
          rw [oslice_loc hr (hA.heap _ (.inl (by simp)))]
        · cases h
      · cases h
    · exact hdim _ ho h
  · rename_i op h1 h2 h3
    have := hdim _ rfl h
    unfold aop2
    split
    · rename_i x ho; exact absurd ho (h1 x)
    · rename_i x ho; exact absurd ho (h2 x)
    · rename_i t x lo hi ho; exact absurd ho (h3 t x lo hi)
    · exact this
theorem AOps.op2 {T : Tab} (hT : TOk P T) {ops : Array Oper} {o : Oper} {rest : List Oper} {s s' : AS} {N : AS → Prop} {out : Out} (hg : o.guard = none) (hd : dstOk s o.dst = true) (h : aop2 T s (s.key o.dst) o.op = some out) (hs : s.apply o.dst out = s')
    (hn : AOps P ops rest s' N) : AOps P ops (o :: rest) s N := AOps.cons hg (dstOk_spec hd) (aop2_sound hT h) (hs ▸ hn)
theorem Loc.op2 {T : Tab} (hT : TOk P T) {ops : Array Oper} {o : Oper} {s : AS} {out : Out} (hg : o.guard = none) (hd : dstOk s o.dst = true) (h : aop2 T s (s.key o.dst) o.op = some out) : Loc P ops o out s := fun i ho s' hA => by
  have hk : s'.key o.dst = s.key o.dst := by unfold AS.key; rw [hA.fb]
  exact goes_op ho (by rw [dstOk_loc hA.nt]; exact hd) (aop2_sound hT (key := s'.key o.dst) (by rw [hk]; exact aop2_loc h hA)) (.inl hg)

/-! ### Leaving by one of several ways -/
theorem ICall.of_body' {T : Tab} (hT : TOk P T) {f : FuncId} {fn : Func} {c : Code} (hf : FnIs P f fn c) {args : List AV} {r : AV} {objs : List AObj} (hn : args.length ≤ fn.ntmps)
    (hb : AWP P c ⟨0, fn.ntmps, entryEnv 0 args, [], []⟩ (fun e s1 => isRet e ∧ ∃ ks : List Nat, ks.Nodup ∧ ∃ r0, ares T s1 fn.results.toList = some r0 ∧ lsA (convA (idxIn ks 0) s1.heap r0) = r ∧ keepO (idxIn ks 0) s1.heap ks = some objs ∧ ks.all (fun k => !s1.frz.contains k) = true)) : ICall P f args r objs := by
  intro w ok vals hok hv
  have hw0 : Wf [] [] w ok mu0 := ⟨hok, fun k o h => (by cases h), fun k x h => (by cases h), fun k k' o o' b s s' h => (by cases h)⟩
  have hent := enter_rel (fb := 0) (nt := fn.ntmps) hw0 (fun k x h => by cases h) hv hn
  refine calls_of_wp hf.get hf.body (cwp_wp rfl (cwp_mono (hb _ w ok mu0 hent) fun e a1 w1 hp => ?_))
  obtain ⟨s1, ok1, μ1, ⟨hk1, ks, hnd, r0, hk2, hk3, hk4, hk5⟩, h1, h2, h3, h4⟩ := hp
  have hren : Ren (idxIn ks 0) (fun i => ks[i]?) := ⟨fun k k' => by rw [idxIn_spec ks 0 k k' hnd]; simp⟩
  obtain ⟨v, hv1, hv2⟩ := ares_rel hT h3 hk2
  have hfz : ∀ k k', idxIn ks 0 k = some k' → (k' ∈ ([] : List Nat) ↔ k ∈ s1.frz) := by
    intro k k' hkk
    have hmem : k ∈ ks := by
      have := (idxIn_spec ks 0 k k' hnd).1 hkk
      exact List.mem_of_getElem? this.2
    rw [List.all_eq_true] at hk5
    have := hk5 k hmem
    simp only [Bool.not_eq_true', List.contains_eq_mem, decide_eq_false_iff_not] at this
    simp [this]
  have hhe : ∀ k, hget (enumH 0 objs) k = hget (convH (idxIn ks 0) s1.heap s1.heap) k := by
    intro k
    rw [hget_enum, if_pos (Nat.zero_le _), Nat.sub_zero, keepO_get hk4, hget_convH hren]
  have hst : Step 0 [] [] w ok mu0 (enumH 0 objs) [] w1 (okC (idxIn ks 0) s1.heap ok1 μ1) (muC (fun i => ks[i]?) μ1) :=
    ((h4.weaken (Nat.le_refl 0)).trans (Step.conv (frz' := []) hren (fun k hk => by omega) h3.wf hfz)).congr hhe
  have hres : VRel w1 (okC (idxIn ks 0) s1.heap ok1 μ1) (muC (fun i => ks[i]?) μ1) r v := hk3 ▸ (hv2.conv hren h3.wf).ls
  cases e <;> first
    | exact hk1.elim
    | exact ⟨h3.dfr, v, hv1, v, _, _, rfl, hres, (h3.wf.conv hren hfz).congr hhe, hst⟩
/-- What comes open may be read for good. -/
theorem ICall.close {f : FuncId} {args : List AV} {r : AV} {objs : List AObj} (h : ICall P f args r objs) : ICall P f args (lsA (convA (fun _ => none) (enumH 0 objs) r)) [] := by
  intro w ok vals hok hv
  refine Calls.mono (h w ok vals hok hv) fun e w' he => ?_
  obtain ⟨v, ok', μ', rfl, h1, h2, h3⟩ := he
  have hren : Ren (fun _ => none) (fun _ => none) := ⟨fun k k' => by simp⟩
  have hfz : ∀ k k', (fun _ => none : Nat → Option Nat) k = some k' → (k' ∈ ([] : List Nat) ↔ k ∈ ([] : List Nat)) := fun k k' h => by cases h
  have hhe : ∀ k, hget (enumH 0 []) k = hget (convH (fun _ => none) (enumH 0 objs) (enumH 0 objs)) k := fun k => by
    rw [hget_convH hren]; rfl
  refine ⟨v, _, _, rfl, (h1.conv hren h2).ls, (h2.conv hren hfz).congr hhe, ?_⟩
  exact (h3.trans (Step.conv (frz' := []) hren (fun k hk => by omega) h2 hfz)).congr hhe
end Go.Qd
set_option linter.unusedVariables false
set_option linter.unusedSimpArgs false
namespace Go.Qd
open Go Go.RowKit
variable {P : Program}

/-! ### Knowing less, and loops -/
/-- Of s1 nothing is known but of s. -/
structure Fits (s s1 : AS) : Prop where
  fb : s1.fb = s.fb
  nt : s1.nt = s.nt
  heap : ∀ k, hget s1.heap k = hget s.heap k
  frz : ∀ k, k ∈ s1.frz ↔ k ∈ s.frz
  env : ∀ t v, eget s1.env t = some v → eget s.env t = some v
theorem Fits.rel {s s1 : AS} (h : Fits s s1) {a : Act} {w : World} {ok : Nat → Prop} {μ : Mu} (hr : Rel s a w ok μ) : Rel s1 a w ok μ ∧ Step s.fb s.heap s.frz w ok μ s1.heap s1.frz w ok μ := by
  refine ⟨⟨hr.dfr, hr.nt.trans h.nt.symm, fun t v ht => hr.env t v (h.env t v ht), ?_, by unfold AS.top; rw [h.fb, h.nt]; exact hr.top⟩, ?_⟩
  · exact Wf.eqv (s := ⟨s.fb, s.nt, s.env, s.heap, s.frz⟩) (s' := ⟨s.fb, s.nt, s.env, s1.heap, s1.frz⟩) ⟨rfl, rfl, fun _ => rfl, h.heap, h.frz⟩ hr.wf
  · exact Step.eqv (s1 := ⟨s.fb, s.nt, s.env, s.heap, s.frz⟩) (s1' := ⟨s.fb, s.nt, s.env, s1.heap, s1.frz⟩) ⟨rfl, rfl, fun _ => rfl, h.heap, h.frz⟩ (Step.refl _ _ _ _ _ _)
theorem AWP.fits {c : Code} {s s1 : AS} {K : Exit → AS → Prop} (hf : Fits s s1) (h : AWP P c s1 K) : AWP P c s K := by
  intro a w ok μ hr
  obtain ⟨hr1, hs1⟩ := hf.rel hr
  exact cwp_mono (h a w ok μ hr1) fun e a' w' hp => Post.step (s := s) (s1 := s1) hf.fb hf.nt hs1 hp
/-- All that an environment says another says too. -/
def envIn : Env → Env → Prop
  | [], _ => True
  | (t, v) :: r, e => eget e t = some v ∧ envIn r e
theorem envIn_spec : ∀ {e1 e : Env}, envIn e1 e → ∀ t v, eget e1 t = some v → eget e t = some v := by
  intro e1
  induction e1 with
  | nil => intro e _ t v h; cases h
  | cons x r ih =>
    obtain ⟨k, u⟩ := x
    intro e h t v ht
    simp only [envIn] at h
    simp only [eget] at ht
    split at ht
    · rename_i e1; subst e1; injection ht with ht; subst ht; exact h.1
    · exact ih h.2 t v ht
theorem Fits.of {s : AS} {env : Env} {heap : Heap} {frz : List Nat} (h1 : envIn env s.env) (h2 : heap = s.heap) (h3 : frz = s.frz) : Fits s ⟨s.fb, s.nt, env, heap, frz⟩ := by
  subst h2; subst h3
  exact ⟨rfl, rfl, fun _ => rfl, fun _ => .rfl, envIn_spec h1⟩
/-- A loop by the states at its head. -/
theorem AWP.loopW {α : Type} {c : Code} {s : AS} {K : Exit → AS → Prop} (st : α → AS) (Inv : α → Prop) (m : α → Nat) (x0 : α) (h0 : Inv x0) (hs : Fits s (st x0))
    (round : ∀ x, Inv x → AWP P c (st x) (Then (fun s'' => ∃ y, Inv y ∧ m y < m x ∧ Fits s'' (st y)) K)) : AWP P (.loop c) s K := by
  refine AWP.loop (fun n s' => ∃ x, Inv x ∧ m x = n ∧ Fits s' (st x)) (m x0) ⟨x0, h0, rfl, hs⟩ ?_
  rintro n s' ⟨x, hx, rfl, hf⟩
  refine AWP.fits hf ((round x hx).mono fun e s'' hk => ?_)
  cases e with
  | normal =>
    obtain ⟨y, h1, h2, h3⟩ := hk
    exact ⟨m y, h2, y, h1, rfl, h3⟩
  | _ => exact hk
theorem AWP.anyR {id : Nat} {l : List Oper} {s0 s1 : AS} {outs : List Out} {K : Exit → AS → Prop} (hm : P.follows .mixedOrders = true) (ht : Trace P l.toArray s0 l outs s1) (hok : anyOk l.toArray outs l.length = true) (hK : K .normal s1) :
    AWP P (.region id l.toArray true) s0 K := AWP.anyT (l1 := l) (l2 := []) (by simp) hm ht hok (AOps.nil hK)
theorem AWP.anyC {id : Nat} {l : List Oper} (n : Nat) {s0 s1 : AS} {outs : List Out} {K : Exit → AS → Prop} (hm : P.follows .mixedOrders = true) (ht : Trace P l.toArray s0 (l.take n) outs s1) (hok : anyOk l.toArray outs (l.take n).length = true)
    (hK : AOps P l.toArray (l.drop n) s1 (K .normal)) : AWP P (.region id l.toArray true) s0 K := AWP.anyT (l1 := l.take n) (l2 := l.drop n) (by simp) hm ht hok hK
theorem ofConst_int (k : IntKind) (n : Int) : ofConst (.int k n) = some (.int k n) := rfl
theorem ofConst_bool (b : Bool) : ofConst (.bool b) = some (.bool b) := rfl
theorem ofConst_nilS : ofConst (.slice none 0 0) = some .esl := rfl
theorem ofConst_nilI : ofConst .nilIface = some .undef := rfl
theorem ofConst_nilF : ofConst .nilFunc = some .nilf := rfl
theorem ofConst_nilP : ofConst (.pointer none) = some .nilp := rfl
theorem wrap_nat {n : Nat} (h : n ≤ 9223372036854775807) : IntKind.i64.wrap (n : Int) = n := by rw [IntKind.wrap_i64]; omega
theorem wrap_succ {n : Nat} (h : n < 9223372036854775807) : IntKind.i64.wrap ((n : Int) + 1) = ((n + 1 : Nat) : Int) := by rw [IntKind.wrap_i64]; omega
end Go.Qd
set_option linter.unusedVariables false
set_option linter.unusedSimpArgs false
namespace Go.Qd
open Go Go.RowKit
variable {P : Program}

/-! ### A slice against nil, and a literal without elements -/
theorem eqnil_run {t : TypeId} {e : TypeId} (hu : P.underlying t = some (.slice e)) {op : BinOp} (hop : op = .eql ∨ op = .neq) (x y : Operand) (A : Option Addr) (n c : Nat) (w : World) :
    ∃ b, (do eqGuard op t x y (.slice A n c) (.slice none 0 0); binOp op t (.slice A n c) (.slice none 0 0)).run P w = .ok (.bool b) w ∧ (∀ a, A = some a → b = (op == .neq)) := by
  have heq : ∀ d, (Op.equalIn (d + 1) t (.slice A n c) (.slice none 0 0)).run P w = .ok A.isNone w := fun d => by
    cases A <;> simp [Op.equalIn, run_underlying hu]
  have hm : ∃ d, Op.maxDepth = d + 1 := ⟨_, rfl⟩
  obtain ⟨d, hd⟩ := hm
  rcases hop with rfl | rfl
  · refine ⟨A.isNone, ?_, fun a h => by subst h; rfl⟩
    simp [eqGuard, binOp, Op.equal, hd, heq]
  · refine ⟨!A.isNone, ?_, fun a h => by subst h; rfl⟩
    simp [eqGuard, binOp, Op.equal, hd, heq]
theorem slice_of {w : World} {ok : Nat → Prop} {μ : Mu} {p : AV} {n : Int} (h : alen p = some n) {v : Value} (hv : VRel w ok μ p v) : ∃ (A : Option Addr) (len cap : Nat), v = .slice A len cap ∧ (0 < n → ∃ a, A = some a) := by
  cases hv with
  | lst _ rows A cap sz us h1 h2 hs hc =>
    injection h with h
    exact ⟨A, _, cap, rfl, fun hp => by obtain ⟨b, off, e, _⟩ := hc (by omega); exact ⟨_, e⟩⟩
  | osl => exact ⟨_, _, _, rfl, fun _ => ⟨_, rfl⟩⟩
  | osl0 => injection h with h; exact ⟨_, _, _, rfl, fun hp => by omega⟩
  | esl => injection h with h; exact ⟨_, _, _, rfl, fun hp => by omega⟩
  | _ => cases h
/-- What has elements is not nil. -/
theorem eqnil_ok {T : Tab} (hT : TOk P T) {s : AS} {o : Oper} {op : BinOp} {t yt : Nat} {x : Operand} (ho : o.op = .binOp op t x (.const (.slice none 0 0)) yt) (hop : op = .eql ∨ op = .neq) {i : TI} {e : Nat} (ht : tget T t = some i) (hi : i.kind = .slice e) {p : AV} {n : Int}
    (hx : aev s.env x = some p) (hn : alen p = some n) (hp : 0 < n) : RunsTo P s o (.pure (.bool (op == .neq))) :=
  .pure fun a w ok μ hr => by
    obtain ⟨A, len, cap, e1, e2⟩ := slice_of hn (aev_rel hr hx)
    obtain ⟨b, h1, h2⟩ := eqnil_run ((hT.facts ht).slice hi) hop x (.const (.slice none 0 0)) A len cap w
    obtain ⟨ad, had⟩ := e2 hp
    have := h2 ad had
    subst this
    refine ⟨_, ?_, .bool _ _⟩
    unfold execOp
    have hc : a.eval (.const (.slice none 0 0)) = .slice none 0 0 := rfl
    simp only [Sem.run_bind] at h1
    simp only [ho, e1, hc, Sem.run_bind]
    rw [h1]; rfl
/-- Of what may be without elements it's not known. -/
theorem AOps.eqnil {T : Tab} (hT : TOk P T) {ops : Array Oper} {o : Oper} {rest : List Oper} {s : AS} {N : AS → Prop} (hg : o.guard = none) (hd : dstOk s o.dst = true) {op : BinOp} {t yt : Nat} {x : Operand} (ho : o.op = .binOp op t x (.const (.slice none 0 0)) yt) (hop : op = .eql ∨ op = .neq) {i : TI} {e : Nat}
    (ht : tget T t = some i) (hi : i.kind = .slice e) {p : AV} {n : Int} (hx : aev s.env x = some p) (hn : alen p = some n) (h : ∀ b, AOps P ops rest (s.apply o.dst (.pure (.bool b))) N) : AOps P ops (o :: rest) s N := by
  intro a w ok μ hr
  obtain ⟨A, len, cap, e1, e2⟩ := slice_of hn (aev_rel hr hx)
  obtain ⟨b, h1, h2⟩ := eqnil_run ((hT.facts ht).slice hi) hop x (.const (.slice none 0 0)) A len cap w
  obtain ⟨ok', μ', hr', hs'⟩ := hr.apply (Left.same hr [] (av := .bool b) (v := .bool b) (.bool _ _)) o.dst (dstOk_spec hd)
  refine oList_plain hg fun K hK => ?_
  have hc : a.eval (.const (.slice none 0 0)) = .slice none 0 0 := rfl
  simp only [Sem.run_bind] at h1
  unfold oOp execOp
  simp only [ho, e1, hc, Sem.run_bind]
  rw [h1]
  exact hK _ _ ((h b).after (s := s) rfl rfl hr' hs')
/-- Both: what has elements is not nil. -/
theorem AOps.eqnilC {T : Tab} (hT : TOk P T) {ops : Array Oper} {o : Oper} {rest : List Oper} {s : AS} {N : AS → Prop} (hg : o.guard = none) (hd : dstOk s o.dst = true) {op : BinOp} {t yt : Nat} {x : Operand} (ho : o.op = .binOp op t x (.const (.slice none 0 0)) yt) (hop : op = .eql ∨ op = .neq) {i : TI} {e : Nat}
    (ht : tget T t = some i) (hi : i.kind = .slice e) {p : AV} {n : Int} (hx : aev s.env x = some p) (hn : alen p = some n) (h : ∀ b, (0 < n → b = (op == .neq)) → AOps P ops rest (s.apply o.dst (.pure (.bool b))) N) : AOps P ops (o :: rest) s N := by
  by_cases hp : 0 < n
  · exact AOps.cons hg (dstOk_spec hd) (eqnil_ok hT ho hop ht hi hx hn hp) (h _ fun _ => rfl)
  · exact AOps.eqnil hT hg hd ho hop ht hi hx hn fun b => h b fun hp' => absurd hp' hp
/-- A literal without elements. -/
theorem build0_ok {T : Tab} (hT : TOk P T) {s : AS} {o : Oper} {t e : Nat} (ho : o.op = .buildSlice t 0 #[]) {i ei : TI} (ht : tget T t = some i) (hi : i.kind = .slice e) (he : tget T e = some ei) {key : Nat} (hfree : freeKey s key = true) : RunsTo P s o (.new .esl key ⟨e, ei.size, true, []⟩) := by
  obtain ⟨q1, q2, q3, q4⟩ := freeKey_spec hfree
  intro a w ok μ hr
  have hu := (hT.facts ht).slice hi
  obtain ⟨⟨j, z, hj, hjs, hjb, hjz, hzz⟩, _, _⟩ := hT.facts he
  refine ⟨.slice (some ⟨w.heap.size, 0, none⟩) 0 0, w.alloc (.cells #[] e), .inl ?_, (Left.new hr q1 q2 q3 (by simp) q4 ⟨fun j hj => absurd hj (by simp), fun j hj => absurd hj (by simp)⟩ (fun μ' _ _ _ => .esl _ _))⟩
  have hsz := (hT.facts he).run_sizeOf w
  unfold execOp
  simp [ho, Instr.buildSlice, run_underlying hu, hsz, Instr.fill, newRow]
  congr 2
  apply Array.ext'
  simp
/-! ### The same run, seen with another state -/
structure Thin (s s1 : AS) : Prop where
  fb : s1.fb = s.fb
  nt : s1.nt = s.nt
  go : ∀ a w ok μ, Rel s a w ok μ → ∃ ok' μ', Rel s1 a w ok' μ' ∧ Step s.fb s.heap s.frz w ok μ s1.heap s1.frz w ok' μ'
theorem Thin.refl (s : AS) : Thin s s := ⟨rfl, rfl, fun a w ok μ hr => ⟨ok, μ, hr, .refl _ _ _ _ _ _⟩⟩
theorem Thin.trans {a b c : AS} (h : Thin a b) (k : Thin b c) : Thin a c :=
  ⟨k.fb.trans h.fb, k.nt.trans h.nt, fun x w ok μ hr => by
    obtain ⟨ok1, μ1, h1, h2⟩ := h.go x w ok μ hr
    obtain ⟨ok2, μ2, h3, h4⟩ := k.go x w ok1 μ1 h1
    exact ⟨ok2, μ2, h3, h2.trans (h.fb ▸ h4)⟩⟩
theorem AWP.thin {c : Code} {s s1 : AS} {K : Exit → AS → Prop} (hf : Thin s s1) (h : AWP P c s1 K) : AWP P c s K := by
  intro a w ok μ hr
  obtain ⟨ok1, μ1, hr1, hs1⟩ := hf.go a w ok μ hr
  exact cwp_mono (h a w ok1 μ1 hr1) fun e a' w' hp => Post.step (s := s) (s1 := s1) hf.fb hf.nt hs1 hp
theorem AOps.thin {ops : Array Oper} {l : List Oper} {s s1 : AS} {N : AS → Prop} (hf : Thin s s1) (h : AOps P ops l s1 N) : AOps P ops l s N := by
  intro a w ok μ hr
  obtain ⟨ok1, μ1, hr1, hs1⟩ := hf.go a w ok μ hr
  exact h.after (s := s) hf.fb hf.nt hr1 hs1
theorem Thin.fits {s s1 : AS} (h : Fits s s1) : Thin s s1 := ⟨h.fb, h.nt, fun a w ok μ hr => by
  obtain ⟨h1, h2⟩ := h.rel hr
  exact ⟨ok, μ, h1, h2⟩⟩
theorem Thin.forget {s : AS} (k : Nat) (hk : s.fb ≤ k) : Thin s (s.forget k) := ⟨rfl, rfl, fun a w ok μ hr => by
  obtain ⟨μ', _, _, h1, h2⟩ := hr.forget k hk
  exact ⟨ok, μ', h1, h2⟩⟩
theorem Thin.frz {s : AS} (f : List Nat) (h : ∀ k, hget s.heap k ≠ none → (k ∈ f ↔ k ∈ s.frz)) : Thin s { s with frz := f } := ⟨rfl, rfl, fun a w ok μ hr => by
  refine ⟨ok, μ, ⟨hr.dfr, hr.nt, hr.env, ⟨hr.wf.okb, fun k o ho => ?_, hr.wf.dom, hr.wf.inj⟩, hr.top⟩, ⟨.refl _ _, rfl, rfl, rfl, Nat.le_refl _, fun _ _ _ => rfl, fun _ h => .inl h, ?_, fun _ _ _ h => h⟩⟩
  · rcases hr.wf.obj k o ho with ⟨b, cs, g1, g2, g3, g4, g5, g6⟩ | g
    · have := h k (by rw [ho]; simp)
      exact .inl ⟨b, cs, g1, g2, g3, fun hz => g4 (fun hz2 => hz (this.2 hz2)), fun hz => g5 (this.1 hz), g6⟩
    · exact .inr g
  · rintro b ⟨k, o, sz, h1, h2, h3⟩
    have := h k (by rw [h1]; simp)
    exact .inl ⟨k, o, sz, h1, fun hz => h2 (this.2 hz), h3⟩⟩
/-- A slice without room becomes the first of an object. -/
theorem Thin.ghost {s : AS} (t k ty sz : Nat) (ht : eget s.env t = some .esl) (hk : freeKey s k = true) : Thin s { s with env := eput s.env t (.osl k 0 0), heap := hput s.heap k ⟨ty, sz, true, []⟩ } := ⟨rfl, rfl, fun a w ok μ hr => by
  obtain ⟨k1, k2, k3, k4⟩ := freeKey_spec hk
  have hnone : μ k = none := by
    cases hm : μ k with
    | none => rfl
    | some x => obtain ⟨o, ho⟩ := hr.wf.dom k x hm; rw [k1] at ho; cases ho
  have hold : ∀ k' o', hget (hput s.heap k ⟨ty, sz, true, []⟩) k' = some o' → k' = k ∨ hget s.heap k' = some o' := fun k' o' h => by
    rw [hget_hput] at h
    split at h
    · rename_i e; exact .inl e.symm
    · exact .inr h
  refine ⟨ok, μ, ⟨hr.dfr, hr.nt, fun t' v' ht' => ?_, ⟨hr.wf.okb, fun k' o' ho' => ?_, fun k' x' hx' => ?_, fun a1 a2 o1 o2 b s1 s2 h1 h2 h3 h4 => ?_⟩, hr.top⟩, ⟨.refl _ _, rfl, rfl, rfl, Nat.le_refl _, fun _ _ _ => rfl, fun _ h => .inl h, ?_, fun _ _ _ h => h⟩⟩
  · simp only [eget_eput] at ht'
    split at ht'
    · rename_i e; subst e; injection ht' with ht'; subst ht'
      have := hr.env t _ ht
      generalize a.tmps.getD t Go.undef = x at this ⊢
      cases this with
      | esl _ A => exact .osl0 _ _ _ _
    · exact hr.env t' v' ht'
  · simp only [hget_hput] at ho'
    split at ho'
    · rename_i e; subst e; injection ho' with ho'; subst ho'
      exact .inr ⟨rfl, hnone⟩
    · exact hr.wf.obj k' o' ho'
  · simp only [hget_hput]
    split
    · exact ⟨_, rfl⟩
    · exact hr.wf.dom k' x' hx'
  · rcases hold a1 o1 h1 with rfl | g1
    · rw [hnone] at h3; cases h3
    · rcases hold a2 o2 h2 with rfl | g2
      · rw [hnone] at h4; cases h4
      · exact hr.wf.inj a1 a2 o1 o2 b s1 s2 g1 g2 h3 h4
  · rintro b ⟨k', o', s1, a1, a2, a3⟩
    rcases hold k' o' a1 with rfl | g
    · rw [hnone] at a3; cases a3
    · exact .inl ⟨k', o', s1, g, a2, a3⟩⟩
/-- What remains of a state: some slots, and the objects but for some. -/
def killsE : List Nat → Env → Env
  | [], e => e
  | k :: r, e => killsE r (killE k e)
def killsH : List Nat → Heap → Heap
  | [], h => h
  | k :: r, h => killsH r (killH k h)
theorem Thin.kills {s : AS} : ∀ (ks : List Nat) (s : AS), (∀ k, k ∈ ks → s.fb ≤ k) → Thin s { s with env := killsE ks s.env, heap := killsH ks s.heap } := by
  intro ks
  induction ks with
  | nil => intro s _; exact .refl s
  | cons k r ih =>
    intro s h
    exact (Thin.forget k (h k (by simp))).trans (ih (s.forget k) fun j hj => h j (by simp [hj]))
theorem Thin.of {s : AS} (env : Env) (ks : List Nat) (f : List Nat) {env1 : Env} {heap1 : Heap} (h1 : envIn env s.env) (h2 : ks.all (fun k => decide (s.fb ≤ k)) = true) (h3 : killsE ks env = env1) (h4 : killsH ks s.heap = heap1)
    (h5 : heap1.all (fun x => f.contains x.1 == s.frz.contains x.1) = true) : Thin s ⟨s.fb, s.nt, env1, heap1, f⟩ := by
  subst h3; subst h4
  have t1 : Thin s { s with env := env } := .fits ⟨rfl, rfl, fun _ => rfl, fun _ => .rfl, envIn_spec h1⟩
  have t2 := Thin.kills (s := s) ks { s with env := env } (fun k hk => by
    rw [List.all_eq_true] at h2
    simpa using h2 k hk)
  refine (t1.trans t2).trans (Thin.frz (s := { s with env := killsE ks env, heap := killsH ks s.heap }) f fun k hk => ?_)
  rw [List.all_eq_true] at h5
  have hin : ∀ (h : Heap), hget h k ≠ none → ∃ o, (k, o) ∈ h := by
    intro h
    induction h with
    | nil => intro hh; exact absurd rfl hh
    | cons x r ih =>
      obtain ⟨j, o⟩ := x
      intro hh
      simp only [hget] at hh
      split at hh
      · rename_i e; subst e; exact ⟨o, by simp⟩
      · obtain ⟨o', ho'⟩ := ih hh; exact ⟨o', by simp [ho']⟩
  obtain ⟨o, ho⟩ := hin _ hk
  have := h5 _ ho
  simp only [beq_iff_eq] at this
  show k ∈ f ↔ k ∈ s.frz
  rw [← List.contains_iff_mem, ← List.contains_iff_mem, this]
/-- A loop by the states at its head. -/
theorem AWP.loopT {α : Type} {c : Code} {s : AS} {K : Exit → AS → Prop} (st : α → AS) (Inv : α → Prop) (m : α → Nat) (x0 : α) (h0 : Inv x0) (hs : Thin s (st x0))
    (round : ∀ x, Inv x → AWP P c (st x) (Then (fun s'' => ∃ y, Inv y ∧ m y < m x ∧ Thin s'' (st y)) K)) : AWP P (.loop c) s K := by
  refine AWP.loop (fun n s' => ∃ x, Inv x ∧ m x = n ∧ Thin s' (st x)) (m x0) ⟨x0, h0, rfl, hs⟩ ?_
  rintro n s' ⟨x, hx, rfl, hf⟩
  refine AWP.thin hf ((round x hx).mono fun e s'' hk => ?_)
  cases e with
  | normal =>
    obtain ⟨y, h1, h2, h3⟩ := hk
    exact ⟨m y, h2, y, h1, rfl, h3⟩
  | _ => exact hk
theorem AOps.growS {T : Tab} (hT : TOk P T) {ops : Array Oper} {o : Oper} {rest : List Oper} {s : AS} {N : AS → Prop} (hg : o.guard = none) {d : Nat} (hd : o.dst = some d) (hdn : dstOk s (some d) = true) {t : Nat} {x y : Operand}
    (ho : o.op = .call { callee := .builtin .append, args := #[x, y], argTypes := #[t, t] }) {i ei : TI} {e k n : Nat} (ht : tget T t = some i) (hi : i.kind = .slice e) (he : tget T e = some ei) (hx : aev s.env x = some (.osl k 0 n)) {yv : AV}
    (hy : aev s.env y = some yv) {ob : AObj} (hob : hget s.heap k = some ob) {rows : List (List AV)} {rd : List Nat} (hrows : arows s.heap ei.size yv = some (rows, rd, true)) (hcl : ob.closed = true) (hty : ob.ty = e) (hsz : ob.sz = ei.size)
    (hs : 0 < ei.size) (hb0 : 0 < ei.bytes) (hz0 : ei.zero.length = ei.size) (hone : rows.all (fun r => r.all AV.one) = true) (hlen : ob.rows.length = n) (hb : (n + rows.length) * ei.bytes ≤ 140737488355328) (hk : (decide (s.fb ≤ k) && decide (k < s.top) && !s.frz.contains k) = true)
    {s' : AS} (hs' : s.grown d k (n + rows.length) ⟨e, ei.size, true, ob.rows ++ rows⟩ = s') (hn : AOps P ops rest s' N) : AOps P ops (o :: rest) s N := by
  simp only [Bool.and_eq_true, decide_eq_true_eq, Bool.not_eq_true', List.contains_eq_mem, decide_eq_false_iff_not] at hk
  subst hs'
  exact AOps.grow hT hg hd (dstOk_spec hdn d rfl) ho ht hi he hx hy hob hrows hcl hty hsz hlen hone hs hb0 hz0 hb hk.1.1 hk.1.2 hk.2 hn
theorem AOps.build0 {T : Tab} (hT : TOk P T) {ops : Array Oper} {o : Oper} {rest : List Oper} {s s' : AS} {N : AS → Prop} (hg : o.guard = none) (hd : dstOk s o.dst = true) {t e : Nat} (ho : o.op = .buildSlice t 0 #[]) {i ei : TI} (ht : tget T t = some i) (hi : i.kind = .slice e) (he : tget T e = some ei)
    (hfree : freeKey s (s.key o.dst) = true) (hs : s.apply o.dst (.new .esl (s.key o.dst) ⟨e, ei.size, true, []⟩) = s') (hn : AOps P ops rest s' N) : AOps P ops (o :: rest) s N :=
  AOps.cons hg (dstOk_spec hd) (build0_ok hT ho ht hi he hfree) (hs ▸ hn)
theorem AOps.eqnilS {T : Tab} (hT : TOk P T) {ops : Array Oper} {o : Oper} {rest : List Oper} {s s' : AS} {N : AS → Prop} (hg : o.guard = none) (hd : dstOk s o.dst = true) {op : BinOp} {t yt : Nat} {x : Operand} (ho : o.op = .binOp op t x (.const (.slice none 0 0)) yt) (hop : op = .eql ∨ op = .neq) {i : TI} {e : Nat}
    (ht : tget T t = some i) (hi : i.kind = .slice e) {p : AV} {n : Int} (hx : aev s.env x = some p) (hn : alen p = some n) (hp : 0 < n) (hs : s.apply o.dst (.pure (.bool (op == .neq))) = s') (h : AOps P ops rest s' N) : AOps P ops (o :: rest) s N :=
  AOps.cons hg (dstOk_spec hd) (eqnil_ok hT ho hop ht hi hx hn hp) (hs ▸ h)
/-- A function and its contract. -/
def Con (P : Program) (f : FuncId) (args : List AV) (r : AV) (objs : List AObj) : Prop := (∃ fn c, FnIs P f fn c) ∧ ICall P f args r objs
theorem AOps.con {M : Meths} (hM : MOk P M) {ops : Array Oper} {o : Oper} {rest : List Oper} {s : AS} {N : AS → Prop} {f : FuncId} {cl : List AV} {r : AV} {objs : List AObj} (hc : Con P f cl r objs) (hg : o.guard = none) (hd : dstOk s o.dst = true) {l : List AV} (hca : acall M s.env o.op = some (f, l))
    (hcl' : closeL s.heap l = cl) {base : Nat} (hb : s.key o.dst = base) (hfree : freeKeys s base objs.length = true) (hfk : (List.range objs.length).all (fun i => !(keysL l).contains (base + i)) = true)
    (hcl : objs.all (·.closed) = true) {s' : AS} (hs : s.gave o.dst base (keysL l) r objs = s') (hn : AOps P ops rest s' N) : AOps P ops (o :: rest) s N := by
  obtain ⟨⟨fn, c, hf⟩, hi⟩ := hc
  exact AOps.icallC hM hg hd hca hf hcl' hi hfree hfk hcl hs hn
theorem Loc.con {M : Meths} (hM : MOk P M) {ops : Array Oper} {o : Oper} {s : AS} {f : FuncId} {cl : List AV} {r : AV} {objs : List AObj} (hc : Con P f cl r objs) (hg : o.guard = none) (hd : dstOk s o.dst = true) {l : List AV} (hca : acall M s.env o.op = some (f, l))
    (hcl' : closeL s.heap l = cl) {base : Nat} (hb : s.key o.dst = base) (hfree : freeKeys s base objs.length = true) (hfk : (List.range objs.length).all (fun i => !(keysL l).contains (base + i)) = true)
    (hcl : objs.all (·.closed) = true) {out : Out} (hout : callOut base (keysL l) r objs = out) : Loc P ops o out s := by
  obtain ⟨⟨fn, c, hf⟩, hi⟩ := hc
  exact Loc.icall hM hg hd hca hf hcl' hi hfree hfk hcl hout
/-- To the state y, forgetting the objects ks. -/
theorem Thin.to {s : AS} {y : AS} (ks : List Nat) (h0 : y.fb = s.fb) (h00 : y.nt = s.nt) (h2 : ks.all (fun k => decide (s.fb ≤ k)) = true) (h3 : killsE ks y.env = y.env) (h5 : y.heap.all (fun x => y.frz.contains x.1 == s.frz.contains x.1) = true) (h1 : envIn y.env s.env) (h4 : killsH ks s.heap = y.heap) : Thin s y := by
  obtain ⟨fb, nt, env, heap, frz⟩ := y
  simp only at h0 h00
  subst h0; subst h00
  exact Thin.of env ks frz h1 h2 h3 h4 h5
theorem splice_zero_cons {a b : AV} {l m : List AV} : splice (a :: l) 0 (b :: m) = b :: splice l 0 m := by
  simp [splice, Nat.add_comm]
theorem splice_zero_nil {l : List AV} : splice l 0 [] = l := by simp [splice]
theorem splice_succ {a : AV} {l m : List AV} {n : Nat} : splice (a :: l) (n + 1) m = a :: splice l n m := by
  simp [splice, Nat.add_right_comm]
theorem splice_all {l new : List AV} (h : new.length = l.length) : splice l 0 new = new := by simp [splice, h]
end Go.Qd
set_option linter.unusedVariables false
set_option linter.unusedSimpArgs false
namespace Go.Qd
open Go Go.RowKit
variable {P : Program}

/-- An append onto a slice of an object that others may see: in its place, or in a new one. -/
theorem AOps.appendC {T : Tab} (hT : TOk P T) {ops : Array Oper} {o : Oper} {rest : List Oper} {s : AS} {N : AS → Prop} (hg : o.guard = none) {d : Nat} (hd : o.dst = some d) (hdn : dstOk s (some d) = true) {t : Nat} {x y : Operand}
    (ho : o.op = .call { callee := .builtin .append, args := #[x, y], argTypes := #[t, t] }) {i ei : TI} {e k n : Nat} (ht : tget T t = some i) (hi : i.kind = .slice e) (he : tget T e = some ei) (hx : aev s.env x = some (.osl k 0 n)) {yv : AV}
    (hy : aev s.env y = some yv) {ob : AObj} (hob : hget s.heap k = some ob) {rows : List (List AV)} {rd : List Nat} (hrows : arows s.heap ei.size yv = some (rows, rd, true)) (hcl : ob.closed = true) (hty : ob.ty = e) (hsz : ob.sz = ei.size)
    (hs : 0 < ei.size) (hb0 : 0 < ei.bytes) (hz0 : ei.zero.length = ei.size) (hone : rows.all (fun r => r.all AV.one) = true) (hlen : ob.rows.length = n) (hb : (n + rows.length) * ei.bytes ≤ 140737488355328) (hz : k ∉ s.frz) (hpos : 0 < rows.length)
    {key : Nat} (hfree : freeKey s key = true) (hA : AOps P ops rest (s.apply (some d) ⟨.osl k 0 (n + rows.length), [(k, ⟨e, ei.size, true, ob.rows ++ rows⟩)], [], []⟩) N) (hB : AOps P ops rest (s.apply (some d) (.new (.osl key 0 (n + rows.length)) key ⟨e, ei.size, true, ob.rows ++ rows⟩)) N) :
    AOps P ops (o :: rest) s N := by
  obtain ⟨k1, k2, k3, k4⟩ := freeKey_spec hfree
  intro a w ok μ hr
  have hu := (hT.facts ht).slice hi
  have hxv := aev_rel hr hx
  have hyv := aev_rel hr hy
  obtain ⟨B, capy, news, e1, e2, e3, e4, e5⟩ := firstCells_drew (P := P) hr hs hrows hyv
  rw [if_pos rfl] at e5
  have hlenY : (Builtin.lenOf (a.eval y)).run P w = .ok rows.length w := by rw [e1]; rfl
  have honeN : ∀ v ∈ news.toList, v.oneCell' = true := by
    intro v hv
    obtain ⟨z, hz1, rfl⟩ := List.mem_iff_getElem.1 hv
    simp only [Array.length_toList] at hz1
    have hj : z / ei.size < rows.length := by rw [Nat.div_lt_iff_lt_mul hs, ← e4]; exact hz1
    have hq : z % ei.size < rows[z / ei.size].length := by rw [e5.len _ hj]; exact Nat.mod_lt _ hs
    obtain ⟨u, g1, g2⟩ := e5.at_ _ hj _ hq
    rw [Nat.mul_comm, Nat.div_add_mod, Array.getElem?_eq_getElem hz1] at g1
    injection g1 with g1
    rw [Array.getElem_toList, g1]
    refine g2.one ?_
    rw [List.all_eq_true] at hone
    have := hone _ (List.getElem_mem hj)
    rw [List.all_eq_true] at this
    exact this _ (List.getElem_mem hq)
  -- what is left to show, from the run and the state behind it
  have fin : ∀ v w' out, (Builtin.append_ #[t, t] o.type #[a.eval x, a.eval y]).run P w = .ok v w' → AOps P ops rest (s.apply (some d) out) N → Left s w ok μ out v w' → oList P ops (Post s w ok μ (Then N (fun _ _ => False))) (o :: rest) a w := by
    intro v w' out hrun hn hl
    obtain ⟨ok', μ', hrel, hstep⟩ := hr.apply hl (some d) (dstOk_spec hdn)
    refine oList_plain hg fun K hK => ?_
    unfold oOp execOp
    simp only [ho, resolve, invoke, builtin, Sem.run_bind, Sem.run_pure, Result.andThen_ok, List.map_toArray, List.map_cons, List.map_nil, hrun, oupon]
    rw [hd]
    exact hK _ _ (hn.after (s := s) rfl rfl hrel hstep)
  -- the old slice
  obtain ⟨A, cap, hxe, hcap, hcm, hblk⟩ : ∃ (A : Option Addr) (cap : Nat), a.eval x = .slice A n cap ∧ n ≤ cap ∧ cap ≤ maxLen ∧ ((n = 0 ∧ cap = 0) ∨ ∃ (b : Nat) (cs : Array Value), A = some ⟨b, 0, none⟩ ∧ μ k = some (b, ei.size) ∧ w.heap[b]? = some (.cells cs e (0, 0)) ∧ cap * ei.size ≤ cs.size ∧
      RowsRel w ok mu0 ei.size ob.rows cs) := by
    generalize a.eval x = u at hxv
    cases hxv with
    | osl0 _ _ _ A => exact ⟨A, 0, rfl, Nat.le_refl _, Nat.zero_le _, .inl ⟨rfl, rfl⟩⟩
    | osl _ _ _ _ b sz cap hm h1 h2 hs' =>
      rcases hr.wf.obj k ob hob with ⟨b', cs, g1, g2, g3, g4, g5, g6⟩ | ⟨_, g1⟩
      · rw [hm] at g1; injection g1 with g1; injection g1 with e1 e2'; subst e1
        rw [hsz] at e2' g6; subst e2'
        rw [hty] at g2
        unfold AObj.mu at g6
        rw [if_pos hcl] at g6
        obtain ⟨cs2, ty2, q1, q2⟩ := hs'
        rw [g2] at q1; injection q1 with q1; injection q1 with q1 _ _; subst q1
        rw [Nat.zero_add] at q2
        exact ⟨_, cap, by rw [Nat.zero_mul], h1, h2, .inr ⟨b, cs, rfl, hm, g2, q2, g6⟩⟩
      · rw [hm] at g1; cases g1
  by_cases hroom : n + rows.length ≤ cap
  · -- there is room
    rcases hblk with ⟨h0, hc0⟩ | ⟨b, cs, rfl, hm, hcs, hfit, hrr⟩
    · omega
    · -- in place
      have hjn : n ≤ ob.rows.length := by omega
      obtain ⟨cs', s1, s2, s3⟩ := store_rows (P := P) (cl := true) hr (j := n) (cs := cs) (news := news) (new := rows) hob (by rw [hsz]; exact hm) (by rw [hty]; exact hcs) (by unfold AObj.mu; rw [if_pos hcl, hsz]; exact hrr) hjn
        (by rw [hsz]; exact Nat.le_trans (Nat.mul_le_mul_right _ hroom) hfit) (by rw [hsz]; exact e4) (by rw [if_pos rfl, hsz]; exact e5) honeN
      have hpr : putRows ob.rows n rows = ob.rows ++ rows := by
        unfold putRows; rw [List.take_of_length_le (by omega), List.drop_eq_nil_of_le (by omega), List.append_nil]
      rw [hpr, hcl] at s3
      simp only [Bool.and_self, if_true] at s3
      have hrun : (Builtin.append_ #[t, t] o.type #[a.eval x, a.eval y]).run P w = .ok (.slice (some ⟨b, 0, none⟩) (n + rows.length) cap) (w.setRow b cs') := by
        obtain ⟨⟨j, z, hj, hjs, hjb, hjz, hzz⟩, _, _⟩ := hT.facts he
        rw [hxe]
        rw [hsz] at s1
        simp [Builtin.append_, run_underlying hu, sizeOf, typeInfo, hj, hlenY, hjs, e2, hroom, addr_add, s1]
      have hl : Left s w ok μ ⟨.osl k 0 (n + rows.length), [(k, ⟨ob.ty, ob.sz, true, ob.rows ++ rows⟩)], [], []⟩ (.slice (some ⟨b, 0, none⟩) (n + rows.length) cap) (w.setRow b cs') := by
        refine Left.turn hr hob hz (by rw [hsz]; exact hm) (by rw [hty]; exact hcs) s2 ?_ (by rw [if_pos rfl]; exact s3) [] (fun hkp => ?_)
        · rw [List.length_append, hlen, hsz]; exact Nat.le_trans (Nat.mul_le_mul_right _ hroom) hfit
        · have := VRel.osl (w := w.setRow b cs') (ok := ok) μ k 0 (n + rows.length) b ei.size cap hm hroom hcm ⟨cs', e, by rw [setRow_heap w b cs cs' e (0, 0) hcs], by rw [Nat.zero_add, s2]; exact hfit⟩
          rw [Nat.zero_mul] at this; exact this
      rw [hty, hsz] at hl
      exact fin _ _ _ hrun hA hl
  · -- a new array
    have hold : ∃ old, (Builtin.firstCells ei.size n (.slice A n cap)).run P w.drew = .ok old w.drew ∧ old.size = n * ei.size ∧ RowsRel w ok mu0 ei.size ob.rows old := by
      have ha : arows s.heap ei.size (.osl k 0 n) = some ((ob.rows.drop 0).take n, [k], ob.closed) := by
        simp only [arows, hob]; rw [if_pos ⟨hsz, by omega⟩]
      obtain ⟨B', cap', old, q1, q2, q3, q4, q5⟩ := firstCells_drew (P := P) hr hs ha hxv
      rw [List.drop_zero, List.take_of_length_le (by omega)] at q1 q2 q3 q4 q5
      rw [hcl, if_pos rfl] at q5
      rw [hxe, hlen] at q3
      exact ⟨old, q3, by rw [q4, hlen], q5⟩
    obtain ⟨old, q1, q2, q3⟩ := hold
    obtain ⟨nc, rst, g1, g2, g3, g4⟩ := run_append_grow' (ty := o.type) hu (hT.facts he) w hlenY (sLen := n) (sCap := cap) (base := A) hroom hcap hb hb0 hz0 q1 e3
    obtain ⟨hrd, hsd⟩ := hr.drew
    have hfull : (old ++ news ++ rst).size = nc * ei.size := by
      simp only [Array.size_append, q2, e4, g4]
      rw [← Nat.add_mul, ← Nat.add_mul]; congr 1; omega
    have hcell : RowsRel w.drew ok mu0 ei.size (ob.rows ++ rows) (old ++ news ++ rst) := by
      have q3' := q3.mono hsd.kept (MuLe.refl mu0)
      have e5' := e5.mono hsd.kept (MuLe.refl mu0)
      refine ⟨fun j hj => ?_, fun j hj q hq => ?_⟩
      · rw [List.getElem_append]
        split
        · exact q3'.len _ _
        · exact e5'.len _ _
      · rw [List.length_append, hlen] at hj
        by_cases hjn : j < n
        · have hval : (ob.rows ++ rows)[j] = ob.rows[j] := List.getElem_append_left _
          have hq2 : q < ob.rows[j].length := by rw [hval] at hq; exact hq
          obtain ⟨u, a1, a2⟩ := q3'.at_ j (by omega) q hq2
          refine ⟨u, ?_, ?_⟩
          · have hlt := (Array.getElem?_eq_some_iff.1 a1).1
            rw [Array.getElem?_append_left (by rw [Array.size_append]; omega), Array.getElem?_append_left hlt]; exact a1
          · have : (ob.rows ++ rows)[j][q] = ob.rows[j][q] := by simp only [hval]
            rw [this]; exact a2
        · have hval : (ob.rows ++ rows)[j] = rows[j - n] := by rw [List.getElem_append_right (by omega)]; congr 1; omega
          have hj2 : j - n < rows.length := by omega
          have hq2 : q < rows[j - n].length := by rw [hval] at hq; exact hq
          obtain ⟨u, a1, a2⟩ := e5'.at_ _ hj2 q hq2
          have hlt := (Array.getElem?_eq_some_iff.1 a1).1
          have ej : j * ei.size = n * ei.size + (j - n) * ei.size := by rw [← Nat.add_mul]; congr 1; omega
          refine ⟨u, ?_, ?_⟩
          · rw [Array.getElem?_append_left (by rw [Array.size_append]; omega), Array.getElem?_append_right (by omega), q2, ← a1]; congr 1; omega
          · have : (ob.rows ++ rows)[j][q] = rows[j - n][q] := by simp only [hval]
            rw [this]; exact a2
    have hl : Left s w.drew ok μ (.new (.osl key 0 (n + rows.length)) key ⟨e, ei.size, true, ob.rows ++ rows⟩) (.slice (some ⟨w.heap.size, 0, none⟩) (n + rows.length) nc) (w.drew.alloc (.cells (old ++ news ++ rst) e)) := by
      refine Left.new hrd k1 k2 k3 ?_ k4 (by rw [if_pos rfl]; exact hcell) (fun μ' hle hself hkp => ?_)
      · rw [hfull, List.length_append, hlen]; exact Nat.mul_le_mul_right _ g2
      · have := VRel.osl (w := w.drew.alloc (.cells (old ++ news ++ rst) e)) (ok := ok) μ' key 0 (n + rows.length) w.heap.size ei.size nc hself g2 g3 ⟨_, e, heap_push_new _ _, by rw [Nat.zero_add, hfull]; exact Nat.le_refl _⟩
        rw [Nat.zero_mul] at this; exact this
    rw [← hxe] at g1
    exact fin _ _ _ g1 hB (Left.after hsd hl)

/-! ### Back from a callee, with an object that it made -/
def rhoK (top kn key : Nat) : Nat → Option Nat := fun k => if k = kn then some key else if k < top ∧ k ≠ key then some k else none
def sigK (top kn key : Nat) : Nat → Option Nat := fun k => if k = key then some kn else if k < top then some k else none
theorem ren_K {top kn key : Nat} (h1 : top ≤ kn) (h2 : key < top) : Ren (rhoK top kn key) (sigK top kn key) := by
  refine ⟨fun k k' => ?_⟩
  unfold rhoK sigK
  by_cases e : k = kn
  · subst e
    rw [if_pos rfl]
    by_cases e2 : k' = key
    · subst e2; simp
    · rw [if_neg e2]
      constructor
      · intro h; injection h with h; exact absurd h.symm e2
      · intro h; split at h
        · injection h with h; omega
        · cases h
  · rw [if_neg e]
    by_cases e2 : k' = key
    · subst e2
      rw [if_pos rfl]
      constructor
      · intro h; split at h
        · rename_i hh; injection h with h; exact absurd h hh.2
        · cases h
      · intro h; injection h with h; exact absurd h.symm e
    · rw [if_neg e2]
      constructor
      · intro h; split at h
        · rename_i hh; injection h with h; subst h; rw [if_pos hh.1]
        · cases h
      · intro h; split at h
        · rename_i hh; injection h with h; subst h; rw [if_pos ⟨hh, e2⟩]
        · cases h
def AS.backK (s s1 : AS) (dst : Option Tmp) (r : AV) (kn key : Nat) : AS :=
  { fb := s.fb, nt := s.nt, env := (match dst with | some d => eput s.env d (convA (rhoK s.top kn key) s1.heap r) | none => s.env), heap := convH (rhoK s.top kn key) s1.heap s1.heap, frz := s1.frz.filterMap (rhoK s.top kn key) }
theorem back_relK {s s1 : AS} {a a1 : Act} {w w1 : World} {ok ok1 : Nat → Prop} {μ μ1 : Mu} (hr : Rel s a w ok μ) (hr1 : Rel s1 a1 w1 ok1 μ1) (hs : Step s.top s.heap s.frz w ok μ s1.heap s1.frz w1 ok1 μ1) {r : AV} {v : Value} (hv : VRel w1 ok1 μ1 r v)
    (dst : Option Tmp) (hd : ∀ d, dst = some d → d < s.nt) {kn key : Nat} (hkn : s.top ≤ kn) (hk1 : s.fb ≤ key) (hk2 : key < s.top) (hk3 : hget s.heap key = none) :
    ∃ ok' μ', Rel (s.backK s1 dst r kn key) (a.put dst v) w1 ok' μ' ∧ Step s.fb s.heap s.frz w ok μ (s.backK s1 dst r kn key).heap (s.backK s1 dst r kn key).frz w1 ok' μ' := by
  have hren := ren_K hkn hk2
  have hfz : ∀ k k', rhoK s.top kn key k = some k' → (k' ∈ s1.frz.filterMap (rhoK s.top kn key) ↔ k ∈ s1.frz) := by
    intro k k' h
    rw [List.mem_filterMap]
    constructor
    · rintro ⟨j, h1, h2⟩
      have e1 := (hren.iff _ _).1 h
      have e2 := (hren.iff _ _).1 h2
      rw [e1] at e2; injection e2 with e2; subst e2; exact h1
    · exact fun hh => ⟨k, hh, h⟩
  have hrho : ∀ k, k < s.top → k ≠ key → rhoK s.top kn key k = some k := fun k hk hne => by
    unfold rhoK; rw [if_neg (by omega), if_pos ⟨hk, hne⟩]
  have hst := (hs.weaken (show s.fb ≤ s.top by simp [AS.top])).trans (Step.conv (fb := s.fb) hren (fun k hk => hrho k (by omega) (by omega)) hr1.wf hfz)
  have hnone : μ key = none := by
    cases hm : μ key with
    | none => rfl
    | some x => obtain ⟨o, ho⟩ := hr.wf.dom key x hm; rw [hk3] at ho; cases ho
  have hmu : ∀ k x, μ k = some x → muC (sigK s.top kn key) μ1 k = some x := fun k x hx => by
    have hk := hr.top k x hx
    have hne : k ≠ key := fun e => by subst e; rw [hnone] at hx; cases hx
    rw [muC_of hren (hrho k hk hne)]
    exact hs.mu k x hk hx
  have henv : ∀ t x, eget s.env t = some x → VRel w1 (okC (rhoK s.top kn key) s1.heap ok1 μ1) (muC (sigK s.top kn key) μ1) x (a.tmps.getD t Go.undef) := fun t x hx =>
    (hr.env t x hx).mono hst.kept hmu
  refine ⟨_, _, ⟨?_, ?_, fun t x hx => ?_, hr1.wf.conv hren hfz, fun k x hx => ?_⟩, hst⟩
  · cases dst <;> exact hr.dfr
  · cases dst with
    | none => exact hr.nt
    | some d => simp [Act.put, AS.backK, hr.nt]
  · cases dst with
    | none => exact henv t x hx
    | some d =>
      simp only [AS.backK, eget_eput] at hx
      rw [getD_put (by rw [hr.nt]; exact hd d rfl)]
      split at hx
      · rename_i e; rw [if_pos e]; injection hx with hx; subst hx; exact hv.conv hren hr1.wf
      · rename_i e; rw [if_neg e]; exact henv t x hx
  · unfold muC sigK at hx
    show k < s.top
    split at hx
    · rename_i e; subst e; exact hk2
    · split at hx
      · rename_i e; exact e
      · cases hx
/-- A callee walked in place, that may hand over an object of its own. -/
theorem AOps.inlineK {T : Tab} (hT : TOk P T) {M : Meths} (hM : MOk P M) {ops : Array Oper} {o : Oper} {rest : List Oper} {s : AS} {N : AS → Prop} (hg : o.guard = none) (hd : dstOk s o.dst = true) {f : FuncId} {l : List AV} (hc : acall M s.env o.op = some (f, l))
    {fn : Func} {c : Code} (hf : FnIs P f fn c) (hn : l.length ≤ fn.ntmps) {key : Nat} (hk : (decide (s.fb ≤ key) && decide (key < s.top) && (hget s.heap key).isNone) = true)
    (hb : AWP P c (s.enter fn.ntmps l) (fun e s1 => isRet e ∧ ∃ r, ares T s1 fn.results.toList = some r ∧ (AOps P ops rest (s.back s1 o.dst r) N ∨ ∃ kn, s.top ≤ kn ∧ AOps P ops rest (s.backK s1 o.dst r kn key) N))) : AOps P ops (o :: rest) s N := by
  simp only [Bool.and_eq_true, decide_eq_true_eq, Option.isNone_iff_eq_none] at hk
  intro a w ok μ hr
  obtain ⟨vals, hrun, hvals⟩ := acall_enters hM hf hc a w ok μ hr
  refine oList_plain hg fun K hK => ?_
  unfold oOp
  rw [hrun]
  simp only [oupon]
  have hent := enter_rel (nt := fn.ntmps) hr.wf hr.top hvals hn
  refine Calls.mono (calls_of_wp (R := fun e w' => ∃ v, e = .returned v ∧ ∃ s1 a1 ok1 μ1 r, Rel s1 a1 w' ok1 μ1 ∧ VRel w' ok1 μ1 r v ∧ Step s.top s.heap s.frz w ok μ s1.heap s1.frz w' ok1 μ1 ∧ (AOps P ops rest (s.back s1 o.dst r) N ∨ ∃ kn, s.top ≤ kn ∧ AOps P ops rest (s.backK s1 o.dst r kn key) N)) hf.get hf.body
    (cwp_wp rfl (cwp_mono (hb _ w ok μ hent) fun e a1 w1 hp => ?_))) fun e w1 he => ?_
  · obtain ⟨s1, ok1, μ1, ⟨hk1, r, hk2, hk3⟩, h1, h2, h3, h4⟩ := hp
    obtain ⟨v, hv1, hv2⟩ := ares_rel hT h3 hk2
    cases e <;> first
      | exact hk1.elim
      | exact ⟨h3.dfr, v, hv1, v, rfl, s1, a1, ok1, μ1, r, h3, hv2, h4, hk3⟩
  · obtain ⟨v, rfl, s1, a1, ok1, μ1, r, h1, h2, h3, h4⟩ := he
    rcases h4 with h4 | ⟨kn, hkn, h4⟩
    · obtain ⟨ok', μ', hrel, hst⟩ := back_rel hr h1 h3 h2 o.dst (dstOk_spec hd)
      exact hK _ _ (h4.after (s := s) rfl rfl hrel hst)
    · obtain ⟨ok', μ', hrel, hst⟩ := back_relK hr h1 h3 h2 o.dst (dstOk_spec hd) hkn hk.1.1 hk.1.2 hk.2
      exact hK _ _ (h4.after (s := s) rfl rfl hrel hst)

/-- Of an object no more than its first rows. -/
theorem Thin.trim {s : AS} (k m : Nat) {ob : AObj} (hob : hget s.heap k = some ob) (hm : m ≤ ob.rows.length) (hm0 : 0 < ob.rows.length) : Thin s { s with heap := hput s.heap k { ob with rows := ob.rows.take m } } := ⟨rfl, rfl, fun a w ok μ hr => by
  have hold : ∀ k' o', hget (hput s.heap k { ob with rows := ob.rows.take m }) k' = some o' → ∃ p, hget s.heap k' = some p := fun k' o' h => by
    rw [hget_hput] at h
    split at h
    · rename_i e; subst e; exact ⟨ob, hob⟩
    · exact ⟨_, h⟩
  refine ⟨ok, μ, ⟨hr.dfr, hr.nt, hr.env, ⟨hr.wf.okb, fun k' o' ho' => ?_, fun k' x' hx' => ?_, fun a1 a2 o1 o2 b s1 s2 h1 h2 h3 h4 => ?_⟩, hr.top⟩, ⟨.refl _ _, rfl, rfl, rfl, Nat.le_refl _, fun _ _ _ => rfl, fun _ h => .inl h, ?_, fun _ _ _ h => h⟩⟩
  · simp only [hget_hput] at ho'
    split at ho'
    · rename_i e; subst e; injection ho' with ho'; subst ho'
      rcases hr.wf.obj k ob hob with ⟨b, cs, g1, g2, g3, g4, g5, g6⟩ | ⟨g1, g2⟩
      · refine .inl ⟨b, cs, g1, g2, ?_, g4, g5, ⟨fun j hj => ?_, fun j hj q hq => ?_⟩⟩
        · simp only [List.length_take]; exact Nat.le_trans (Nat.mul_le_mul_right _ (Nat.min_le_right _ _)) g3
        · simp only [List.length_take] at hj
          simp only [List.getElem_take]; exact g6.len j (by omega)
        · simp only [List.length_take] at hj
          simp only [List.getElem_take] at hq ⊢
          exact g6.at_ j (by omega) q hq
      · rw [g1] at hm0; simp at hm0
    · exact hr.wf.obj k' o' ho'
  · obtain ⟨o, ho⟩ := hr.wf.dom k' x' hx'
    simp only [hget_hput]
    split
    · exact ⟨_, rfl⟩
    · exact ⟨o, ho⟩
  · obtain ⟨p1, hp1⟩ := hold a1 o1 h1
    obtain ⟨p2, hp2⟩ := hold a2 o2 h2
    exact hr.wf.inj a1 a2 p1 p2 b s1 s2 hp1 hp2 h3 h4
  · rintro b ⟨k', o', s1, a1, a2, a3⟩
    obtain ⟨p, hp⟩ := hold k' o' a1
    exact .inl ⟨k', p, s1, hp, a2, a3⟩⟩
theorem AOps.capS {T : Tab} (hT : TOk P T) {ops : Array Oper} {o : Oper} {rest : List Oper} {s s' : AS} {N : AS → Prop} (hg : o.guard = none) (hd : dstOk s o.dst = true) {t : Nat} {x : Operand} (ho : o.op = .call { callee := .builtin .cap, args := #[x], argTypes := #[t] }) {i : TI} {e : Nat} (ht : tget T t = some i) (hi : i.kind = .slice e) {k j n c : Nat}
    (hx : aev s.env x = some (.osc k j n c)) (hs : s.apply o.dst (.pure (.int .i64 c)) = s') (hn : AOps P ops rest s' N) : AOps P ops (o :: rest) s N := AOps.cons hg (dstOk_spec hd) (cap_ok hT ho ht hi hx) (hs ▸ hn)
theorem AOps.copyS {T : Tab} (hT : TOk P T) {ops : Array Oper} {o : Oper} {rest : List Oper} {s s' : AS} {N : AS → Prop} (hg : o.guard = none) (hd : dstOk s o.dst = true) {t : Nat} {x y : Operand} (ho : o.op = .call { callee := .builtin .copy, args := #[x, y], argTypes := #[t, t] }) {i ei : TI} {e : Nat} (ht : tget T t = some i) (hi : i.kind = .slice e)
    (he : tget T e = some ei) {xv yv : AV} {k j n : Nat} (hx : aev s.env x = some xv) (hxv : ocap xv = .osl k j n) (hy : aev s.env y = some yv) {rows : List (List AV)} {rd : List Nat} {cl : Bool} (hrows : arows s.heap ei.size (ocap yv) = some (rows, rd, cl))
    {ob : AObj} (hob : hget s.heap k = some ob) (hsz : ob.sz = ei.size) (hs : 0 < ei.size) (hz : k ∉ s.frz) {m : Nat} (hm : m = Nat.min rows.length n) (hm0 : 0 < m) (hfit : j + m ≤ ob.rows.length) {new : List (List AV)} (hnew : rows.take m = new) (hone : new.all (fun r => r.all AV.one) = true)
    (hs' : s.apply o.dst ⟨.int .i64 m, [(k, ⟨ob.ty, ob.sz, ob.closed && cl, putRows ob.rows j new⟩)], rd, []⟩ = s') (hn : AOps P ops rest s' N) : AOps P ops (o :: rest) s N := by
  subst hnew
  exact AOps.cons hg (dstOk_spec hd) (copy_ok hT ho ht hi he hx hxv hy hrows hob hsz hs hz hm hm0 hfit hone) (hs' ▸ hn)
theorem AOps.appzS {T : Tab} (hT : TOk P T) {ops : Array Oper} {o : Oper} {rest : List Oper} {s s' : AS} {N : AS → Prop} (hg : o.guard = none) (hd : dstOk s o.dst = true) {t tn : Nat} {x y : Operand} (ho : o.op = .call { callee := .builtin .append, args := #[x, y], argTypes := #[t, tn] }) {i ei ti : TI} {e : Nat} {kn kq : IntKind} (ht : tget T t = some i) (hi : i.kind = .slice e)
    (he : tget T e = some ei) (htn : tget T tn = some ti) (hti : ti.kind = .int kn) {k j n c m : Nat} (hx : aev s.env x = some (.osc k j n c)) (hy : aev s.env y = some (.int kq m)) {rows : List (List AV)} {rd : List Nat} {cl : Bool} (hrows : arows s.heap ei.size (.osl k j n) = some (rows, rd, cl))
    (hm0 : 0 < m) (hroom : c < n + m) (hs : 0 < ei.size) (hb0 : 0 < ei.bytes) (hz0 : ei.zero.length = ei.size) (hb : (n + m) * ei.bytes ≤ 140737488355328) (hzc : AV.closedAll ei.zero = true) {key : Nat} (hfree : freeKey s key = true)
    (hs' : s.apply o.dst ⟨.osl key 0 (n + m), [(key, ⟨e, ei.size, cl, rows ++ List.replicate m ei.zero⟩)], rd, []⟩ = s') (hn : AOps P ops rest s' N) : AOps P ops (o :: rest) s N :=
  AOps.cons hg (dstOk_spec hd) (appz_ok hT ho ht hi he htn hti hx hy hrows hm0 hroom hs hb0 hz0 hb hzc hfree) (hs' ▸ hn)
theorem AOps.overS {T : Tab} (hT : TOk P T) {ops : Array Oper} {o : Oper} {rest : List Oper} {s s' : AS} {N : AS → Prop} (hg : o.guard = none) (hd : dstOk s o.dst = true) {f : FuncId} {x y : Operand} {ts : Array TypeId} (ho : o.op = .call { callee := .value (.func f), args := #[x, y], argTypes := ts }) {tS tR e : TypeId} {i ei : TI} (ht : tget T tS = some i) (hi : i.kind = .slice e) (he : tget T e = some ei) (hs : 0 < ei.size)
    (hcall : ∀ vals w, (callFunc f vals).run P w = ((Extern.SlicesOverlaps.overlaps #[tS, tS] #[tR] vals).run P w).andThen fun v w' => .ok (.value v) w') {k j n k' j' n' c' : Nat} (hx : aev s.env x = some (.osl k j n)) (hy : aev s.env y = some (.osc k' j' n' c')) (hn : 0 < n) (hc' : 0 < c') (hne : k ≠ k')
    {ob ob' : AObj} (hob : hget s.heap k = some ob) (hob' : hget s.heap k' = some ob') (hsz' : ob'.sz = ei.size) (hs' : s.apply o.dst (.pure (.bool false)) = s') (hN : AOps P ops rest s' N) : AOps P ops (o :: rest) s N :=
  AOps.cons hg (dstOk_spec hd) (overlaps_ok hT ho ht hi he hs hcall hx hy hn hc' hne hob hob' hsz') (hs' ▸ hN)

theorem Con.close {f : FuncId} {args : List AV} {r : AV} {objs : List AObj} (h : Con P f args r objs) {r' : AV} (hr : lsA (convA (fun _ => none) (enumH 0 objs) r) = r') : Con P f args r' [] := ⟨h.1, hr ▸ h.2.close⟩

/-- A call by its contract, that a guard lets by. -/
theorem AOps.conYes {M : Meths} (hM : MOk P M) {ops : Array Oper} {o : Oper} {rest : List Oper} {s : AS} {N : AS → Prop} {f : FuncId} {cl : List AV} {r : AV} {objs : List AObj} (hc : Con P f cl r objs) {j : Nat} {want : Bool} (hg : o.guard = some (j, want)) (hy : aguard ops s.env j = some (.bool want)) (hd : dstOk s o.dst = true) {l : List AV} (hca : acall M s.env o.op = some (f, l))
    (hcl' : closeL s.heap l = cl) {base : Nat} (hb : s.key o.dst = base) (hfree : freeKeys s base objs.length = true) (hfk : (List.range objs.length).all (fun i => !(keysL l).contains (base + i)) = true)
    (hcl : objs.all (·.closed) = true) {s' : AS} (hs : s.gave o.dst base (keysL l) r objs = s') (hn : AOps P ops rest s' N) : AOps P ops (o :: rest) s N := by
  obtain ⟨⟨fn, c, hf⟩, hi⟩ := hc
  subst hs; subst hcl'
  intro a w ok μ hr
  obtain ⟨vals, hrun, hvals⟩ := acall_enters hM hf hca a w ok μ hr
  refine oList_step fun K hK => ?_
  rw [if_pos (by simp [Region.wanted, hg, yielded_of hr hy])]
  unfold oOp
  rw [hrun]
  simp only [oupon]
  refine Calls.mono (icall_calls hr hvals hi hfree hfk hcl o.dst (dstOk_spec hd)) fun e w1 he => ?_
  obtain ⟨v, ok', μ', rfl, hrel, hst⟩ := he
  exact hK _ _ (hn.after (s := s) rfl rfl hrel hst)

/-- A slice without room has no elements. -/
theorem Thin.empty {s : AS} (t : Nat) (ht : eget s.env t = some .esl) : Thin s { s with env := eput s.env t (.lst []) } := ⟨rfl, rfl, fun a w ok μ hr => by
  refine ⟨ok, μ, ⟨hr.dfr, hr.nt, fun t' v' ht' => ?_, hr.wf, hr.top⟩, .refl _ _ _ _ _ _⟩
  simp only [eget_eput] at ht'
  split at ht'
  · rename_i e; subst e; injection ht' with ht'; subst ht'
    have := hr.env t _ ht
    generalize a.tmps.getD t Go.undef = x at this ⊢
    cases this with
    | esl _ A => exact lst_nil (Nat.zero_le _)
  · exact hr.env t' v' ht'⟩
end Go.Qd
set_option linter.unusedVariables false
set_option linter.unusedSimpArgs false
namespace Go.Qd
open Go Go.RowKit
variable {P : Program}
/-- A copy where nothing goes over. -/
theorem copy0_ok {T : Tab} (hT : TOk P T) {s : AS} {o : Oper} {t : Nat} {x y : Operand} (ho : o.op = .call { callee := .builtin .copy, args := #[x, y], argTypes := #[t, t] }) {i ei : TI} {e : Nat} (ht : tget T t = some i) (hi : i.kind = .slice e)
    (he : tget T e = some ei) (hs : 0 < ei.size) {xv yv : AV} (hx : aev s.env x = some xv) (hxv : alen xv = some 0) (hy : aev s.env y = some yv) {rd : List Nat} {cl : Bool} (hrows : arows s.heap ei.size yv = some ([], rd, cl)) :
    RunsTo P s o (.pure (.int .i64 0)) :=
  .pure fun a w ok μ hr => by
    have hu := (hT.facts ht).slice hi
    obtain ⟨A, len, cap, e1, e2⟩ := alen_rel hxv (aev_rel hr hx)
    have hl0 : len = 0 := by omega
    subst hl0
    obtain ⟨A', cap', news, f1, f2, f3, f4, f5, f6⟩ := arows_rel (P := P) hr hs hrows (aev_rel hr hy)
    have hcells := f4 w rfl 0 (Nat.le_refl _)
    have hnews : news.extract 0 (0 * ei.size) = #[] := by simp
    rw [hnews] at hcells
    refine ⟨goInt 0, ?_, .int _ _ _⟩
    unfold execOp
    have hlenY : (Builtin.lenOf (a.eval y)).run P w = .ok 0 w := by rw [f1]; rfl
    simp [ho, resolve, invoke, builtin, Builtin.copy_, e1, run_underlying hu, hlenY, (hT.facts he).run_sizeOf, hcells]
    cases A <;> simp [storeCells]
theorem AOps.copy0 {T : Tab} (hT : TOk P T) {ops : Array Oper} {o : Oper} {rest : List Oper} {s s' : AS} {N : AS → Prop} (hg : o.guard = none) (hd : dstOk s o.dst = true) {t : Nat} {x y : Operand} (ho : o.op = .call { callee := .builtin .copy, args := #[x, y], argTypes := #[t, t] }) {i ei : TI} {e : Nat} (ht : tget T t = some i) (hi : i.kind = .slice e)
    (he : tget T e = some ei) (hs : 0 < ei.size) {xv yv : AV} (hx : aev s.env x = some xv) (hxv : alen xv = some 0) (hy : aev s.env y = some yv) {rd : List Nat} {cl : Bool} (hrows : arows s.heap ei.size yv = some ([], rd, cl))
    (hs' : s.apply o.dst (.pure (.int .i64 0)) = s') (hn : AOps P ops rest s' N) : AOps P ops (o :: rest) s N := by
  subst hs'
  exact AOps.cons hg (dstOk_spec hd) (copy0_ok hT ho ht hi he hs hx hxv hy hrows) hn
/-! ### Back from a callee, with objects of its own under new names -/
/-- New names: (what it was called, what it is called now). -/
def rhoL (top : Nat) (ps : List (Nat × Nat)) (k : Nat) : Option Nat := match ps.find? (fun p => p.1 == k) with
  | some p => some p.2
  | none => if k < top ∧ ps.all (fun p => p.2 != k) = true then some k else none
def sigL (top : Nat) (ps : List (Nat × Nat)) (k : Nat) : Option Nat := match ps.find? (fun p => p.2 == k) with
  | some p => some p.1
  | none => if k < top then some k else none
def psOk (s : AS) (ps : List (Nat × Nat)) : Bool := ps.all (fun p => decide (s.top ≤ p.1) && decide (s.fb ≤ p.2) && decide (p.2 < s.top) && (hget s.heap p.2).isNone) && decide (ps.Pairwise fun p q => p.1 ≠ q.1 ∧ p.2 ≠ q.2)
structure PsFit (s : AS) (ps : List (Nat × Nat)) : Prop where
  at_ : ∀ p, p ∈ ps → s.top ≤ p.1 ∧ s.fb ≤ p.2 ∧ p.2 < s.top ∧ hget s.heap p.2 = none
  one : ∀ p q, p ∈ ps → q ∈ ps → p.1 = q.1 → p = q
  two : ∀ p q, p ∈ ps → q ∈ ps → p.2 = q.2 → p = q
theorem psOk_spec {s : AS} {ps : List (Nat × Nat)} (h : psOk s ps = true) : PsFit s ps := by
  unfold psOk at h
  rw [Bool.and_eq_true, List.all_eq_true, decide_eq_true_eq] at h
  obtain ⟨h1, h2⟩ := h
  have h3 := List.pairwise_iff_getElem.1 h2
  refine ⟨fun p hp => ?_, fun p q hp hq e => ?_, fun p q hp hq e => ?_⟩
  · have := h1 p hp
    simp only [Bool.and_eq_true, decide_eq_true_eq, Option.isNone_iff_eq_none] at this
    exact ⟨this.1.1.1, this.1.1.2, this.1.2, this.2⟩
  · obtain ⟨i, hi, rfl⟩ := List.mem_iff_getElem.1 hp
    obtain ⟨j, hj, rfl⟩ := List.mem_iff_getElem.1 hq
    rcases Nat.lt_trichotomy i j with hij | hij | hij
    · exact absurd e (h3 i j hi hj hij).1
    · subst hij; rfl
    · exact absurd e.symm (h3 j i hj hi hij).1
  · obtain ⟨i, hi, rfl⟩ := List.mem_iff_getElem.1 hp
    obtain ⟨j, hj, rfl⟩ := List.mem_iff_getElem.1 hq
    rcases Nat.lt_trichotomy i j with hij | hij | hij
    · exact absurd e (h3 i j hi hj hij).2
    · subst hij; rfl
    · exact absurd e.symm (h3 j i hj hi hij).2
theorem PsFit.ren {s : AS} {ps : List (Nat × Nat)} (h : PsFit s ps) : Ren (rhoL s.top ps) (sigL s.top ps) := ⟨fun k k' => by
  unfold rhoL sigL
  constructor
  · intro hk
    split at hk
    · rename_i p hp
      injection hk with hk; subst hk
      have hm := List.mem_of_find?_eq_some hp
      have he := List.find?_some hp
      simp at he
      cases hq : ps.find? (fun q => q.2 == p.2) with
      | none =>
        have := List.find?_eq_none.1 hq p hm
        simp at this
      | some q =>
        have hqm := List.mem_of_find?_eq_some hq
        have hqe := List.find?_some hq
        simp at hqe
        have := h.two q p hqm hm hqe
        subst this
        simp [he]
    · split at hk
      · rename_i hp hc
        injection hk with hk; subst hk
        have hn : ps.find? (fun q => q.2 == k) = none := List.find?_eq_none.2 fun q hq => by
          have := List.all_eq_true.1 hc.2 q hq
          simpa using this
        rw [hn]; simp [hc.1]
      · cases hk
  · intro hk
    split at hk
    · rename_i p hp
      injection hk with hk; subst hk
      have hm := List.mem_of_find?_eq_some hp
      have he := List.find?_some hp
      simp at he
      cases hq : ps.find? (fun q => q.1 == p.1) with
      | none =>
        have := List.find?_eq_none.1 hq p hm
        simp at this
      | some q =>
        have hqm := List.mem_of_find?_eq_some hq
        have hqe := List.find?_some hq
        simp at hqe
        have := h.one q p hqm hm hqe
        subst this
        simp [he]
    · split at hk
      · rename_i hp hc
        injection hk with hk; subst hk
        have hn : ps.find? (fun q => q.1 == k') = none := List.find?_eq_none.2 fun q hq => by
          have := (h.at_ q hq).1
          simp; omega
        rw [hn]
        have ha : ps.all (fun p => p.2 != k') = true := List.all_eq_true.2 fun q hq => by
          have := List.find?_eq_none.1 hp q hq
          simpa using this
        simp [hc, ha]
      · cases hk⟩
def AS.backL (s s1 : AS) (dst : Option Tmp) (r : AV) (ps : List (Nat × Nat)) : AS :=
  { fb := s.fb, nt := s.nt, env := (match dst with | some d => eput s.env d (convA (rhoL s.top ps) s1.heap r) | none => s.env), heap := convH (rhoL s.top ps) s1.heap s1.heap, frz := s1.frz.filterMap (rhoL s.top ps) }
theorem back_relL {s s1 : AS} {a a1 : Act} {w w1 : World} {ok ok1 : Nat → Prop} {μ μ1 : Mu} (hr : Rel s a w ok μ) (hr1 : Rel s1 a1 w1 ok1 μ1) (hs : Step s.top s.heap s.frz w ok μ s1.heap s1.frz w1 ok1 μ1) {r : AV} {v : Value} (hv : VRel w1 ok1 μ1 r v)
    (dst : Option Tmp) (hd : ∀ d, dst = some d → d < s.nt) {ps : List (Nat × Nat)} (hps : PsFit s ps) :
    ∃ ok' μ', Rel (s.backL s1 dst r ps) (a.put dst v) w1 ok' μ' ∧ Step s.fb s.heap s.frz w ok μ (s.backL s1 dst r ps).heap (s.backL s1 dst r ps).frz w1 ok' μ' := by
  have hren := hps.ren
  have hfz : ∀ k k', rhoL s.top ps k = some k' → (k' ∈ s1.frz.filterMap (rhoL s.top ps) ↔ k ∈ s1.frz) := by
    intro k k' h
    rw [List.mem_filterMap]
    constructor
    · rintro ⟨j, h1, h2⟩
      have e1 := (hren.iff _ _).1 h
      have e2 := (hren.iff _ _).1 h2
      rw [e1] at e2; injection e2 with e2; subst e2; exact h1
    · exact fun hh => ⟨k, hh, h⟩
  have hrho : ∀ k, k < s.top → (∀ p, p ∈ ps → p.2 ≠ k) → rhoL s.top ps k = some k := fun k hk hne => by
    unfold rhoL
    have hn : ps.find? (fun q => q.1 == k) = none := List.find?_eq_none.2 fun q hq => by
      have := (hps.at_ q hq).1
      simp; omega
    have ha : ps.all (fun p => p.2 != k) = true := List.all_eq_true.2 fun q hq => by
      have := hne q hq; simpa using this
    rw [hn]; simp [hk, ha]
  have hst := (hs.weaken (show s.fb ≤ s.top by simp [AS.top])).trans (Step.conv (fb := s.fb) hren (fun k hk => hrho k (by simp [AS.top]; omega) (fun p hp e => by have := (hps.at_ p hp).2.1; omega)) hr1.wf hfz)
  have hnone : ∀ p, p ∈ ps → μ p.2 = none := fun p hp => by
    cases hm : μ p.2 with
    | none => rfl
    | some x => obtain ⟨o, ho⟩ := hr.wf.dom p.2 x hm; rw [(hps.at_ p hp).2.2.2] at ho; cases ho
  have hmu : ∀ k x, μ k = some x → muC (sigL s.top ps) μ1 k = some x := fun k x hx => by
    have hk := hr.top k x hx
    have hne : ∀ p, p ∈ ps → p.2 ≠ k := fun p hp e => by subst e; rw [hnone p hp] at hx; cases hx
    rw [muC_of hren (hrho k hk hne)]
    exact hs.mu k x hk hx
  have henv : ∀ t x, eget s.env t = some x → VRel w1 (okC (rhoL s.top ps) s1.heap ok1 μ1) (muC (sigL s.top ps) μ1) x (a.tmps.getD t Go.undef) := fun t x hx =>
    (hr.env t x hx).mono hst.kept hmu
  refine ⟨_, _, ⟨?_, ?_, fun t x hx => ?_, hr1.wf.conv hren hfz, fun k x hx => ?_⟩, hst⟩
  · cases dst <;> exact hr.dfr
  · cases dst with
    | none => exact hr.nt
    | some d => simp [Act.put, AS.backL, hr.nt]
  · cases dst with
    | none => exact henv t x hx
    | some d =>
      simp only [AS.backL, eget_eput] at hx
      rw [getD_put (by rw [hr.nt]; exact hd d rfl)]
      split at hx
      · rename_i e; rw [if_pos e]; injection hx with hx; subst hx; exact hv.conv hren hr1.wf
      · rename_i e; rw [if_neg e]; exact henv t x hx
  · show k < s.top
    cases hsg : sigL s.top ps k with
    | none => simp [muC, hsg] at hx
    | some j =>
      unfold sigL at hsg
      split at hsg
      · rename_i p hp
        have hm := List.mem_of_find?_eq_some hp
        have he := List.find?_some hp
        simp at he
        have := (hps.at_ p hm).2.2.1
        omega
      · split at hsg
        · assumption
        · cases hsg
/-- A callee walked in place, that may hand over objects of its own. -/
theorem AOps.inlineL {T : Tab} (hT : TOk P T) {M : Meths} (hM : MOk P M) {ops : Array Oper} {o : Oper} {rest : List Oper} {s : AS} {N : AS → Prop} (hg : o.guard = none) (hd : dstOk s o.dst = true) {f : FuncId} {l : List AV} (hc : acall M s.env o.op = some (f, l))
    {fn : Func} {c : Code} (hf : FnIs P f fn c) (hn : l.length ≤ fn.ntmps)
    (hb : AWP P c (s.enter fn.ntmps l) (fun e s1 => isRet e ∧ ∃ r, ares T s1 fn.results.toList = some r ∧ ∃ ps, psOk s ps = true ∧ AOps P ops rest (s.backL s1 o.dst r ps) N)) : AOps P ops (o :: rest) s N := by
  intro a w ok μ hr
  obtain ⟨vals, hrun, hvals⟩ := acall_enters hM hf hc a w ok μ hr
  refine oList_plain hg fun K hK => ?_
  unfold oOp
  rw [hrun]
  simp only [oupon]
  have hent := enter_rel (nt := fn.ntmps) hr.wf hr.top hvals hn
  refine Calls.mono (calls_of_wp (R := fun e w' => ∃ v, e = .returned v ∧ ∃ s1 a1 ok1 μ1 r, Rel s1 a1 w' ok1 μ1 ∧ VRel w' ok1 μ1 r v ∧ Step s.top s.heap s.frz w ok μ s1.heap s1.frz w' ok1 μ1 ∧ ∃ ps, psOk s ps = true ∧ AOps P ops rest (s.backL s1 o.dst r ps) N) hf.get hf.body
    (cwp_wp rfl (cwp_mono (hb _ w ok μ hent) fun e a1 w1 hp => ?_))) fun e w1 he => ?_
  · obtain ⟨s1, ok1, μ1, ⟨hk1, r, hk2, hk3⟩, h1, h2, h3, h4⟩ := hp
    obtain ⟨v, hv1, hv2⟩ := ares_rel hT h3 hk2
    cases e <;> first
      | exact hk1.elim
      | exact ⟨h3.dfr, v, hv1, v, rfl, s1, a1, ok1, μ1, r, h3, hv2, h4, hk3⟩
  · obtain ⟨v, rfl, s1, a1, ok1, μ1, r, h1, h2, h3, ps, hps, h4⟩ := he
    obtain ⟨ok', μ', hrel, hst⟩ := back_relL hr h1 h3 h2 o.dst (dstOk_spec hd) (psOk_spec hps)
    exact hK _ _ (h4.after (s := s) rfl rfl hrel hst)
/-- At most n rounds of a loop. -/
def AR (P : Program) (c : Code) : Nat → AS → (Exit → AS → Prop) → Prop
  | 0, _, _ => False
  | n + 1, s, K => AWP P c s (Then (fun s' => AR P c n s' K) K)
theorem AR.step {c : Code} {n : Nat} {s : AS} {K : Exit → AS → Prop} (h : AWP P c s (Then (fun s' => AR P c n s' K) K)) : AR P c (n + 1) s K := h
/-- A loop, round by round. -/
theorem AWP.unroll {c : Code} {s : AS} {K : Exit → AS → Prop} (n : Nat) (h : AR P c n s K) : AWP P (.loop c) s K := by
  intro a w ok μ hr
  refine cwp_loop_rounds n ?_
  have key : ∀ (n : Nat) (s1 : AS) (a1 : Act) (w1 : World) (ok1 : Nat → Prop) (μ1 : Mu), AR P c n s1 K → s1.fb = s.fb → s1.nt = s.nt → Rel s1 a1 w1 ok1 μ1 → Step s.fb s.heap s.frz w ok μ s1.heap s1.frz w1 ok1 μ1 →
      crounds P c (Post s w ok μ K) n a1 w1 := by
    intro n
    induction n with
    | zero => intro s1 a1 w1 ok1 μ1 h; exact h.elim
    | succ n ih =>
      intro s1 a1 w1 ok1 μ1 h hf hn hr1 hs
      show cwp P c (Exit.then (crounds P c (Post s w ok μ K) n) (Post s w ok μ K)) a1 w1
      refine cwp_mono (h a1 w1 ok1 μ1 hr1) fun e a2 w2 hp => ?_
      obtain ⟨s2, ok2, μ2, hk, hf2, hn2, hr2, hs2⟩ := hp
      have hs' : Step s.fb s.heap s.frz w ok μ s2.heap s2.frz w2 ok2 μ2 := hs.trans (hf ▸ hs2)
      cases e with
      | normal => exact ih s2 a2 w2 ok2 μ2 hk (hf2.trans hf) (hn2.trans hn) hr2 hs'
      | _ => exact ⟨s2, ok2, μ2, hk, hf2.trans hf, hn2.trans hn, hr2, hs'⟩
  exact key n s a w ok μ h rfl rfl hr (.refl _ _ _ _ _ _)
/-- Ways that meet again in the state S. -/
theorem AWP.joinT {x y : Code} {s : AS} {K K' : Exit → AS → Prop} (S : AS) (h : AWP P x s (Then (fun s' => Thin s' S) K')) (hy : AWP P y S K) : AWP P x s (Then (fun s' => AWP P y s' K) K') :=
  AWP.mono h fun e s' hk => by
    cases e <;> first
      | exact AWP.thin hk hy
      | exact hk
/-- An object's rows, seen as others that say no more. -/
theorem Thin.rows {s : AS} (k : Nat) {ob : AObj} (hob : hget s.heap k = some ob) {rows : List (List AV)} (hl : rows.length = ob.rows.length) (h : ∀ (w : World) (ok : Nat → Prop) (μ : Mu) (cs : Array Value), RowsRel w ok μ ob.sz ob.rows cs → RowsRel w ok μ ob.sz rows cs) :
    Thin s { s with heap := hput s.heap k { ob with rows := rows } } := ⟨rfl, rfl, fun a w ok μ hr => by
  have hold : ∀ k' o', hget (hput s.heap k { ob with rows := rows }) k' = some o' → ∃ p, hget s.heap k' = some p := fun k' o' h => by
    rw [hget_hput] at h
    split at h
    · rename_i e; subst e; exact ⟨ob, hob⟩
    · exact ⟨_, h⟩
  refine ⟨ok, μ, ⟨hr.dfr, hr.nt, hr.env, ⟨hr.wf.okb, fun k' o' ho' => ?_, fun k' x' hx' => ?_, fun a1 a2 o1 o2 b s1 s2 h1 h2 h3 h4 => ?_⟩, hr.top⟩, ⟨.refl _ _, rfl, rfl, rfl, Nat.le_refl _, fun _ _ _ => rfl, fun _ h => .inl h, ?_, fun _ _ _ h => h⟩⟩
  · simp only [hget_hput] at ho'
    split at ho'
    · rename_i e; subst e; injection ho' with ho'; subst ho'
      rcases hr.wf.obj k ob hob with ⟨b, cs, g1, g2, g3, g4, g5, g6⟩ | ⟨g1, g2⟩
      · exact .inl ⟨b, cs, g1, g2, by rw [hl]; exact g3, g4, g5, h w ok _ cs g6⟩
      · exact .inr ⟨List.length_eq_zero_iff.1 (by rw [hl, g1]; rfl), g2⟩
    · exact hr.wf.obj k' o' ho'
  · obtain ⟨o, ho⟩ := hr.wf.dom k' x' hx'
    simp only [hget_hput]
    split
    · exact ⟨_, rfl⟩
    · exact ⟨o, ho⟩
  · obtain ⟨p1, hp1⟩ := hold a1 o1 h1
    obtain ⟨p2, hp2⟩ := hold a2 o2 h2
    exact hr.wf.inj a1 a2 p1 p2 b s1 s2 hp1 hp2 h3 h4
  · rintro b ⟨k', o', s1, a1, a2, a3⟩
    obtain ⟨p, hp⟩ := hold k' o' a1
    exact .inl ⟨k', p, s1, hp, a2, a3⟩⟩
/-- Slices without room in an object's rows read as those without elements. -/
theorem Thin.ls {s : AS} (k : Nat) {ob : AObj} (hob : hget s.heap k = some ob) : Thin s { s with heap := hput s.heap k { ob with rows := ob.rows.map lsL } } :=
  Thin.rows k hob (by simp) fun w ok μ cs hr => ⟨fun j hj => by
    simp only [List.length_map] at hj
    simp only [List.getElem_map, lsL_len]
    exact hr.len j hj, fun j hj q hq => by
    simp only [List.length_map] at hj
    simp only [List.getElem_map, lsL_len] at hq
    obtain ⟨u, h1, h2⟩ := hr.at_ j hj q hq
    refine ⟨u, h1, ?_⟩
    simp only [List.getElem_map, lsL_get]
    exact h2.ls⟩
end Go.Qd
set_option linter.unusedVariables false
set_option linter.unusedSimpArgs false
namespace Go.Qd
open Go Go.RowKit
variable {P : Program}

/-! ### clear, of a slice of one's own -/
theorem clear_ok {T : Tab} (hT : TOk P T) {s : AS} {o : Oper} {t : Nat} {x : Operand} (ho : o.op = .call { callee := .builtin .clear, args := #[x], argTypes := #[t] }) {i ei : TI} {e : Nat} (ht : tget T t = some i) (hi : i.kind = .slice e)
    (he : tget T e = some ei) {k j n : Nat} (hx : aev s.env x = some (.osl k j n)) {ob : AObj} (hob : hget s.heap k = some ob) (hsz : ob.sz = ei.size) (hs : 0 < ei.size) (hz : k ∉ s.frz) (hn0 : 0 < n) (hfit : j + n ≤ ob.rows.length)
    (hz0 : ei.zero.length = ei.size) (hcl : AV.closedAll ei.zero = true) (hone : ei.zero.all AV.one = true) :
    RunsTo P s o ⟨.tup [], [(k, ⟨ob.ty, ob.sz, ob.closed, putRows ob.rows j (List.replicate n ei.zero)⟩)], [], []⟩ := by
  have hu := (hT.facts ht).slice hi
  obtain ⟨z, hzz, hzrun⟩ := (hT.facts he).run_zero
  intro a w ok μ hr
  have hxo := aev_rel hr hx
  have hzv : VRels w ok μ ei.zero z.cells.toList := sameZs_rel hzz
  have hzs : z.cells.size = ei.size := by have := hzv.len; simp at this; omega
  generalize hxe : a.eval x = xu at hxo
  cases hxo with
  | osl0 => omega
  | osl _ _ _ _ b sz c hmu h1 h2 hs' =>
    obtain ⟨cs, ty, hb, hle⟩ := hs'
    have hobj : μ k = some (b, ob.sz) ∧ w.heap[b]? = some (.cells cs ob.ty (0, 0)) ∧ sz = ob.sz ∧ ob.rows.length * ob.sz ≤ cs.size ∧ RowsRel w ok (ob.mu μ) ob.sz ob.rows cs := by
      rcases hr.wf.obj k ob hob with ⟨b', cs', q1, q2, q3, q4, q5, q6⟩ | ⟨_, q1⟩
      · rw [hmu] at q1; injection q1 with q1; injection q1 with e1 e2
        subst e1
        rw [hb] at q2; injection q2 with q2; injection q2 with q2 q2'
        subst q2
        exact ⟨e2 ▸ hmu, q2' ▸ hb, e2, q3, q6⟩
      · rw [hmu] at q1; cases q1
    obtain ⟨g1, g2, g3, g4, g5⟩ := hobj
    subst g3
    have hzr := RowsRel.zeros (w := w) (ok := ok) (μ := μ) hzv n (by omega)
    rw [hz0] at hzr
    have hcls : (List.replicate n ei.zero).all AV.closedAll = true := by
      rw [List.all_eq_true]; intro r hrr; rw [List.eq_of_mem_replicate hrr]; exact hcl
    have hnew : RowsRel w ok (if true = true then mu0 else μ) ob.sz (List.replicate n ei.zero) (Builtin.zeroCells z.cells n) := by
      rw [if_pos rfl, hsz]
      have : Builtin.zeroCells z.cells n = (Array.range (n * ei.size)).map (z.cells[· % z.cells.size]!) := by unfold Builtin.zeroCells; rw [hzs]
      rw [this]; exact hzr.shut hcls
    have hnsz : (Builtin.zeroCells z.cells n).size = (List.replicate n ei.zero).length * ob.sz := by simp [Builtin.zeroCells, hzs, hsz]
    have honeN : ∀ v ∈ (Builtin.zeroCells z.cells n).toList, v.oneCell' = true := by
      intro v hv
      obtain ⟨q, hq1, rfl⟩ := List.mem_iff_getElem.1 hv
      simp only [Array.length_toList] at hq1
      rw [hnsz, List.length_replicate] at hq1
      have hq1' : q < n * ei.size := by rw [← hsz]; exact hq1
      have hj : q / ei.size < (List.replicate n ei.zero).length := by rw [List.length_replicate, Nat.div_lt_iff_lt_mul hs]; exact hq1'
      have hqq : q % ei.size < (List.replicate n ei.zero)[q / ei.size].length := by rw [List.getElem_replicate, hz0]; exact Nat.mod_lt _ hs
      obtain ⟨u, a1, a2⟩ := hnew.at_ _ hj _ hqq
      rw [hsz, show q / ei.size * ei.size + q % ei.size = q by rw [Nat.mul_comm]; exact Nat.div_add_mod _ _, Array.getElem?_eq_getElem (by rw [hnsz, List.length_replicate]; exact hq1)] at a1
      injection a1 with a1
      rw [Array.getElem_toList, a1]
      refine a2.one ?_
      rw [List.all_eq_true] at hone
      have hin := List.eq_of_mem_replicate (List.getElem_mem hj)
      have hm : (List.replicate n ei.zero)[q / ei.size][q % ei.size] ∈ ei.zero := by
        have h := List.getElem_mem hqq
        generalize hv : (List.replicate n ei.zero)[q / ei.size][q % ei.size] = vv at h ⊢
        exact hin ▸ h
      exact hone _ hm
    have hcs : (j + (List.replicate n ei.zero).length) * ob.sz ≤ cs.size := by rw [List.length_replicate]; exact Nat.le_trans (Nat.mul_le_mul_right _ hfit) g4
    obtain ⟨cs', p1, p2, p3⟩ := store_rows (P := P) (cl := true) hr hob g1 g2 g5 (by omega) hcs hnsz hnew honeN
    refine ⟨.tuple #[], w.setRow b cs', .inl ?_, ?_⟩
    · unfold execOp
      obtain ⟨n', rfl⟩ : ∃ n', n = n' + 1 := ⟨n - 1, by omega⟩
      simp [ho, resolve, invoke, builtin, Builtin.clear_, hxe, run_underlying hu, hzrun]
      have hst : (storeCells ⟨b, j * ob.sz, none⟩ (Builtin.zeroCells z.cells (n' + 1)).toList).run P w = .ok () (w.setRow b cs') := p1
      try simp at hst
      simp [hst]
    · rw [Bool.and_true] at p3
      exact Left.turn hr hob hz g1 g2 p2 (by rw [putRows_len (by omega), List.length_replicate, Nat.max_eq_left hfit]; exact g4) p3 [] (fun _ => .tup _ _ _ rfl (fun i h1 h2 => by cases h1))
theorem AOps.clearS {T : Tab} (hT : TOk P T) {ops : Array Oper} {o : Oper} {rest : List Oper} {s s' : AS} {N : AS → Prop} (hg : o.guard = none) (hd : dstOk s o.dst = true) {t : Nat} {x : Operand} (ho : o.op = .call { callee := .builtin .clear, args := #[x], argTypes := #[t] }) {i ei : TI} {e : Nat} (ht : tget T t = some i) (hi : i.kind = .slice e)
    (he : tget T e = some ei) {k j n : Nat} (hx : aev s.env x = some (.osl k j n)) {ob : AObj} (hob : hget s.heap k = some ob) (hsz : ob.sz = ei.size) (hs : 0 < ei.size) (hz : k ∉ s.frz) (hn0 : 0 < n) (hfit : j + n ≤ ob.rows.length)
    (hz0 : ei.zero.length = ei.size) (hcl : AV.closedAll ei.zero = true) (hone : ei.zero.all AV.one = true)
    (hs' : s.apply o.dst ⟨.tup [], [(k, ⟨ob.ty, ob.sz, ob.closed, putRows ob.rows j (List.replicate n ei.zero)⟩)], [], []⟩ = s') (hN : AOps P ops rest s' N) : AOps P ops (o :: rest) s N :=
  AOps.cons hg (dstOk_spec hd) (clear_ok hT ho ht hi he hx hob hsz hs hz hn0 hfit hz0 hcl hone) (hs' ▸ hN)
end Go.Qd
set_option linter.unusedVariables false
set_option linter.unusedSimpArgs false
namespace Go.Qd
open Go Go.RowKit
variable {P : Program}

/-! ### A range over a function, in an activation -/
/-- The world has grown. -/
theorem Rel.grew {s : AS} {a : Act} {w w' : World} {ok : Nat → Prop} {μ : Mu} (hr : Rel s a w ok μ) (hb : Below w.heap.size w w') : Rel s a w' ok μ ∧ Step s.fb s.heap s.frz w ok μ s.heap s.frz w' ok μ := by
  have hk : Kept ok ok w w' := ⟨fun _ h => h, fun b h => hb.block b (hr.wf.okb b h), fun b cs ty fr h => ⟨cs, by rw [hb.block b (Array.getElem?_eq_some_iff.1 h).1]; exact h, rfl⟩⟩
  refine ⟨⟨hr.dfr, hr.nt, fun t v h => (hr.env t v h).mono hk (.refl _), ⟨fun b h => Nat.lt_of_lt_of_le (hr.wf.okb b h) hb.size, fun k o ho => ?_, hr.wf.dom, hr.wf.inj⟩, hr.top⟩,
    ⟨hk, hb.os, hb.tape, hb.output, hb.size, fun b h _ => hb.block b h, fun _ h => .inl h, fun _ h => .inl h, fun _ _ _ h => h⟩⟩
  rcases hr.wf.obj k o ho with ⟨b, cs, g1, g2, g3, g4, g5, g6⟩ | g
  · exact .inl ⟨b, cs, g1, by rw [hb.block b (Array.getElem?_eq_some_iff.1 g2).1]; exact g2, g3, g4, g5, g6.mono hk (.refl _)⟩
  · exact .inr g
/-- A block that holds no cells is turned. -/
theorem kept_put {w : World} {ok : Nat → Prop} {r : Nat} {o o' : Obj} (hr : w.heap[r]? = some o) (ho : o.isCells = false) (hn : ¬ ok r) : Kept ok ok w (w.putObj r o') :=
  ⟨fun _ h => h, fun b h => World.putObj_heap_other (fun e => hn (e ▸ h)), fun b cs ty fr h => ⟨cs, by
    rw [World.putObj_heap_other (fun e => by subst e; rw [h] at hr; injection hr with hr; subst hr; cases ho)]; exact h, rfl⟩⟩
theorem not_own {h : Heap} {f : List Nat} {w : World} {ok : Nat → Prop} {μ : Mu} (hw : Wf h f w ok μ) {r : Nat} {o : Obj} (hr : w.heap[r]? = some o) (ho : o.isCells = false) : ¬ Own h f μ r := by
  rintro ⟨k, ob, sz, h1, h2, h3⟩
  rcases hw.obj k ob h1 with ⟨b, cs, g1, g2, _⟩ | ⟨_, g⟩
  · rw [h3] at g1; injection g1 with g1; injection g1 with g1 _; subst g1
    rw [hr] at g2; injection g2 with g2; subst g2; cases ho
  · rw [h3] at g; cases g
theorem Rel.put {s : AS} {a : Act} {w : World} {ok : Nat → Prop} {μ : Mu} (hr : Rel s a w ok μ) {r : Nat} {o : Obj} (o' : Obj) (h : w.heap[r]? = some o) (ho : o.isCells = false) (hn : ¬ ok r) : Rel s a (w.putObj r o') ok μ := by
  have hk := kept_put (o' := o') h ho hn
  refine ⟨hr.dfr, hr.nt, fun t v h => (hr.env t v h).mono hk (.refl _), ⟨fun b h => by rw [World.putObj_size]; exact hr.wf.okb b h, fun k ob hob => ?_, hr.wf.dom, hr.wf.inj⟩, hr.top⟩
  rcases hr.wf.obj k ob hob with ⟨b, cs, g1, g2, g3, g4, g5, g6⟩ | g
  · exact .inl ⟨b, cs, g1, by rw [World.putObj_heap_other (fun e => by subst e; rw [h] at g2; injection g2 with g2; subst g2; cases ho)]; exact g2, g3, g4, g5, g6.mono hk (.refl _)⟩
  · exact .inr g
theorem Step.put {fb : Nat} {h0 h : Heap} {f0 f : List Nat} {w0 w : World} {ok0 ok : Nat → Prop} {μ0 μ : Mu} (hs : Step fb h0 f0 w0 ok0 μ0 h f w ok μ) {r : Nat} {o : Obj} (o' : Obj) (hr : w.heap[r]? = some o) (ho : o.isCells = false) (hn : ¬ ok r) (hge : w0.heap.size ≤ r) :
    Step fb h0 f0 w0 ok0 μ0 h f (w.putObj r o') ok μ := by
  have hk := kept_put (o' := o') hr ho hn
  exact ⟨hs.kept.trans hk, hs.os, hs.tape, hs.output, by rw [World.putObj_size]; exact hs.size, fun b hb hno => by rw [World.putObj_heap_other (by omega)]; exact hs.frame b hb hno, hs.okNew, hs.own, hs.mu⟩
/-- What a step leaves as it lay. -/
theorem Step.other {fb : Nat} {h0 h : Heap} {f0 f : List Nat} {w0 w : World} {ok0 ok : Nat → Prop} {μ0 μ : Mu} (hs : Step fb h0 f0 w0 ok0 μ0 h f w ok μ) (hw : Wf h0 f0 w0 ok0 μ0) {r : Nat} {o : Obj} (hr : w0.heap[r]? = some o) (ho : o.isCells = false) (hn : ¬ ok0 r) : w.heap[r]? = some o ∧ ¬ ok r := by
  have hlt := (Array.getElem?_eq_some_iff.1 hr).1
  have hno := not_own hw hr ho
  refine ⟨(hs.frame r hlt hno).trans hr, fun h => ?_⟩
  rcases hs.okNew r h with h | h | h
  · exact hn h
  · exact hno h
  · omega
def marks : Option Nat → List Deferred
  | none => []
  | some D => [{ target := .collected D, args := #[] }]
def markOk (d : Option Nat) (w : World) (ok : Nat → Prop) : Prop := ∀ D, d = some D → w.heap[D]? = some (.deferred (some [])) ∧ ¬ ok D
def Post0 (d : Option Nat) (s : AS) (w : World) (ok : Nat → Prop) (μ : Mu) (K : Exit → Option Nat → AS → Prop) : Exit → Act → World → Prop := fun e a' w' =>
  ∃ d' s' ok' μ', a'.defers = marks d' ∧ markOk d' w' ok' ∧ (∀ D, d' = some D → d = some D ∨ w.heap.size ≤ D) ∧ K e d' s' ∧ s'.fb = s.fb ∧ s'.nt = s.nt ∧ Rel s' ⟨a'.tmps, []⟩ w' ok' μ' ∧ Step s.fb s.heap s.frz w ok μ s'.heap s'.frz w' ok' μ'
def AWP0 (P : Program) (c : Code) (s : AS) (d : Option Nat) (K : Exit → Option Nat → AS → Prop) : Prop :=
  ∀ a w ok μ, Rel s a w ok μ → markOk d w ok → c.wpIn Fence.wide 0 P (Post0 d s w ok μ K) ⟨a.tmps, marks d⟩ w
theorem AWP0.of {c : Code} {s : AS} {d : Option Nat} {K : Exit → Option Nat → AS → Prop} (h : AWP P c s (fun e s' => K e d s')) : AWP0 P c s d K := by
  intro a w ok μ hr hm
  have h0 := h a w ok μ hr none (marks d)
  rw [fen_none] at h0
  refine wpIn_mono h0 fun e a' w' ⟨h1, s', ok', μ', g1, g2, g3, g4, g5⟩ => ?_
  rw [hr.dfr] at g4
  refine ⟨d, s', ok', μ', h1, fun D hD => ?_, fun D hD => .inl hD, g1, g2, g3, g4, g5⟩
  obtain ⟨m1, m2⟩ := hm D hD
  exact g5.other hr.wf m1 rfl m2
theorem AWP0.seq {x y : Code} {s : AS} {d : Option Nat} {K : Exit → Option Nat → AS → Prop} (h : AWP0 P x s d (fun e d' s' => match e with
    | .normal => AWP0 P y s' d' K
    | e => K e d' s')) : AWP0 P (.seq x y) s d K := by
  intro a w ok μ hr hm
  refine wpIn_seq (wpIn_mono (h a w ok μ hr hm) fun e a1 w1 hp => ?_)
  obtain ⟨d1, s1, ok1, μ1, h1, h2, h3, h4, h5, h6, h7, h8⟩ := hp
  obtain ⟨t1, ds1⟩ := a1
  simp only at h1 h7
  subst h1
  cases e with
  | normal =>
    refine wpIn_mono (h4 ⟨t1, []⟩ w1 ok1 μ1 h7 h2) fun e a2 w2 hp => ?_
    obtain ⟨d2, s2, ok2, μ2, g1, g2, g3, g4, g5, g6, g7, g8⟩ := hp
    refine ⟨d2, s2, ok2, μ2, g1, g2, fun D hD => ?_, g4, g5.trans h5, g6.trans h6, g7, h8.trans (h5 ▸ g8)⟩
    rcases g3 D hD with h | h
    · exact h3 D h
    · exact .inr (Nat.le_trans h8.size h)
  | _ => exact ⟨d1, s1, ok1, μ1, rfl, h2, h3, h4, h5, h6, h7, h8⟩
theorem AWP0.block {id : Nat} {c : Code} {s : AS} {d : Option Nat} {K : Exit → Option Nat → AS → Prop} (h : AWP0 P c s d (fun e d' s' => match e with
    | .exit k => if k = id then K .normal d' s' else K (.exit k) d' s'
    | e => K e d' s')) : AWP0 P (.block id c) s d K := by
  intro a w ok μ hr hm
  refine wpIn_block (wpIn_mono (h a w ok μ hr hm) fun e a1 w1 hp => ?_)
  obtain ⟨d1, s1, ok1, μ1, h1, h2, h3, h4, h5, h6, h7, h8⟩ := hp
  cases e with
  | exit k =>
    simp only [Exit.inBlock]
    split
    · rename_i hk; simp only [hk, if_true] at h4; exact ⟨d1, s1, ok1, μ1, h1, h2, h3, h4, h5, h6, h7, h8⟩
    · rename_i hk; simp only [hk, if_false] at h4; exact ⟨d1, s1, ok1, μ1, h1, h2, h3, h4, h5, h6, h7, h8⟩
  | _ => exact ⟨d1, s1, ok1, μ1, h1, h2, h3, h4, h5, h6, h7, h8⟩
end Go.Qd
set_option linter.unusedVariables false
set_option linter.unusedSimpArgs false
namespace Go.Qd
open Go Go.RowKit
variable {P : Program}

/-- What an iterator over two values does: it yields those of xs, one behind the other. -/
def IterC (P : Program) (gf : FuncId) (lbA : List AV) (n : Nat) (A B : Fin n → AV) (xs : List (Fin n)) : Prop :=
  ∀ (w : World) (ok : Nat → Prop) (lb : Array Value), (∀ b, ok b → b < w.heap.size) → VRels w ok mu0 lbA lb.toList →
    ∀ (l : Nat) (J : List (Fin n) → World → Prop), (∀ pre X Y, J pre X → Below X.heap.size X Y → J pre Y) →
      (∀ pre x X u v, (∃ t, pre ++ [x] ++ t = xs) → J pre X → (∀ w' ok' μ', VRel w' ok' μ' (A x) u) → (∀ w' ok' μ', VRel w' ok' μ' (B x) v) → YieldAt Fence.wide 0 P l #[u, v] X fun e Y => e = .returned (.bool true) ∧ J (pre ++ [x]) Y ∧ Below 0 X Y ∧ Kept ok ok X Y) →
      J [] w → CallsIn Fence.wide 0 P gf (#[.func (.yield l) #[] #[]] ++ lb) w fun e Y => (∃ v, e = .returned v) ∧ J xs Y
/-- A value whose objects have small names. -/
def lowA (fb : Nat) : AV → Bool
  | .ptr k _ _ => decide (k < fb)
  | a => a.closed
theorem VRel.low {w w' : World} {ok ok' : Nat → Prop} {μ μ' : Mu} {a : AV} {v : Value} {fb : Nat} (h : VRel w ok μ a v) (hk : Kept ok ok' w w') (hl : lowA fb a = true) (hm : ∀ k x, k < fb → μ k = some x → μ' k = some x) : VRel w' ok' μ' a v := by
  by_cases hc : a.closed = true
  · exact (h.mono hk (.refl _)).closed hc
  · cases h with
    | ptr _ o j q b sz h =>
      simp only [lowA, decide_eq_true_eq] at hl
      exact .ptr _ _ _ _ _ _ (hm _ _ hl h)
    | _ => exact absurd hl hc
theorem eget_all {E : Env} {p : AV → Bool} (h : E.all (fun x => p x.2) = true) {t : Nat} {v : AV} (ht : eget E t = some v) : p v = true := by
  induction E with
  | nil => cases ht
  | cons x r ih =>
    obtain ⟨j, u⟩ := x
    simp only [List.all_cons, Bool.and_eq_true] at h
    simp only [eget] at ht
    split at ht
    · injection ht with ht; subst ht; exact h.1
    · exact ih h.2 ht
theorem hget_all {H : Heap} {p : Nat → Bool} (h : H.all (fun x => p x.1) = true) {k : Nat} {o : AObj} (ht : hget H k = some o) : p k = true := by
  induction H with
  | nil => cases ht
  | cons x r ih =>
    obtain ⟨j, u⟩ := x
    simp only [List.all_cons, Bool.and_eq_true] at h
    simp only [hget] at ht
    split at ht
    · rename_i e; subst e; exact h.1
    · exact ih h.2 ht
theorem setTwo (T : Array Value) (p1 p2 : Nat) (u v : Value) : ((#[p1, p2] : Array Tmp).zip #[u, v]).foldl (fun t (x : Tmp × Value) => t.setIfInBounds x.1 x.2) T = (T.setIfInBounds p1 u).setIfInBounds p2 v := by
  simp
theorem Step.below0 {fb : Nat} {h0 h : Heap} {f0 f : List Nat} {w0 w : World} {ok0 ok : Nat → Prop} {μ0 μ : Mu} (hs : Step fb h0 f0 w0 ok0 μ0 h f w ok μ) : w.os = w0.os ∧ w.tape = w0.tape ∧ w.output = w0.output ∧ w0.heap.size ≤ w.heap.size := ⟨hs.os, hs.tape, hs.output, hs.size⟩
theorem AWP0.range {g : Operand} {assign body : Code} {s : AS} {K : Exit → Option Nat → AS → Prop} {gf : FuncId} {fn : Func} {c : Code} {lbA : List AV} {n p1 p2 : Nat} {A B : Fin n → AV} {xs : List (Fin n)} (hf : FnIs P gf fn c)
    (hg : aev s.env g = some (.fn gf [] lbA)) (hlb : AV.closedAll lbA = true) (hit : IterC P gf lbA n A B xs) (fbR : Nat) (E : Env) (H : List (Fin n) → Heap) (fz : List (Fin n) → List Nat) (hfb : s.fb ≤ fbR)
    (hp1 : p1 < s.nt) (hp2 : p2 < s.nt) (hE : E.all (fun x => lowA fbR x.2) = true) (hH : ∀ pre, (H pre).all (fun x => decide (x.1 < s.top)) = true)
    (hthin : Thin s ⟨s.fb, s.nt, E, H [], fz []⟩)
    (hround : ∀ pre x, (∃ t, pre ++ [x] ++ t = xs) → AWP P assign ⟨fbR, s.nt, eput (eput E p1 (A x)) p2 (B x), H pre, fz pre⟩ (Then (fun s1 => AWP P body s1 (Then (fun s2 => Thin s2 ⟨fbR, s.nt, [], H (pre ++ [x]), fz (pre ++ [x])⟩) (fun _ _ => False))) (fun _ _ => False)))
    (hK : ∀ D, K .normal (some D) ⟨s.fb, s.nt, E, H xs, fz xs⟩) : AWP0 P (.rangeFunc g #[p1, p2] assign body) s none K := by
  intro a w ok μ hr hm
  have ha : (⟨a.tmps, marks none⟩ : Act) = a := by obtain ⟨t, d⟩ := a; have := hr.dfr; simp only at this; subst this; rfl
  rw [ha]
  obtain ⟨lb, hge, hlv⟩ : ∃ lb : Array Value, a.eval g = .func (.func gf) #[] lb ∧ VRels w ok mu0 lbA lb.toList := by
    have hv := aev_rel hr hg
    generalize he : a.eval g = u at hv
    cases hv with
    | fn _ _ _ _ fs cs h1 h2 h3 h4 =>
      have : fs = #[] := by have := h1; simp at this; exact Array.eq_empty_of_size_eq_zero this.symm
      subst this
      exact ⟨cs, rfl, ⟨by simpa using h2, fun i a1 a2 => ((h4 i a1 (by simpa using a2)).closed (closedAll_get hlb i a1))⟩⟩
  obtain ⟨ok0, μ0, hr0, hs0⟩ := hthin.go a w ok μ hr
  refine wpIn_rangeFunc ?_
  intro fn0 hfn0
  obtain ⟨rec, hrec⟩ : ∃ rec : LoopState → Option Code → Loop, rec = fun st pe => { state := st, pending := pe, fn := fn0, tmps := a.tmps, params := #[p1, p2], assign, body, defers := w.heap.size } := ⟨_, rfl⟩
  obtain ⟨W1, hW1⟩ : ∃ W1, (w.alloc (.deferred (some []))).alloc (.loop (rec .ready none)) = W1 := ⟨_, rfl⟩
  have hL1 : W1.heap[w.heap.size + 1]? = some (.loop (rec .ready none)) := by
    rw [← hW1]; have := World.alloc_heap_new (w.alloc (.deferred (some []))) (.loop (rec .ready none)); rwa [World.size_alloc] at this
  have hD1 : W1.heap[w.heap.size]? = some (.deferred (some [])) := by
    rw [← hW1]; exact (Below.heap_alloc _ _ _ (by simp)).trans (World.alloc_heap_new w _)
  have hb1 : Below w.heap.size w W1 := by
    rw [← hW1]; exact ((Below.refl _ w).alloc (Nat.le_refl _) _).alloc (by simp) _
  refine ⟨w.heap.size + 1, [{ target := .collected w.heap.size, args := #[] }], W1, { target := .fn (.func gf) lb, args := #[.func (.yield (w.heap.size + 1)) #[] #[]] }, W1, gf,
    #[.func (.yield (w.heap.size + 1)) #[] #[]] ++ lb, W1, ?_, ?_, fun _ _ => trivial, ?_, fun h => (by cases h), ?_⟩
  · rw [← hW1, hrec]; exact run_enterLoop_outer _ _ _ _ _
  · simp only [resolve, hge]
    simp [go_sem]
  · simp [invoke, go_sem, callFunc, program, Sem.run, hf.get, hf.body]
    have hne : ¬ fn.name = "runtime.NumGoroutine" := by have := hf.name; simpa using this
    simp [hne]
  · obtain ⟨hrW, hsW⟩ := hr0.grew hb1
    have hokW : ∀ b, ok b → b < W1.heap.size := fun b h => Nat.lt_of_lt_of_le (hr.wf.okb b h) hb1.size
    have hkW : Kept ok ok w W1 := (hr.grew hb1).2.kept
    have hcall := hit W1 ok lb hokW (hlv.mono hkW (.refl _))
    have hstart : Step s.fb s.heap s.frz w ok μ (H []) (fz []) W1 ok0 μ0 := hs0.trans hsW
    refine (hcall (w.heap.size + 1) (fun pre X => ∃ ok1 μ1, Rel ⟨s.fb, s.nt, E, H pre, fz pre⟩ a X ok1 μ1 ∧ Step s.fb s.heap s.frz w ok μ (H pre) (fz pre) X ok1 μ1 ∧
      X.heap[w.heap.size + 1]? = some (.loop (rec .ready none)) ∧ X.heap[w.heap.size]? = some (.deferred (some [])) ∧ ¬ ok1 (w.heap.size + 1) ∧ ¬ ok1 w.heap.size) ?_ ?_ ⟨ok0, μ0, hrW, hstart, hL1, hD1, fun h => by have := hr0.wf.okb _ h; omega, fun h => by have := hr0.wf.okb _ h; omega⟩).mono ?_
    · rintro pre X Y ⟨ok1, μ1, g1, g2, g3, g4, g5, g6⟩ hb
      obtain ⟨q1, q2⟩ := g1.grew hb
      exact ⟨ok1, μ1, q1, g2.trans (q2.weaken (Nat.le_refl _)), (hb.block _ (Array.getElem?_eq_some_iff.1 g3).1).trans g3, (hb.block _ (Array.getElem?_eq_some_iff.1 g4).1).trans g4, g5, g6⟩
    · -- one round
      rintro pre x X u v hpre ⟨ok1, μ1, g1, g2, g3, g4, g5, g6⟩ hu hv
      have hy := run_yield (P := P) (args := #[u, v]) g3 (by rw [hrec]; rfl)
      rw [hrec] at hy
      simp only at hy
      rw [setTwo] at hy
      refine ⟨fn0, _, assign, body, hy, roundIn_of_wpIn hfn0 ?_⟩
      -- the round's first state
      have hokle : ∀ b, ok b → ok1 b := g2.kept.okLe
      have hnt : a.tmps.size = s.nt := g1.nt
      have hrR : Rel ⟨fbR, s.nt, eput (eput E p1 (A x)) p2 (B x), H pre, fz pre⟩ ⟨(a.tmps.setIfInBounds p1 u).setIfInBounds p2 v, []⟩ X ok1 μ1 := by
        refine ⟨rfl, by simpa using hnt, fun t z h => ?_, g1.wf, fun k x hx => ?_⟩
        · simp only [eget_eput] at h
          show VRel X ok1 μ1 z (((a.tmps.setIfInBounds p1 u).setIfInBounds p2 v).getD t Go.undef)
          rw [Array.getD_eq_getD_getElem?]
          split at h
          · rename_i e; subst e; injection h with h; subst h
            rw [Array.getElem?_setIfInBounds_self_of_lt (by simp; omega)]; exact hv _ _ _
          · rename_i e
            rw [Array.getElem?_setIfInBounds_ne e]
            split at h
            · rename_i e2; subst e2; injection h with h; subst h
              rw [Array.getElem?_setIfInBounds_self_of_lt (by omega)]; exact hu _ _ _
            · rename_i e2
              rw [Array.getElem?_setIfInBounds_ne e2, ← Array.getD_eq_getD_getElem?]
              exact g1.env t z h
        · have := g1.top k x hx
          simp only [AS.top] at this ⊢
          omega
      have ha1 := hround pre x hpre _ X ok1 μ1 hrR (some (w.heap.size + 1)) []
      rw [fen_some] at ha1
      refine wpIn_mono ha1 fun e a1 w1 hp => ?_
      obtain ⟨hd1, s1, ok2, μ2, hk1, f1, f2, r1, st1⟩ := hp
      cases e with
      | normal =>
        obtain ⟨q3, q5⟩ := st1.other hrR.wf g3 rfl g5
        obtain ⟨q4, q6⟩ := st1.other hrR.wf g4 rfl g6
        refine ⟨_, run_beginRound q3 (by rw [hrec]), ?_⟩
        have r2 := r1.put (.loop { rec .ready none with state := .busy }) q3 rfl q5
        have hlt1 := (Array.getElem?_eq_some_iff.1 q3).1
        have b3 : (w1.putObj (w.heap.size + 1) (.loop { rec .ready none with state := .busy })).heap[w.heap.size + 1]? = some (.loop { rec .ready none with state := .busy }) := World.putObj_heap_same hlt1
        have b4 : (w1.putObj (w.heap.size + 1) (.loop { rec .ready none with state := .busy })).heap[w.heap.size]? = some (.deferred (some [])) := (World.putObj_heap_other (by omega)).trans q4
        have ha2 := hk1 _ _ ok2 μ2 r2 (some (w.heap.size + 1)) []
        rw [fen_some] at ha2
        have hact : a1 = ⟨a1.tmps, []⟩ := by obtain ⟨t, d⟩ := a1; simp only at hd1; subst hd1; rfl
        rw [hact]
        refine wpIn_mono ha2 fun e a3 w3 hp => ?_
        obtain ⟨hd3, s3, ok3, μ3, hk3, f3, f4, r3, st3⟩ := hp
        cases e with
        | normal =>
          obtain ⟨c3, c5⟩ := st3.other r2.wf b3 rfl q5
          obtain ⟨c4, c6⟩ := st3.other r2.wf b4 rfl q6
          obtain ⟨ok4, μ4, r4, st4⟩ := hk3.go _ w3 ok3 μ3 r3
          have hfb3 : s3.fb = fbR := f3.trans f1
          have n5 : ¬ ok4 (w.heap.size + 1) := (st4.other r3.wf c3 rfl c5).2
          have n6 : ¬ ok4 w.heap.size := (st4.other r3.wf c4 rfl c6).2
          have r5 := r4.put (.loop (rec .ready none)) c3 rfl n5
          have hlt3 := (Array.getElem?_eq_some_iff.1 c3).1
          have st1' : Step fbR (H pre) (fz pre) X ok1 μ1 s1.heap s1.frz w1 ok2 μ2 := st1
          have stP : Step s.fb s.heap s.frz w ok μ s1.heap s1.frz (w1.putObj (w.heap.size + 1) (.loop { rec .ready none with state := .busy })) ok2 μ2 := (g2.trans (st1'.weaken hfb)).put _ q3 rfl q5 (by omega)
          have st3' : Step fbR s1.heap s1.frz (w1.putObj (w.heap.size + 1) (.loop { rec .ready none with state := .busy })) ok2 μ2 s3.heap s3.frz w3 ok3 μ3 := by
            have h := st3
            rw [show s1.fb = fbR from f1] at h
            exact h
          have st4' : Step fbR s3.heap s3.frz w3 ok3 μ3 (H (pre ++ [x])) (fz (pre ++ [x])) w3 ok4 μ4 := by
            have h := st4
            rw [hfb3] at h
            exact h
          have stQ : Step s.fb s.heap s.frz w ok μ (H (pre ++ [x])) (fz (pre ++ [x])) (w3.putObj (w.heap.size + 1) (.loop (rec .ready none))) ok4 μ4 := ((stP.trans (st3'.weaken hfb)).trans (st4'.weaken hfb)).put _ c3 rfl n5 (by omega)
          have hkept : Kept ok1 ok4 X (w3.putObj (w.heap.size + 1) (.loop (rec .ready none))) :=
            ((((st1.kept.trans (kept_put q3 rfl q5)).trans st3.kept).trans st4.kept).trans (kept_put c3 rfl n5))
          have hmu : ∀ k x, k < fbR → μ1 k = some x → μ4 k = some x := fun k x hk hx => st4'.mu k x hk (st3'.mu k x hk (st1'.mu k x hk hx))
          have hend : (Instr.endRound (w.heap.size + 1) none).run P w3 = .ok (.bool true) (w3.putObj (w.heap.size + 1) (.loop (rec .ready none))) := by
            have := run_endRound (P := P) none c3
            rw [hrec] at this ⊢; exact this
          refine ⟨_, _, hend, rfl, ⟨ok4, μ4, ⟨hr.dfr, hnt, fun t v h => ?_, r5.wf, fun k y hy => ?_⟩, ?_, ?_, ?_, n5, n6⟩, ?_, ?_⟩
          · exact (g1.env t v h).low hkept (eget_all hE h) hmu
          · obtain ⟨o, ho⟩ := r5.wf.dom k y hy
            have := hget_all (p := fun k => decide (k < s.top)) (hH (pre ++ [x])) ho
            simp only [decide_eq_true_eq] at this
            exact this
          · exact stQ
          · exact World.putObj_heap_same hlt3
          · exact (World.putObj_heap_other (by omega)).trans c4
          · have h1 := st1.below0
            have h3 := st3.below0
            refine ⟨?_, ?_, ?_, ?_, fun k hk => absurd hk (Nat.not_lt_zero _)⟩
            · exact h3.1.trans h1.1
            · exact h3.2.1.trans h1.2.1
            · exact h3.2.2.1.trans h1.2.2.1
            · rw [World.putObj_size]; exact Nat.le_trans h1.2.2.2 (by have := h3.2.2.2; rw [World.putObj_size] at this; exact this)
          · exact ⟨fun _ h => h, fun b hb => hkept.same b (hokle b hb), hkept.shape⟩
        | _ => exact hk3.elim
      | _ => exact hk1.elim
    · -- behind the iterator
      rintro e Y ⟨⟨v, rfl⟩, ok1, μ1, g1, g2, g3, g4, g5, g6⟩
      have hend : (Instr.endLoop (w.heap.size + 1)).run P Y = .ok none (Y.putObj (w.heap.size + 1) (.loop (rec .exhausted none))) := by
        have := run_endLoop (P := P) g3 (by rw [hrec]; simp)
        rw [hrec] at this ⊢; exact this
      have hlt := (Array.getElem?_eq_some_iff.1 g3).1
      refine ⟨_, _, hend, ?_⟩
      refine ⟨some w.heap.size, ⟨s.fb, s.nt, E, H xs, fz xs⟩, ok1, μ1, ?_, fun D hD => ?_, fun D hD => .inr (by cases hD; exact Nat.le_refl _), hK _, rfl, rfl, ?_, ?_⟩
      · show [_] ++ a.defers = _
        rw [hr.dfr]; rfl
      · cases hD
        exact ⟨(World.putObj_heap_other (by omega)).trans g4, g6⟩
      · have := g1.put (.loop (rec .exhausted none)) g3 rfl g5
        rw [show (⟨a.tmps, []⟩ : Act) = a from ha]
        exact this
      · exact g2.put _ g3 rfl g5 (by omega)
end Go.Qd
set_option linter.unusedVariables false
set_option linter.unusedSimpArgs false
namespace Go.Qd
open Go Go.RowKit
variable {P : Program}
/-- A body that may hold a range over a function. -/
theorem ICall.of_body0 {T : Tab} (hT : TOk P T) {f : FuncId} {fn : Func} {c : Code} (hf : FnIs P f fn c) {args : List AV} {r : AV} {objs : List AObj} (hn : args.length ≤ fn.ntmps)
    (hb : AWP0 P c ⟨0, fn.ntmps, entryEnv 0 args, [], []⟩ none (fun e _ s1 => isRet e ∧ ∃ ks : List Nat, ks.Nodup ∧ ∃ r0, ares T s1 fn.results.toList = some r0 ∧ lsA (convA (idxIn ks 0) s1.heap r0) = r ∧ keepO (idxIn ks 0) s1.heap ks = some objs ∧ ks.all (fun k => !s1.frz.contains k) = true)) : ICall P f args r objs := by
  intro w ok vals hok hv
  have hw0 : Wf [] [] w ok mu0 := ⟨hok, fun k o h => (by cases h), fun k x h => (by cases h), fun k k' o o' b s s' h => (by cases h)⟩
  have hent := enter_rel (fb := 0) (nt := fn.ntmps) hw0 (fun k x h => by cases h) hv hn
  have fin : ∀ (s1 : AS) (a1 : Act) (w1 : World) (ok1 : Nat → Prop) (μ1 : Mu) (ks : List Nat) (r0 : AV), ks.Nodup → ares T s1 fn.results.toList = some r0 → lsA (convA (idxIn ks 0) s1.heap r0) = r → keepO (idxIn ks 0) s1.heap ks = some objs → ks.all (fun k => !s1.frz.contains k) = true →
      Rel s1 a1 w1 ok1 μ1 → Step 0 [] [] w ok mu0 s1.heap s1.frz w1 ok1 μ1 → ∃ v, (results fn a1.tmps).run P w1 = .ok v w1 ∧ ∃ v' ok' μ', Ending.returned v = .returned v' ∧ VRel w1 ok' μ' r v' ∧ Wf (enumH 0 objs) [] w1 ok' μ' ∧ Step 0 [] [] w ok mu0 (enumH 0 objs) [] w1 ok' μ' := by
    intro s1 a1 w1 ok1 μ1 ks r0 hnd hk2 hk3 hk4 hk5 h3 h4
    have hren : Ren (idxIn ks 0) (fun i => ks[i]?) := ⟨fun k k' => by rw [idxIn_spec ks 0 k k' hnd]; simp⟩
    obtain ⟨v, hv1, hv2⟩ := ares_rel hT h3 hk2
    have hfz : ∀ k k', idxIn ks 0 k = some k' → (k' ∈ ([] : List Nat) ↔ k ∈ s1.frz) := by
      intro k k' hkk
      have hmem : k ∈ ks := by
        have := (idxIn_spec ks 0 k k' hnd).1 hkk
        exact List.mem_of_getElem? this.2
      rw [List.all_eq_true] at hk5
      have := hk5 k hmem
      simp only [Bool.not_eq_true', List.contains_eq_mem, decide_eq_false_iff_not] at this
      simp [this]
    have hhe : ∀ k, hget (enumH 0 objs) k = hget (convH (idxIn ks 0) s1.heap s1.heap) k := by
      intro k
      rw [hget_enum, if_pos (Nat.zero_le _), Nat.sub_zero, keepO_get hk4, hget_convH hren]
    have hst : Step 0 [] [] w ok mu0 (enumH 0 objs) [] w1 (okC (idxIn ks 0) s1.heap ok1 μ1) (muC (fun i => ks[i]?) μ1) :=
      ((h4.weaken (Nat.le_refl 0)).trans (Step.conv (frz' := []) hren (fun k hk => by omega) h3.wf hfz)).congr hhe
    have hres : VRel w1 (okC (idxIn ks 0) s1.heap ok1 μ1) (muC (fun i => ks[i]?) μ1) r v := hk3 ▸ (hv2.conv hren h3.wf).ls
    exact ⟨v, hv1, v, _, _, rfl, hres, (h3.wf.conv hren hfz).congr hhe, hst⟩
  refine callsIn_wide.1 (callsIn_of_wp_marks (n := 0) hf.get hf.body trivial ?_)
  refine wpIn_mono (hb _ w ok mu0 hent (fun D hD => by cases hD)) fun e a1 w1 hp => ?_
  obtain ⟨d1, s1, ok1, μ1, h1, h2, h3, ⟨hk1, ks, hnd, r0, hk2, hk3, hk4, hk5⟩, h5, h6, h7, h8⟩ := hp
  have main : LeavesInM Fence.wide 0 P fn a1.tmps (fun e w' => ∃ v ok' μ', e = .returned v ∧ VRel w' ok' μ' r v ∧ Wf (enumH 0 objs) [] w' ok' μ' ∧ Step 0 [] [] w ok mu0 (enumH 0 objs) [] w' ok' μ') a1.defers .returning w1 := by
    rw [h1]
    cases d1 with
    | none =>
      obtain ⟨v, hv1, hv2⟩ := fin s1 ⟨a1.tmps, []⟩ w1 ok1 μ1 ks r0 hnd hk2 hk3 hk4 hk5 h7 h8
      exact ⟨v, hv1, hv2⟩
    | some D =>
      obtain ⟨m1, m2⟩ := h2 D rfl
      have hge : w.heap.size ≤ D := by
        rcases h3 D rfl with h | h
        · cases h
        · exact h
      obtain ⟨v, hv1, hv2⟩ := fin s1 ⟨a1.tmps, []⟩ (w1.putObj D (.deferred none)) ok1 μ1 ks r0 hnd hk2 hk3 hk4 hk5 (h7.put _ m1 rfl m2) (h8.put _ m1 rfl m2 hge)
      exact ⟨by simp, .inl ⟨D, _, rfl, run_takeDeferred m1, v, hv1, hv2⟩⟩
  cases e <;> first
    | exact hk1.elim
    | exact main
end Go.Qd
set_option linter.unusedVariables false
set_option linter.unusedSimpArgs false
namespace Go.Qd
open Go Go.RowKit
variable {P : Program}
/-! ### Walking a body by hand, by regions -/
def simpleA : AV → Bool
  | .bool _ | .int _ _ | .nilp | .nilf | .undef => true
  | _ => false
def flatA : AV → Bool
  | .agg cs => cs.all simpleA
  | a => simpleA a
theorem VRel.simple {w : World} {ok : Nat → Prop} {μ : Mu} {a : AV} {v : Value} (h : VRel w ok μ a v) (hs : simpleA a = true) : ∀ w' ok' μ', VRel w' ok' μ' a v := by
  intro w' ok' μ'
  cases h with
  | undef => exact .undef _ _
  | bool => exact .bool _ _
  | int => exact .int _ _ _
  | nilp => exact .nilp _
  | nilf => exact .nilf _
  | _ => simp [simpleA] at hs
theorem VRel.flat {w : World} {ok : Nat → Prop} {μ : Mu} {a : AV} {v : Value} (h : VRel w ok μ a v) (hs : flatA a = true) : ∀ w' ok' μ', VRel w' ok' μ' a v := by
  intro w' ok' μ'
  by_cases hg : ∃ cs, a = .agg cs
  · obtain ⟨cs, rfl⟩ := hg
    cases h with
    | agg _ cs us hl hc =>
      simp only [flatA, List.all_eq_true] at hs
      exact .agg _ _ _ hl fun i h1 h2 => (hc i h1 h2).simple (hs _ (List.getElem_mem h1)) _ _ _
  · refine h.simple ?_ _ _ _
    cases a <;> first | exact hs | exact absurd ⟨_, rfl⟩ hg
/-- A region, walked, that leaves some slots alone. -/
theorem oListA {ops : Array Oper} {l : List Oper} {s : AS} {N : AS → Prop} (h : AOps P ops l s N) (Z : List Nat) (hz : ∀ o ∈ l, ∀ d, o.dst = some d → d ∉ Z) {a : Act} {w : World} {ok : Nat → Prop} {μ : Mu} (hr : Rel s a w ok μ) {Q : Exit → Act → World → Prop}
    (hQ : ∀ a' w' s' ok' μ', N s' → Rel s' a' w' ok' μ' → Step s.fb s.heap s.frz w ok μ s'.heap s'.frz w' ok' μ' → (∀ t ∈ Z, a'.tmps.getD t Go.undef = a.tmps.getD t Go.undef) → Q .normal a' w') : oList P ops Q l a w := by
  refine oList_mono (fun e a' w' hp => ?_) _ _ _ (oList_track Z l a w hz (h a w ok μ hr))
  obtain ⟨⟨s', ok', μ', hN, h1, h2, h3, h4⟩, ht⟩ := hp
  cases e with
  | normal => exact hQ a' w' s' ok' μ' hN h3 h4 ht
  | _ => exact hN.elim
theorem oList_move {ops : Array Oper} {Q : Exit → Act → World → Prop} {a : Act} {w : World} {o : Oper} {rest : List Oper} {j : Nat} {x : Operand} (hg : o.guard = some (j, true)) (hy : yielded ops a.tmps j = some true) (ho : o.op = .move x)
    (h : oList P ops Q rest (a.put o.dst (a.eval x)) w) : oList P ops Q (o :: rest) a w := by
  refine oList_step fun K hK => ?_
  have hw : Region.wanted o (yielded ops a.tmps) = true := by simp [Region.wanted, hg, hy]
  rw [if_pos hw]
  unfold oOp execOp
  simp only [ho, Sem.run_pure, oupon]
  exact hK _ _ h
/-- A call of who stands behind a yield. -/
theorem oList_yield {ops : Array Oper} {Q : Exit → Act → World → Prop} {a : Act} {w : World} {o : Oper} {rest : List Oper} {j : Nat} {fx x y : Operand} {ts : Array TypeId} {l : Nat} {u v : Value} (hg : o.guard = some (j, true)) (hy : yielded ops a.tmps j = some true)
    (ho : o.op = .call { callee := .value fx, args := #[x, y], argTypes := ts }) (hf : a.eval fx = .func (.yield l) #[] #[]) (hx : a.eval x = u) (hv : a.eval y = v)
    (h : YieldAt Fence.wide 0 P l #[u, v] w fun e w' => match e with
      | .returned r => oList P ops Q rest (a.put o.dst r) w'
      | _ => False) : oList P ops Q (o :: rest) a w := by
  refine oList_step fun K hK => ?_
  have hw : Region.wanted o (yielded ops a.tmps) = true := by simp [Region.wanted, hg, hy]
  rw [if_pos hw]
  obtain ⟨fn, tmps, assign, body, h1, h2⟩ := h
  have hrun : (execOp a.eval o).run P w = .ok (.round l fn tmps assign body) w := by
    have key : ∀ ρ : Operand → Value, ρ fx = .func (.yield l) #[] #[] → ρ x = u → ρ y = v → (execOp ρ o).run P w = .ok (.round l fn tmps assign body) w := by
      intro ρ e1 e2 e3
      unfold execOp
      simp [ho, resolve, e1, e2, e3, Deferred.ofValue, invoke]
      exact h1
    exact key _ hf hx hv
  unfold oOp
  rw [hrun]
  simp only [oupon]
  exact RoundIn.mono h2 fun e w' he => by cases e <;> first | exact hK _ _ he | exact he.elim
/-- One operation, with the same memory. -/
theorem oList_pure {ops : Array Oper} {Q : Exit → Act → World → Prop} {a : Act} {w : World} {o : Oper} {rest : List Oper} {v : Value} (hg : o.guard = none) (hrun : (execOp a.eval o).run P w = .ok (.value v) w) (h : oList P ops Q rest (a.put o.dst v) w) : oList P ops Q (o :: rest) a w := by
  refine oList_plain hg fun K hK => ?_
  unfold oOp
  rw [hrun]
  exact hK _ _ h
theorem load_pure {T : Tab} (hT : TOk P T) {s : AS} {o : Oper} {t : Nat} {x : Operand} (ho : o.op = .load t x) {p : AV} (hp : aev s.env x = some p) {out : Out} (h : aload T s.heap t p = some out) {a : Act} {w : World} {ok : Nat → Prop} {μ : Mu} (hr : Rel s a w ok μ) :
    ∃ v, (execOp a.eval o).run P w = .ok (.value v) w ∧ VRel w ok μ out.v v := by
  unfold aload at h
  split at h
  · rename_i i cs rd ht hc
    split at h
    · rename_i av htk
      injection h with h; subst h
      obtain ⟨b, off, us, he, hcs⟩ := cellsAt_rel hr hc (aev_rel hr hp)
      obtain ⟨v, h1, h2⟩ := loadVar_rel hT ht htk hcs
      refine ⟨v, ?_, h2⟩
      unfold execOp
      simp only [ho, Instr.loadAt, he, Instr.sureAddr, Sem.run_bind, Sem.run_pure, Result.andThen_ok, h1]
    · cases h
  · cases h
theorem fieldAddr_pure {T : Tab} (hT : TOk P T) {s : AS} {o : Oper} {t f : Nat} {x : Operand} (ho : o.op = .fieldAddr t x f) {p p' : AV} (hx : aev s.env x = some p) {fo : Nat × Nat × Bool} (hf : afield T t f = some fo)
    (h : pstep fo.1 fo.2.1 p = some p') {a : Act} {w : World} {ok : Nat → Prop} {μ : Mu} (hr : Rel s a w ok μ) : ∃ v, (execOp a.eval o).run P w = .ok (.value v) w ∧ VRel w ok μ p' v := by
  obtain ⟨b, y, h1, h2⟩ := pstep_rel h (aev_rel hr hx)
  obtain ⟨fs, g, g1, g2, g3, g4, g5, _⟩ := afield_spec hT hf
  refine ⟨_, ?_, h2⟩
  unfold execOp
  obtain ⟨ti, e1, e2⟩ := Option.map_eq_some_iff.1 g4
  have hs : (sizeOf g.type).run P w = .ok fo.2.1 w := by simp [sizeOf, typeInfo, e1, e2]
  simp only [ho, h1, Instr.fieldAt, Sem.run_bind, run_underlying g1, Result.andThen_ok, g2, Instr.sureAddr, Sem.run_pure, fieldPlace, hs]
  rw [if_neg (by omega)]
  simp [g3, addr_add]
theorem oList_load {T : Tab} (hT : TOk P T) {ops : Array Oper} {Q : Exit → Act → World → Prop} {a : Act} {w : World} {o : Oper} {rest : List Oper} {s : AS} {t : Nat} {x : Operand} (hg : o.guard = none) (ho : o.op = .load t x) {p : AV} (hp : aev s.env x = some p) {out : Out} (h : aload T s.heap t p = some out) {ok : Nat → Prop} {μ : Mu} (hr : Rel s a w ok μ)
    (hn : ∀ v, VRel w ok μ out.v v → oList P ops Q rest (a.put o.dst v) w) : oList P ops Q (o :: rest) a w := by
  obtain ⟨v, h1, h2⟩ := load_pure hT ho hp h hr
  exact oList_pure hg h1 (hn v h2)
theorem oList_fieldAddr {T : Tab} (hT : TOk P T) {ops : Array Oper} {Q : Exit → Act → World → Prop} {a : Act} {w : World} {o : Oper} {rest : List Oper} {s : AS} {t f : Nat} {x : Operand} (hg : o.guard = none) (ho : o.op = .fieldAddr t x f) {p p' : AV} (hx : aev s.env x = some p) {fo : Nat × Nat × Bool} (hf : afield T t f = some fo)
    (h : pstep fo.1 fo.2.1 p = some p') {ok : Nat → Prop} {μ : Mu} (hr : Rel s a w ok μ) (hn : ∀ v, VRel w ok μ p' v → oList P ops Q rest (a.put o.dst v) w) : oList P ops Q (o :: rest) a w := by
  obtain ⟨v, h1, h2⟩ := fieldAddr_pure hT ho hx hf h hr
  exact oList_pure hg h1 (hn v h2)
/-- A loop that counts. -/
theorem cwp_loop_count {c : Code} {Q : Exit → Act → World → Prop} (H : Nat → Act → World → Prop) (n : Nat) (round : ∀ i a w, i < n → H i a w → cwp P c (Exit.then (H (i + 1)) Q) a w) (last : ∀ a w, H n a w → cwp P c (Exit.then (fun _ _ => False) Q) a w) {a : Act} {w : World} (h : H 0 a w) : cwp P (.loop c) Q a w := by
  refine cwp_loop_rounds (n + 1) ?_
  have key : ∀ m i a w, i + m = n → H i a w → crounds P c Q (m + 1) a w := by
    intro m
    induction m with
    | zero =>
      intro i a w hi hh
      have hin : i = n := by omega
      subst hin
      refine cwp_mono (last a w hh) fun e a' w' he => ?_
      cases e <;> first | exact he.elim | exact he
    | succ m ih =>
      intro i a w hi hh
      refine cwp_mono (round i a w (by omega) hh) fun e a' w' he => ?_
      cases e <;> first | exact ih (i + 1) a' w' (by omega) he | exact he
  exact key n 0 a w (by omega) h
/-- A slot that nobody looks at, put. -/
theorem Rel.putFree {s : AS} {a : Act} {w : World} {ok : Nat → Prop} {μ : Mu} (hr : Rel s a w ok μ) {t : Nat} (ht : eget s.env t = none) (v : Value) : Rel s (a.put (some t) v) w ok μ :=
  ⟨hr.dfr, by simp [Act.put, hr.nt], fun q x hq => by rw [put_getD (fun y hy e => by subst e; cases hy; rw [ht] at hq; cases hq)]; exact hr.env q x hq, hr.wf, hr.top⟩
theorem Rel.putVal {s : AS} {a : Act} {w : World} {ok : Nat → Prop} {μ : Mu} (hr : Rel s a w ok μ) {t : Nat} (ht : t < s.nt) {v : Value} {x : AV} (hv : VRel w ok μ x v) : Rel { s with env := eput s.env t x } (a.put (some t) v) w ok μ := by
  refine ⟨hr.dfr, by simp [Act.put, hr.nt], fun q y hq => ?_, hr.wf, hr.top⟩
  simp only [eget_eput] at hq
  rw [getD_put (by rw [hr.nt]; exact ht)]
  split at hq
  · rename_i e; rw [if_pos e]; injection hq with hq; subst hq; exact hv
  · rename_i e; rw [if_neg e]; exact hr.env q y hq
theorem raw_bool {s : AS} {a : Act} {w : World} {ok : Nat → Prop} {μ : Mu} (hr : Rel s a w ok μ) {t : Nat} {b : Bool} (h : eget s.env t = some (.bool b)) : a.tmps.getD t Go.undef = .bool b := by
  have := hr.env t _ h
  generalize a.tmps.getD t Go.undef = v at this
  cases this; rfl
theorem raw_int {s : AS} {a : Act} {w : World} {ok : Nat → Prop} {μ : Mu} (hr : Rel s a w ok μ) {t : Nat} {k : IntKind} {n : Int} (h : eget s.env t = some (.int k n)) : a.tmps.getD t Go.undef = .int k n := by
  have := hr.env t _ h
  generalize a.tmps.getD t Go.undef = v at this
  cases this; rfl
theorem Kept.low {ok ok' : Nat → Prop} {w w' : World} (h : Kept ok ok' w w') : Kept ok ok w w' := ⟨fun _ h => h, h.same, h.shape⟩
end Go.Qd
set_option linter.unusedVariables false
set_option linter.unusedSimpArgs false
namespace Go.Qd
open Go Go.RowKit
variable {P : Program}
/-- An object, seen as one that says no more. -/
theorem Thin.obj {s : AS} (k : Nat) {ob : AObj} (ob' : AObj) (hob : hget s.heap k = some ob) (ht : ob'.ty = ob.ty) (hsz : ob'.sz = ob.sz) (hl : ob'.rows.length = ob.rows.length) (h : ∀ (w : World) (ok : Nat → Prop) (μ : Mu) (cs : Array Value), RowsRel w ok (ob.mu μ) ob.sz ob.rows cs → RowsRel w ok (ob'.mu μ) ob.sz ob'.rows cs) :
    Thin s { s with heap := hput s.heap k ob' } := ⟨rfl, rfl, fun a w ok μ hr => by
  have hold : ∀ k' o', hget (hput s.heap k ob') k' = some o' → ∃ p, hget s.heap k' = some p := fun k' o' h => by
    rw [hget_hput] at h
    split at h
    · rename_i e; subst e; exact ⟨ob, hob⟩
    · exact ⟨_, h⟩
  refine ⟨ok, μ, ⟨hr.dfr, hr.nt, hr.env, ⟨hr.wf.okb, fun k' o' ho' => ?_, fun k' x' hx' => ?_, fun a1 a2 o1 o2 b s1 s2 h1 h2 h3 h4 => ?_⟩, hr.top⟩, ⟨.refl _ _, rfl, rfl, rfl, Nat.le_refl _, fun _ _ _ => rfl, fun _ h => .inl h, ?_, fun _ _ _ h => h⟩⟩
  · simp only [hget_hput] at ho'
    split at ho'
    · rename_i e; subst e; injection ho' with ho'; subst ho'
      rcases hr.wf.obj k ob hob with ⟨b, cs, g1, g2, g3, g4, g5, g6⟩ | ⟨g1, g2⟩
      · exact .inl ⟨b, cs, by rw [hsz]; exact g1, by rw [ht]; exact g2, by rw [hl, hsz]; exact g3, g4, g5, by rw [hsz]; exact h w ok _ cs g6⟩
      · exact .inr ⟨List.length_eq_zero_iff.1 (by rw [hl, g1]; rfl), g2⟩
    · exact hr.wf.obj k' o' ho'
  · obtain ⟨o, ho⟩ := hr.wf.dom k' x' hx'
    simp only [hget_hput]
    split
    · exact ⟨_, rfl⟩
    · exact ⟨o, ho⟩
  · obtain ⟨p1, hp1⟩ := hold a1 o1 h1
    obtain ⟨p2, hp2⟩ := hold a2 o2 h2
    exact hr.wf.inj a1 a2 p1 p2 b s1 s2 hp1 hp2 h3 h4
  · rintro b ⟨k', o', s1, a1, a2, a3⟩
    obtain ⟨p, hp⟩ := hold k' o' a1
    exact .inl ⟨k', p, s1, hp, a2, a3⟩⟩
/-- An object none of whose cells names an object. -/
theorem Thin.shut {s : AS} (k : Nat) {ob : AObj} (hob : hget s.heap k = some ob) (hc : ob.rows.all AV.closedAll = true) : Thin s { s with heap := hput s.heap k { ob with closed := true } } :=
  Thin.obj k _ hob rfl rfl rfl fun w ok μ cs hr => ⟨hr.len, fun j hj q hq => by
    obtain ⟨u, h1, h2⟩ := hr.at_ j hj q hq
    refine ⟨u, h1, h2.closed ?_⟩
    rw [List.all_eq_true] at hc
    exact closedAll_get (hc _ (List.getElem_mem hj)) q hq⟩
/-- A list of one's own that is still empty. -/
theorem Thin.newGhost {s : AS} (k ty sz : Nat) (hk : freeKey s k = true) : Thin s { s with heap := hput s.heap k ⟨ty, sz, true, []⟩ } := ⟨rfl, rfl, fun a w ok μ hr => by
  obtain ⟨k1, k2, k3, k4⟩ := freeKey_spec hk
  have hnone : μ k = none := by
    cases hm : μ k with
    | none => rfl
    | some x => obtain ⟨o, ho⟩ := hr.wf.dom k x hm; rw [k1] at ho; cases ho
  have hold : ∀ k' o', hget (hput s.heap k ⟨ty, sz, true, []⟩) k' = some o' → k' = k ∨ hget s.heap k' = some o' := fun k' o' h => by
    rw [hget_hput] at h
    split at h
    · rename_i e; exact .inl e.symm
    · exact .inr h
  refine ⟨ok, μ, ⟨hr.dfr, hr.nt, hr.env, ⟨hr.wf.okb, fun k' o' ho' => ?_, fun k' x' hx' => ?_, fun a1 a2 o1 o2 b s1 s2 h1 h2 h3 h4 => ?_⟩, hr.top⟩, ⟨.refl _ _, rfl, rfl, rfl, Nat.le_refl _, fun _ _ _ => rfl, fun _ h => .inl h, ?_, fun _ _ _ h => h⟩⟩
  · simp only [hget_hput] at ho'
    split at ho'
    · rename_i e; subst e; injection ho' with ho'; subst ho'
      exact .inr ⟨rfl, hnone⟩
    · exact hr.wf.obj k' o' ho'
  · simp only [hget_hput]
    split
    · exact ⟨_, rfl⟩
    · exact hr.wf.dom k' x' hx'
  · rcases hold a1 o1 h1 with rfl | g1
    · rw [hnone] at h3; cases h3
    · rcases hold a2 o2 h2 with rfl | g2
      · rw [hnone] at h4; cases h4
      · exact hr.wf.inj a1 a2 o1 o2 b s1 s2 g1 g2 h3 h4
  · rintro b ⟨k', o', s1, a1, a2, a3⟩
    rcases hold k' o' a1 with rfl | g
    · rw [hnone] at a3; cases a3
    · exact .inl ⟨k', o', s1, g, a2, a3⟩⟩
/-- A box that holds a slice without room holds that list. -/
theorem Thin.boxGhost {s : AS} (b k ty : Nat) (hob : hget s.heap b = some ⟨ty, 1, true, [[.esl]]⟩) : Thin s { s with heap := hput s.heap b ⟨ty, 1, false, [[.osl k 0 0]]⟩ } :=
  Thin.obj b _ hob rfl rfl rfl fun w ok μ cs hr => ⟨fun j hj => by simp at hj; subst hj; rfl, fun j hj q hq => by
    simp at hj; subst hj
    simp at hq; subst hq
    obtain ⟨u, h1, h2⟩ := hr.at_ 0 (by simp) 0 (by simp)
    refine ⟨u, h1, ?_⟩
    simp only [List.getElem_cons_zero] at h2 ⊢
    cases h2 with
    | esl _ A => exact .osl0 _ _ _ _⟩
/-- An object that nobody writes any more. -/
def dropR (kk : Nat) : Nat → Option Nat := fun k => if k = kk then none else some k
theorem dropR_ren (kk : Nat) : Ren (dropR kk) (dropR kk) := ⟨fun k k' => by
  unfold dropR
  constructor
  · intro h; split at h
    · cases h
    · rename_i e; injection h with h; subst h; rw [if_neg e]
  · intro h; split at h
    · cases h
    · rename_i e; injection h with h; subst h; rw [if_neg e]⟩
theorem eget_map (f : AV → AV) : ∀ (E : Env) (t : Nat), eget (E.map fun x => (x.1, f x.2)) t = (eget E t).map f := by
  intro E
  induction E with
  | nil => intro t; rfl
  | cons x r ih =>
    intro t
    obtain ⟨j, u⟩ := x
    simp only [List.map_cons, eget]
    split
    · rfl
    · exact ih t
theorem Thin.drop {s : AS} (kk : Nat) (hk : s.fb ≤ kk) : Thin s ⟨s.fb, s.nt, s.env.map (fun x => (x.1, convA (dropR kk) s.heap x.2)), convH (dropR kk) s.heap s.heap, s.frz⟩ := ⟨rfl, rfl, fun a w ok μ hr => by
  have hf : ∀ k k', dropR kk k = some k' → (k' ∈ s.frz ↔ k ∈ s.frz) := fun k k' h => by
    unfold dropR at h
    split at h
    · cases h
    · injection h with h; subst h; rfl
  refine ⟨_, _, ⟨hr.dfr, hr.nt, fun t v ht => ?_, hr.wf.conv (dropR_ren kk) hf, fun k x hx => ?_⟩, Step.conv (dropR_ren kk) (fun k h => by unfold dropR; rw [if_neg (by omega)]) hr.wf hf⟩
  · simp only [eget_map] at ht
    obtain ⟨u, hu, rfl⟩ := Option.map_eq_some_iff.1 ht
    exact (hr.env t u hu).conv (dropR_ren kk) hr.wf
  · unfold muC at hx
    cases hd : dropR kk k with
    | none => rw [hd] at hx; cases hx
    | some k2 =>
      rw [hd] at hx
      unfold dropR at hd
      split at hd
      · cases hd
      · injection hd with hd; subst hd
        exact hr.top _ _ hx⟩
end Go.Qd
set_option linter.unusedVariables false
namespace Go.Qd
open Go
/-! ### The dump's head, by its first words -/
abbrev spaceSign : Char := Char.ofNat 32
theorem words_cons {r : List Char} : ∀ {w : List Char}, (∀ c ∈ w, c ≠ spaceSign) → wordsSigns (w ++ spaceSign :: r) = w :: wordsSigns r := by
  intro w
  induction w with
  | nil => intro _; rfl
  | cons c w ih =>
    intro h
    have h1 := ih fun d hd => h d (List.mem_cons_of_mem _ hd)
    have hc : c ≠ spaceSign := h c (List.mem_cons_self ..)
    rw [List.cons_append]
    conv => lhs; unfold wordsSigns
    split
    · rename_i e; cases e
    · rename_i e; injection e with e1 _; exact absurd e1 hc
    · rename_i e; injection e with e1 e2; subst e1; subst e2
      rw [h1]
structure HeadIs (P : Program) (S R : List Char) : Prop where
  head : P.initOrder.toList = "harness".toList ++ spaceSign :: (S ++ spaceSign :: ("cut".toList ++ spaceSign :: R))
  sum : isSumSigns S = true
  none : S.all (fun c => !(c == spaceSign)) = true
theorem HeadIs.words {P : Program} {S R : List Char} (h : HeadIs P S R) : behindMainWord (wordsSigns P.initOrder.toList) = "cut".toList :: wordsSigns R := by
  have h2 : ∀ c ∈ S, c ≠ spaceSign := fun c hc e => by
    have := List.all_eq_true.1 h.none c hc
    rw [e] at this; simp at this
  rw [h.head, words_cons (by decide), words_cons h2, words_cons (by decide)]
  simp only [behindMainWord]
  rw [if_pos]
  rw [h.sum]; decide
theorem HeadIs.strip {R : List (List Char)} : stripLifts liftWords ("cut".toList :: R) = ([], "cut".toList :: R) := rfl
theorem HeadIs.headLifts {P : Program} {S R : List Char} (h : HeadIs P S R) : P.headLifts = [] := by
  unfold Program.headLifts
  rw [h.words, HeadIs.strip]
  rfl
theorem HeadIs.liftsFinal {P : Program} {S R : List Char} (h : HeadIs P S R) : P.liftsFinal = false := by
  unfold Program.liftsFinal
  rw [h.headLifts, h.words]
  rfl
theorem HeadIs.make {P : Program} {S R : List Char} (h : HeadIs P S R) : P.make = some .cut := by
  unfold Program.make
  rw [h.words]
  rfl
theorem HeadIs.mayEnter {P : Program} {S R : List Char} (h : HeadIs P S R) (h1 : P.laysLater = false) (h2 : P.bearsReflect = false) (h3 : P.doorFits [] = true) : P.mayEnter = true := by
  unfold Program.mayEnter
  rw [h.words]
  simp only [HeadIs.strip, h1, h2, h3]
  rfl
/-- What 'joinedFacts' asks, but for what the head tells. -/
theorem joined_of {P : Program} {S R : List Char} (h : HeadIs P S R) (hl : P.mayEnter = true) {f : FuncId} {fn : Func} {s : ChangeSpec} {c : OpenClaim} (hc : c.lifted = false) (hm : c.make = .cut)
    (hx : (c.wf (OpenSpec.ofChange s) && laidOutB P && mapsRowed P && fn.params.all (P.readableRec ·) && namedTie P c.named s.vars && (c.stops == []) && (P.stops == []) && (c.knobs == []) && (P.stopKnobs == [])) = true)
    (hy : ((c.inPlace == P.inPlace f) && (c.unfollowed == P.unfollowed f) && (c.recurses == P.recurses f) && (c.named == P.varsNamed f)) = true)
    (hz : ((c.maps == (fn.params.toList ++ s.plain.varTypes P).any (P.mapsRec ·)) && (c.ifaces == (fn.params.toList ++ s.plain.varTypes P).any (P.ifacesRec ·)) && (c.mapsOut == P.mapsAmong fn.resultTypes.toList) &&
      (c.loops == (fn.params.toList ++ s.plain.varTypes P).any (P.loopsFrom ·)) && (c.wideKeys == (fn.params.toList ++ s.plain.varTypes P ++ fn.resultTypes.toList).any (P.wideKeysFrom ·)) &&
      s.vars.all (P.varReadable ·) && fn.resultTypes.all (fun t => P.readableRec t && decide (t < P.types.size)) && (c.ifacesOut == fn.resultTypes.toList.any (P.ifacesRec ·)) && (c.loopsOut == fn.resultTypes.toList.any (P.loopsFrom ·)) && (c.plainKeys == P.plainKeys) && c.shortTexts.isNone && P.stopsHeard) = true)
    (hw : ((c.kinds == (if c.domain.isEmpty then [] else fn.params.toList.map fun t => match P.underlying t with | some (.int k) => some k | _ => none)) && (c.pinned == c.pinnedBy) &&
      (c.veiled == (fn.params.toList ++ s.plain.varTypes P ++ fn.resultTypes.toList).any (P.veiledRec ·)) && c.veiledFits P fn.params.toList (fn.params.toList ++ s.plain.varTypes P ++ fn.resultTypes.toList)) = true) :
    joinedFacts P f fn s c = true := by
  have e1 : (c.lifted == P.liftsFinal) = true := by rw [hc, h.liftsFinal]; rfl
  have e2 : (P.make == some c.make) = true := by rw [h.make, hm]; rfl
  simp only [Bool.and_eq_true] at hx hy hz hw
  unfold joinedFacts
  simp only [Bool.and_eq_true]
  obtain ⟨⟨⟨⟨⟨⟨⟨⟨x1, x2⟩, x3⟩, x4⟩, x5⟩, x6⟩, x7⟩, x8⟩, x9⟩ := hx
  obtain ⟨⟨⟨y1, y2⟩, y3⟩, y4⟩ := hy
  obtain ⟨⟨⟨⟨⟨⟨⟨⟨⟨⟨⟨z1, z2⟩, z3⟩, z4⟩, z5⟩, z6⟩, z7⟩, z8⟩, z9⟩, z10⟩, z11⟩, z12⟩ := hz
  obtain ⟨⟨⟨w1, w2⟩, w3⟩, w4⟩ := hw
  exact ⟨⟨⟨⟨⟨⟨⟨⟨⟨⟨⟨⟨⟨⟨⟨⟨⟨⟨⟨⟨⟨⟨⟨⟨⟨⟨⟨⟨⟨⟨⟨x1, x2⟩, x3⟩, x4⟩, x5⟩, x6⟩, x7⟩, x8⟩, x9⟩, y1⟩, y2⟩, y3⟩, y4⟩, z1⟩, z2⟩, z3⟩, z4⟩, z5⟩, z6⟩, z7⟩, z8⟩, z9⟩, z10⟩, z11⟩, z12⟩, hl⟩, e1⟩, e2⟩, w1⟩, w2⟩, w3⟩, w4⟩
end Go.Qd
set_option linter.unusedVariables false
namespace Go.Qd
open Go Go.RowKit Go.ChangeShapes Go.WideShapes
/-! ### What comes in: shapes of types, and values of them -/
inductive Sh where
  | bool
  | int (k : IntKind)
  | slice (e : Sh)
  | struct (fs : List Sh)
  | array (n : Nat) (e : Sh)
mutual
def Sh.size : Sh → Nat
  | .bool => 1
  | .int _ => 1
  | .slice _ => 1
  | .struct fs => Sh.sizes fs
  | .array n e => n * e.size
def Sh.sizes : List Sh → Nat
  | [] => 0
  | s :: r => s.size + Sh.sizes r
end
mutual
def shOk (P : Program) : Sh → TypeId → Bool
  | .bool, t => match P.underlying t with | some .bool => true | _ => false
  | .int k, t => match P.underlying t with | some (.int k') => decide (k' = k) | _ => false
  | .slice s, t => match P.underlying t with | some (.slice e) => decide (P.cellsOf e = s.size) && decide (0 < s.size) && shOk P s e | _ => false
  | .struct ss, t => match P.underlying t with | some (.struct fs) => decide (P.cellsOf t = Sh.sizes ss) && shOks P ss fs.toList 0 | _ => false
  | .array n s, t => match P.underlying t with | some (.array m e) => decide (m = n) && decide (P.cellsOf t = n * s.size) && decide (P.cellsOf e = s.size) && shOk P s e | _ => false
def shOks (P : Program) : List Sh → List Field → Nat → Bool
  | [], [], _ => true
  | s :: ss, f :: fs, off => decide (f.offset = off) && decide (P.cellsOf f.type = s.size) && shOk P s f.type && shOks P ss fs (off + s.size)
  | _, _, _ => false
end
mutual
/-- Cells of a shape, no list of which is longer than N. -/
def ShV (N : Nat) : Sh → List AV → Prop
  | .bool, l => ∃ b, l = [.bool b]
  | .int k, l => ∃ n, l = [.int k n] ∧ (Lit.int k n).wf = true
  | .slice s, l => ∃ rows : List (List AV), l = [.lst rows] ∧ rows.length ≤ maxLen ∧ rows.length ≤ N ∧ ∀ r ∈ rows, ShV N s r
  | .struct ss, l => ShVs N ss l
  | .array n s, l => ∃ rows : List (List AV), l = rows.flatten ∧ rows.length = n ∧ ∀ r ∈ rows, ShV N s r
def ShVs (N : Nat) : List Sh → List AV → Prop
  | [], l => l = []
  | s :: ss, l => ∃ a b, l = a ++ b ∧ ShV N s a ∧ ShVs N ss b
end
def shA (N : Nat) (s : Sh) (a : AV) : Prop := match s with
  | .struct _ | .array .. => ∃ l, a = .agg l ∧ ShV N s l
  | _ => ShV N s [a]
mutual
theorem ShV.len {N : Nat} : ∀ (s : Sh) {l : List AV}, ShV N s l → l.length = s.size
  | .bool, l, h => by obtain ⟨b, rfl⟩ := h; rfl
  | .int k, l, h => by obtain ⟨b, rfl, _⟩ := h; rfl
  | .slice s, l, h => by obtain ⟨b, rfl, _⟩ := h; rfl
  | .struct ss, l, h => ShVs.len ss h
  | .array n s, l, h => by
    obtain ⟨rows, rfl, rfl, h2⟩ := h
    have : ∀ rows : List (List AV), (∀ r ∈ rows, r.length = s.size) → rows.flatten.length = rows.length * s.size := by
      intro rows
      induction rows with
      | nil => intro _; simp
      | cons x r ih => intro hr; simp only [List.flatten_cons, List.length_append, List.length_cons, ih (fun r' h' => hr r' (List.mem_cons_of_mem _ h')), hr x (List.mem_cons_self ..)]; rw [Nat.succ_mul]; omega
    rw [this rows (fun r hr => ShV.len s (h2 r hr))]; rfl
theorem ShVs.len {N : Nat} : ∀ (ss : List Sh) {l : List AV}, ShVs N ss l → l.length = Sh.sizes ss
  | [], l, h => by cases h; rfl
  | s :: ss, l, h => by
    obtain ⟨a, b, rfl, h1, h2⟩ := h
    have e1 := ShV.len s h1
    have e2 := ShVs.len ss h2
    simp only [List.length_append, e1, e2, Sh.sizes]
end
/-- A bound that a datum's parts meet too. -/
structure Bnd (H : Type) (N : Nat) (B : DataW H → Prop) : Prop where
  slice : ∀ elems spare, elems.length ≤ maxLen → B (.slice elems spare) → elems.length ≤ N ∧ ∀ x ∈ elems, B x
  agg : ∀ parts, B (.agg parts) → ∀ x ∈ parts, B x
theorem Bnd.all (H : Type) : Bnd H maxLen (fun _ => True) := ⟨fun _ _ h _ => ⟨h, fun _ _ => trivial⟩, fun _ _ _ _ => trivial⟩
abbrev okAll (w : World) : Nat → Prop := fun b => b < w.heap.size
theorem cell_lt {w : World} {a : Addr} {v : Value} (h : w.cell? a = some v) : a.block < w.heap.size := by
  unfold World.cell? at h
  cases hb : w.heap[a.block]? with
  | none => rw [hb] at h; simp at h
  | some o => exact (Array.getElem?_eq_some_iff.1 hb).1
theorem mapM_get {α β : Type} {f : α → Option β} : ∀ {l : List α} {r : List β}, l.mapM f = some r → r.length = l.length ∧ ∀ i (h1 : i < l.length) (h2 : i < r.length), f l[i] = some r[i] := by
  intro l
  induction l with
  | nil => intro r h; simp at h; subst h; exact ⟨rfl, fun i h1 => by cases h1⟩
  | cons x l ih =>
    intro r h
    rw [List.mapM_cons] at h
    cases hx : f x with
    | none => rw [hx] at h; cases h
    | some y =>
      rw [hx] at h
      cases hl : l.mapM f with
      | none => rw [hl] at h; cases h
      | some z =>
        rw [hl] at h
        injection h with h; subst h
        obtain ⟨k1, k2⟩ := ih hl
        refine ⟨by simp [k1], fun i h1 h2 => ?_⟩
        cases i with
        | zero => exact hx
        | succ i => exact k2 i (by simpa using h1) (by simpa using h2)
theorem rows_of {α : Type} {Q : Nat → α → Prop} : ∀ (n : Nat), (∀ i, i < n → ∃ x, Q i x) → ∃ rows : List α, rows.length = n ∧ ∀ i (h : i < rows.length), Q i rows[i] := by
  intro n
  induction n with
  | zero => intro _; exact ⟨[], rfl, fun i h => by cases h⟩
  | succ n ih =>
    intro h
    obtain ⟨rows, h1, h2⟩ := ih fun i hi => h i (by omega)
    obtain ⟨x, hx⟩ := h n (by omega)
    refine ⟨rows ++ [x], by simp [h1], fun i hi => ?_⟩
    by_cases hin : i < rows.length
    · rw [List.getElem_append_left hin]; exact h2 i hin
    · have : i = rows.length := by simp at hi; omega
      subst this
      rw [List.getElem_append_right (Nat.le_refl _)]
      simp only [Nat.sub_self, List.getElem_cons_zero]
      rw [h1]; exact hx
theorem cells_get {w : World} {base : Nat} {a : Addr} {n : Nat} {cs : List Value} (h : w.cells? base a n = some cs) : cs.length = n ∧ ∀ q (hq : q < cs.length), w.cell? (a.add q) = some cs[q] := by
  unfold World.cells? at h
  split at h
  · obtain ⟨h1, h2⟩ := mapM_get h
    simp only [List.length_range] at h1
    refine ⟨h1, fun q hq => ?_⟩
    have := h2 q (by simp; omega) hq
    simpa using this
  · cases h
section
variable {H : Type} {enc : TypeId × Value → H} {P : Program} {w : World} {N : Nat} {B : DataW H → Prop}
theorem fields_read {r : TypeId → List Value → Option (DataW H × List MemPlace)} (hr : ∀ (s : Sh) (t : TypeId) (cs : List Value) (d : DataW H) (ps : List MemPlace), shOk P s t = true → r t cs = some (d, ps) → B d → ∃ l, VRels w (okAll w) mu0 l cs ∧ ShV N s l) (cs : List Value) :
    ∀ (fs : List Field) (ss : List Sh) (off : Nat) (xs : List (DataW H × List MemPlace)), shOks P ss fs off = true → fs.mapM (fun f => r f.type ((cs.drop f.offset).take (P.cellsOf f.type))) = some xs → (∀ x ∈ xs, B x.1) →
    ∃ l, VRels w (okAll w) mu0 l ((cs.drop off).take (Sh.sizes ss)) ∧ ShV N (.struct ss) l := by
  intro fs
  induction fs with
  | nil =>
    intro ss off xs hs h hb
    cases ss with
    | nil => exact ⟨[], by simp only [Sh.sizes, List.take_zero]; exact VRels.nil, rfl⟩
    | cons s ss => simp [shOks] at hs
  | cons f fs ih =>
    intro ss off xs hs h hb
    cases ss with
    | nil => simp [shOks] at hs
    | cons s ss =>
      simp only [shOks, Bool.and_eq_true, decide_eq_true_eq] at hs
      obtain ⟨⟨⟨h1, h2⟩, h3⟩, h4⟩ := hs
      rw [List.mapM_cons] at h
      cases hx : r f.type ((cs.drop f.offset).take (P.cellsOf f.type)) with
      | none => rw [hx] at h; cases h
      | some x =>
        rw [hx] at h
        cases hy : fs.mapM (fun f => r f.type ((cs.drop f.offset).take (P.cellsOf f.type))) with
        | none => rw [hy] at h; cases h
        | some ys =>
          rw [hy] at h
          injection h with h; subst h
          obtain ⟨a, g1, g2⟩ := hr s f.type _ x.1 x.2 h3 hx (hb x (List.mem_cons_self ..))
          obtain ⟨b, g3, g4⟩ := ih ss (off + s.size) ys h4 hy (fun z hz => hb z (List.mem_cons_of_mem _ hz))
          rw [h1, h2] at g1
          refine ⟨a ++ b, ?_, a, b, rfl, g2, g4⟩
          rw [Sh.sizes, List.take_add, List.drop_drop]
          exact g1.append g3
theorem pieces_read {r : TypeId → List Value → Option (DataW H × List MemPlace)} (hr : ∀ (s : Sh) (t : TypeId) (cs : List Value) (d : DataW H) (ps : List MemPlace), shOk P s t = true → r t cs = some (d, ps) → B d → ∃ l, VRels w (okAll w) mu0 l cs ∧ ShV N s l) (cs : List Value)
    {s : Sh} {e : TypeId} (hs : shOk P s e = true) : ∀ (n m : Nat) (xs : List (DataW H × List MemPlace)), (List.range' m n).mapM (fun i => r e ((cs.drop (i * s.size)).take s.size)) = some xs → (∀ x ∈ xs, B x.1) →
    ∃ rows : List (List AV), VRels w (okAll w) mu0 rows.flatten ((cs.drop (m * s.size)).take (n * s.size)) ∧ rows.length = n ∧ ∀ r ∈ rows, ShV N s r := by
  intro n
  induction n with
  | zero => intro m xs h hb; exact ⟨[], by simp only [Nat.zero_mul, List.take_zero]; exact VRels.nil, rfl, fun _ h => by cases h⟩
  | succ n ih =>
    intro m xs h hb
    rw [List.range'_succ, List.mapM_cons] at h
    cases hx : r e ((cs.drop (m * s.size)).take s.size) with
    | none => rw [hx] at h; cases h
    | some x =>
      rw [hx] at h
      cases hy : (List.range' (m + 1) n).mapM (fun i => r e ((cs.drop (i * s.size)).take s.size)) with
      | none => rw [hy] at h; cases h
      | some ys =>
        rw [hy] at h
        injection h with h; subst h
        obtain ⟨a, g1, g2⟩ := hr s e _ x.1 x.2 hs hx (hb x (List.mem_cons_self ..))
        obtain ⟨rows, g3, g4, g5⟩ := ih (m + 1) ys hy (fun z hz => hb z (List.mem_cons_of_mem _ hz))
        refine ⟨a :: rows, ?_, by simp [g4], fun r hr => ?_⟩
        · rw [List.flatten_cons, Nat.succ_mul, Nat.add_comm, List.take_add, List.drop_drop]
          have : m * s.size + s.size = (m + 1) * s.size := by rw [Nat.succ_mul]
          rw [this]
          exact g1.append g3
        · rcases List.mem_cons.1 hr with rfl | hr
          · exact g2
          · exact g5 r hr
theorem ts_bool {r : TypeId → List Value → Option (DataW H × List MemPlace)} {sp : Nat → Bool} {t : TypeId} {cs : List Value} {x : DataW H × List MemPlace} (hu : P.underlying t = some .bool) (h : DataW.trodStep enc P w 0 sp true r t cs = some x) : ∃ b, cs = [.bool b] := by
  cases cs with
  | nil => simp [DataW.trodStep, hu] at h
  | cons c cs =>
    cases cs with
    | cons c2 cs => cases c <;> simp [DataW.trodStep, hu] at h
    | nil => cases c <;> first | (simp [DataW.trodStep, hu] at h; done) | exact ⟨_, rfl⟩
theorem ts_int {r : TypeId → List Value → Option (DataW H × List MemPlace)} {sp : Nat → Bool} {t : TypeId} {k : IntKind} {cs : List Value} {x : DataW H × List MemPlace} (hu : P.underlying t = some (.int k)) (h : DataW.trodStep enc P w 0 sp true r t cs = some x) :
    ∃ n, cs = [.int k n] ∧ (Lit.int k n).wf = true := by
  cases cs with
  | nil => simp [DataW.trodStep, hu] at h
  | cons c cs =>
    cases cs with
    | cons c2 cs => cases c <;> simp [DataW.trodStep, hu] at h
    | nil =>
      cases c <;> first | (simp [DataW.trodStep, hu] at h; done) | skip
      simp only [DataW.trodStep, hu] at h
      split at h
      · rename_i hk; obtain ⟨rfl, hw⟩ := hk; exact ⟨_, rfl, hw⟩
      · cases h
theorem ts_slice {r : TypeId → List Value → Option (DataW H × List MemPlace)} {sp : Nat → Bool} {t e : TypeId} {cs : List Value} {x : DataW H × List MemPlace} (hu : P.underlying t = some (.slice e)) (h : DataW.trodStep enc P w 0 sp true r t cs = some x) :
    cs = [.slice none 0 0] ∨ ∃ (a : Addr) (len cap : Nat) (elems : List (DataW H × List MemPlace)) (rest : List (DataW H)), cs = [.slice (some a) len cap] ∧ len ≤ cap ∧ cap ≤ maxLen ∧
      (List.range len).mapM (fun i => (w.cells? 0 (a.add (i * P.cellsOf e)) (P.cellsOf e)).bind (r e)) = some elems ∧ x.1 = .slice (elems.map (·.1)) rest := by
  cases cs with
  | nil => simp [DataW.trodStep, hu] at h
  | cons c cs =>
    cases cs with
    | cons c2 cs => cases c <;> simp [DataW.trodStep, hu] at h
    | nil =>
      cases c <;> first | (simp [DataW.trodStep, hu] at h; done) | skip
      rename_i A len cap
      cases A with
      | none =>
        cases len with
        | succ n => simp [DataW.trodStep, hu] at h
        | zero => cases cap with
          | succ n => simp [DataW.trodStep, hu] at h
          | zero => exact .inl rfl
      | some a =>
        simp only [DataW.trodStep, hu] at h
        split at h
        · rename_i hk
          cases he : (List.range len).mapM (fun i => (w.cells? 0 (a.add (i * P.cellsOf e)) (P.cellsOf e)).bind (r e)) with
          | none => rw [he] at h; cases h
          | some elems =>
            rw [he] at h
            simp only [Option.bind_some] at h
            obtain ⟨rest, h1, h2⟩ := Option.map_eq_some_iff.1 h
            exact .inr ⟨a, len, cap, elems, rest.map (·.1), rfl, hk.2.1, hk.2.2, he, by rw [← h2]⟩
        · cases h
theorem ts_struct {r : TypeId → List Value → Option (DataW H × List MemPlace)} {sp : Nat → Bool} {t : TypeId} {fs : Array Field} {cs : List Value} {x : DataW H × List MemPlace} (hu : P.underlying t = some (.struct fs)) (h : DataW.trodStep enc P w 0 sp true r t cs = some x) :
    cs.length = P.cellsOf t ∧ ∃ xs, fs.toList.mapM (fun f => r f.type ((cs.drop f.offset).take (P.cellsOf f.type))) = some xs ∧ x.1 = .agg (xs.map (·.1)) := by
  unfold DataW.trodStep at h
  simp only [hu] at h
  split at h
  · rename_i hl
    obtain ⟨xs, h1, h2⟩ := Option.map_eq_some_iff.1 h
    exact ⟨hl, xs, h1, by rw [← h2]⟩
  · cases h
theorem ts_array {r : TypeId → List Value → Option (DataW H × List MemPlace)} {sp : Nat → Bool} {t e : TypeId} {n : Nat} {cs : List Value} {x : DataW H × List MemPlace} (hu : P.underlying t = some (.array n e)) (h : DataW.trodStep enc P w 0 sp true r t cs = some x) :
    cs.length = P.cellsOf t ∧ ∃ xs, (List.range n).mapM (fun i => r e ((cs.drop (i * P.cellsOf e)).take (P.cellsOf e))) = some xs ∧ x.1 = .agg (xs.map (·.1)) := by
  unfold DataW.trodStep at h
  simp only [hu] at h
  split at h
  · rename_i hl
    obtain ⟨xs, h1, h2⟩ := Option.map_eq_some_iff.1 h
    exact ⟨hl, xs, h1, by rw [← h2]⟩
  · cases h
theorem addr_two (b off i q : Nat) : ((⟨b, off, none⟩ : Addr).add i).add q = ⟨b, off + (i + q), none⟩ := by
  rw [addr_add, addr_add, Nat.add_assoc]
/-- What is read of a slice's elements. -/
theorem slice_read {s : Sh} {e : TypeId} {a : Addr} {len cap : Nat} (hs : 0 < s.size) (hsz : P.cellsOf e = s.size) (h1 : len ≤ cap) (h2 : cap ≤ maxLen) (hN : len ≤ N)
    (hel : ∀ i, i < len → ∃ x : List AV × List Value, w.cells? 0 (a.add (i * s.size)) s.size = some x.2 ∧ VRels w (okAll w) mu0 x.1 x.2 ∧ ShV N s x.1) :
    ∃ l, VRels w (okAll w) mu0 l [.slice (some a) len cap] ∧ ShV N (.slice s) l := by
  obtain ⟨xs, k1, k2⟩ := rows_of len hel
  subst k1
  have hlen : (xs.map (·.1)).length = xs.length := by simp
  refine ⟨[.lst (xs.map (·.1))], ?_, xs.map (·.1), rfl, by rw [hlen]; omega, by rw [hlen]; exact hN, fun r hr => ?_⟩
  · refine VRels.cons ?_ .nil
    have hsp : 0 < xs.length → a.spot = none := fun hp => by
      obtain ⟨g1, g2, g3⟩ := k2 0 hp
      obtain ⟨g4, g5⟩ := cells_get g1
      have := World.cell?_spot (g5 0 (by omega))
      simpa [Addr.add] using this
    have hcell : ∀ j (hj : j < xs.length) q (hq : q < s.size), ∃ u, w.cell? ⟨a.block, a.off + (j * s.size + q), none⟩ = some u ∧ ∃ (hx : q < xs[j].1.length), VRel w (okAll w) mu0 (xs[j].1[q]) u := fun j hj q hq => by
      obtain ⟨g1, g2, g3⟩ := k2 j hj
      obtain ⟨g4, g5⟩ := cells_get g1
      have hq2 : q < xs[j].2.length := by omega
      refine ⟨xs[j].2[q], ?_, by rw [g2.len]; exact hq2, g2.at_ q _ hq2⟩
      have := g5 q hq2
      obtain ⟨b, off, spot⟩ := a
      have hspot : spot = none := hsp (by omega)
      subst hspot
      rw [addr_two] at this
      exact this
    have hr := VRel.lst (w := w) (ok := okAll w) mu0 (xs.map (·.1)) (some a) cap s.size (fun j q => (w.cell? ⟨a.block, a.off + (j * s.size + q), none⟩).getD Go.undef) (by simpa using h1) h2
      (fun j hj => by
        have hj' : j < xs.length := by simpa using hj
        rw [List.getElem_map]
        exact ShV.len s (k2 j hj').2.2)
      (fun hp => by
        have hp' : 0 < xs.length := by simpa using hp
        obtain ⟨b, off, spot⟩ := a
        have hspot : spot = none := hsp hp'
        subst hspot
        refine ⟨b, off, rfl, ?_, fun j hj q hq => ?_⟩
        · obtain ⟨u, hu, _⟩ := hcell 0 hp' 0 hs
          exact cell_lt hu
        · obtain ⟨u, hu, _⟩ := hcell j (by simpa using hj) q hq
          rw [hu]; rfl)
      (fun j hj q hq => by
        have hj' : j < xs.length := by simpa using hj
        have hq' : q < s.size := by
          rw [List.getElem_map] at hq
          rw [ShV.len s (k2 j hj').2.2] at hq
          exact hq
        obtain ⟨u, hu, hx, hv⟩ := hcell j hj' q hq'
        simp only [hu, Option.getD_some, List.getElem_map]
        exact hv)
    rw [hlen] at hr
    exact hr
  · obtain ⟨x, hx, rfl⟩ := List.mem_map.1 hr
    obtain ⟨j, hj, rfl⟩ := List.mem_iff_getElem.1 hx
    exact (k2 j hj).2.2
theorem sh_read (hB : Bnd H N B) : ∀ (fuel : Nat) (s : Sh) (t : TypeId) (cs : List Value) (d : DataW H) (ps : List MemPlace), shOk P s t = true → DataW.trod enc P w 0 (fun _ => true) true fuel t cs = some (d, ps) → B d →
    ∃ l, VRels w (okAll w) mu0 l cs ∧ ShV N s l := by
  intro fuel
  induction fuel with
  | zero => intro s t cs d ps _ h; simp [DataW.trod] at h
  | succ fuel ih =>
    intro s t cs d ps hs h hb
    rw [DataW.trod_step] at h
    cases s with
    | bool =>
      simp only [shOk] at hs
      split at hs
      · rename_i hu
        obtain ⟨b, rfl⟩ := ts_bool hu h
        exact ⟨[.bool b], VRels.cons (.bool ..) .nil, b, rfl⟩
      · cases hs
    | int k =>
      simp only [shOk] at hs
      split at hs
      · rename_i k' hu
        have hk : k' = k := by simpa using hs
        subst hk
        obtain ⟨n, rfl, hw⟩ := ts_int hu h
        exact ⟨[.int _ n], VRels.cons (.int ..) .nil, n, rfl, hw⟩
      · cases hs
    | slice s =>
      simp only [shOk] at hs
      split at hs
      · rename_i e hu
        simp only [Bool.and_eq_true, decide_eq_true_eq] at hs
        obtain ⟨⟨g1, g2⟩, g3⟩ := hs
        rcases ts_slice hu h with rfl | ⟨a, len, cap, elems, rest, rfl, k1, k2, k3, k4⟩
        · exact ⟨[.lst []], VRels.cons (lst_nil (by decide)) .nil, [], rfl, by simp, by simp, fun _ h => by cases h⟩
        · simp only at k4
          obtain ⟨m1, m2⟩ := mapM_get k3
          simp only [List.length_range] at m1
          rw [k4] at hb
          obtain ⟨n1, n2⟩ := hB.slice _ _ (by simp; omega) hb
          refine slice_read g2 g1 k1 k2 (by simpa [m1] using n1) fun i hi => ?_
          have hx := m2 i (by simpa using hi) (by omega)
          rw [List.getElem_range, g1] at hx
          cases hc : w.cells? 0 (a.add (i * s.size)) s.size with
          | none => rw [hc] at hx; cases hx
          | some cs =>
            rw [hc] at hx
            simp only [Option.bind_some] at hx
            obtain ⟨l, v1, v2⟩ := ih s e cs elems[i].1 elems[i].2 g3 hx (n2 _ (List.mem_map.2 ⟨_, List.getElem_mem _, rfl⟩))
            exact ⟨(l, cs), rfl, v1, v2⟩
      · cases hs
    | struct ss =>
      simp only [shOk] at hs
      split at hs
      · rename_i fs hu
        simp only [Bool.and_eq_true, decide_eq_true_eq] at hs
        obtain ⟨g1, xs, g2, g3⟩ := ts_struct hu h
        simp only at g3
        rw [g3] at hb
        obtain ⟨l, k1, k2⟩ := fields_read (w := w) (N := N) (B := B) (fun s t cs d ps h1 h2 h3 => ih s t cs d ps h1 h2 h3) cs fs.toList ss 0 xs hs.2 g2 (fun x hx => hB.agg _ hb _ (List.mem_map.2 ⟨_, hx, rfl⟩))
        rw [List.drop_zero, List.take_of_length_le (by omega)] at k1
        exact ⟨l, k1, k2⟩
      · cases hs
    | array n s =>
      simp only [shOk] at hs
      split at hs
      · rename_i m e hu
        simp only [Bool.and_eq_true, decide_eq_true_eq] at hs
        obtain ⟨⟨⟨g1, g2⟩, g3⟩, g4⟩ := hs
        subst g1
        obtain ⟨k1, xs, k2, k3⟩ := ts_array hu h
        simp only at k3
        rw [k3] at hb
        rw [g3, List.range_eq_range'] at k2
        obtain ⟨rows, m1, m2, m3⟩ := pieces_read (w := w) (N := N) (B := B) (fun s t cs d ps h1 h2 h3 => ih s t cs d ps h1 h2 h3) cs g4 m 0 xs k2 (fun x hx => hB.agg _ hb _ (List.mem_map.2 ⟨_, hx, rfl⟩))
        rw [Nat.zero_mul, List.drop_zero, List.take_of_length_le (by omega)] at m1
        exact ⟨rows.flatten, m1, rows, rfl, m2, m3⟩
      · cases hs
theorem arg_read (hB : Bnd H N B) {r : Reach} {base : Nat} {s : Sh} {t : TypeId} {v : Value} {d : DataW H} {ps : List MemPlace} (hs : shOk P s t = true) (hv : Value.okWide P w r base t v) (h : DataW.Trod enc P w 0 (fun _ => true) true t v d ps) (hb : B d) :
    ∃ a, VRel w (okAll w) mu0 a v ∧ shA N s a := by
  obtain ⟨fuel, h⟩ := h
  obtain ⟨l, h1, h2⟩ := sh_read hB fuel s t _ d ps hs h hb
  cases s with
  | bool =>
    simp only [shOk] at hs
    split at hs
    · rename_i hu
      obtain ⟨b, rfl⟩ := okWide_bool hu hv
      obtain ⟨b', rfl⟩ := h2
      exact ⟨.bool b', h1.at_ 0 (by simp) (by simp [Value.cells]), b', rfl⟩
    · cases hs
  | int k =>
    simp only [shOk] at hs
    split at hs
    · rename_i k' hu
      obtain ⟨b, rfl⟩ := okWide_int hu hv
      obtain ⟨n, rfl, hw⟩ := h2
      exact ⟨.int k n, h1.at_ 0 (by simp) (by simp [Value.cells]), n, rfl, hw⟩
    · cases hs
  | slice s =>
    simp only [shOk] at hs
    split at hs
    · rename_i e hu
      obtain ⟨a, len, cap, rfl⟩ := okWide_slice hu hv
      obtain ⟨rows, rfl, hw⟩ := h2
      exact ⟨.lst rows, h1.at_ 0 (by simp) (by simp [Value.cells]), rows, rfl, hw⟩
    · cases hs
  | struct ss =>
    simp only [shOk] at hs
    split at hs
    · rename_i fs hu
      obtain ⟨cs, rfl, hsz⟩ := okWide_struct hu hv
      exact ⟨.agg l, .agg _ _ _ (by have := h1.len; simpa [Value.cells] using this) (fun i h3 h4 => by have := h1.at_ i h3 (by simpa [Value.cells] using h4); simpa [Value.cells] using this), l, rfl, h2⟩
    · cases hs
  | array n s =>
    simp only [shOk] at hs
    split at hs
    · rename_i m e hu
      have hv' := hv
      unfold Value.okWide at hv'
      rw [hu] at hv'
      obtain ⟨cs, rfl, hsz, _⟩ := hv'
      exact ⟨.agg l, .agg _ _ _ (by have := h1.len; simpa [Value.cells] using this) (fun i h3 h4 => by have := h1.at_ i h3 (by simpa [Value.cells] using h4); simpa [Value.cells] using this), l, rfl, h2⟩
    · cases hs
def shAs (N : Nat) : List Sh → List AV → Prop
  | [], [] => True
  | s :: ss, a :: r => shA N s a ∧ shAs N ss r
  | _, _ => False
def shOkL (P : Program) : List Sh → List TypeId → Bool
  | [], [] => true
  | s :: ss, t :: ts => shOk P s t && shOkL P ss ts
  | _, _ => false
theorem args_read (hB : Bnd H N B) {r : Reach} {base : Nat} : ∀ (ss : List Sh) (ts : List TypeId) (vs : List Value) (ds : List (DataW H)) (ps : List MemPlace), shOkL P ss ts = true → (∀ (j : Nat) (t : TypeId) (v : Value), ts[j]? = some t → vs[j]? = some v → Value.okWide P w r base t v) →
    DataW.TrodAll enc P w 0 (fun _ => true) true ts vs ds ps → (∀ d ∈ ds, B d) → ∃ l, VRels w (okAll w) mu0 l vs ∧ shAs N ss l := by
  intro ss
  induction ss with
  | nil =>
    intro ts vs ds ps hs hv h hb
    cases ts with
    | cons t ts => simp [shOkL] at hs
    | nil =>
      obtain ⟨rfl, rfl, rfl⟩ := trodAll_nil h
      exact ⟨[], .nil, trivial⟩
  | cons s ss ih =>
    intro ts vs ds ps hs hv h hb
    cases ts with
    | nil => simp [shOkL] at hs
    | cons t ts =>
      simp only [shOkL, Bool.and_eq_true] at hs
      obtain ⟨v0, vs0, d0, ds0, p0, q0, rfl, rfl, rfl, h0, r0⟩ := trodAll_cons h
      obtain ⟨a, g1, g2⟩ := arg_read hB hs.1 (hv 0 t v0 rfl rfl) h0 (hb d0 (List.mem_cons_self ..))
      obtain ⟨l, g3, g4⟩ := ih ts vs0 ds0 q0 hs.2 (fun j t v h1 h2 => hv (j + 1) t v h1 h2) r0 (fun d hd => hb d (List.mem_cons_of_mem _ hd))
      exact ⟨a :: l, VRels.cons g1 g3, g2, g4⟩
theorem trodAll_below (hl : laidOutB P = true) {W W' : World} (hb : Below W.heap.size W W') : ∀ (ts : List TypeId) (vs : List Value) (ds : List (DataW H)) (ps : List MemPlace), ts.all (fun t => P.readableRec t && decide (t < P.types.size)) = true →
    DataW.TrodAll enc P W 0 (fun _ => true) true ts vs ds ps → ∃ q, DataW.TrodAll enc P W' 0 (fun b => decide (b < W.heap.size)) true ts vs ds q := by
  intro ts
  induction ts with
  | nil => intro vs ds ps _ h; obtain ⟨rfl, rfl, rfl⟩ := trodAll_nil h; exact ⟨[], rfl⟩
  | cons t ts ih =>
    intro vs ds ps hr h
    simp only [List.all_cons, Bool.and_eq_true, decide_eq_true_eq] at hr
    obtain ⟨v0, vs0, d0, ds0, p0, q0, rfl, rfl, rfl, h0, r0⟩ := trodAll_cons h
    obtain ⟨q, hq⟩ := ih vs0 ds0 q0 hr.2 r0
    have lt0 : ∀ x ∈ p0, x.block < W.heap.size := by obtain ⟨m, hm⟩ := h0; exact DataW.trod_lt m _ _ _ hm
    exact ⟨_, p0, q, Below.trod hl hr.1.1 hr.1.2 h0 hb lt0, hq, rfl⟩
/-- A law: from its contract to what its row asks. -/
theorem law_contract (hB : Bnd H N B) {f : FuncId} {fn : Func} (hl : laidOutB P = true) {ss : List Sh} (hss : shOkL P ss fn.params.toList = true) {tb : TypeId} (hres : fn.resultTypes = #[tb]) (htb : P.underlying tb = some .bool) {s : ChangeSpec} (hsv : s.vars = [])
    (hsf : ∀ ds : List (DataW H), ds.length = fn.params.size → s.fn H ds = { results := [.lit (.bool true)], args := ds }) (hrd : fn.params.toList.all (fun t => P.readableRec t && decide (t < P.types.size)) = true)
    (con : ∀ l, shAs N ss l → ICall P f l (.bool true) []) {W : World} {base : Nat} {args : Array Value} {ds gs : List (DataW H)} {before : List MemPlace} {apart : Bool}
    (hval : ∀ (j : Nat) t v, fn.params[j]? = some t → args[j]? = some v → Value.okWide P W .any base t v) (hW : DataW.Whole enc P fn.params.toList s.vars apart W args.toList ds gs before) (hb : ∀ d ∈ ds, B d) :
    Calls P f args W fun e W' => ∃ v, e = .returned v ∧ s.post enc P fn apart true false false W args v W' := by
  have hW' := hW
  obtain ⟨p, q, hA, hV, rfl, hfz, hnd⟩ := hW
  rw [hsv] at hV
  obtain ⟨rfl, rfl⟩ := trodVars_none hV
  obtain ⟨l, hl1, hl2⟩ := args_read hB ss fn.params.toList args.toList ds p hss (fun j t v h1 h2 => hval j t v (by simpa using h1) (by simpa using h2)) hA hb
  refine (con l hl2 W (okAll W) args (fun _ h => h) hl1).mono fun e W' ⟨v, ok', μ', he, hv, _, hs⟩ => ?_
  have hvb := eval_bool hv
  subst hvb
  have bel := hs.below
  obtain ⟨pa, hpa⟩ := trodAll_below (enc := enc) hl bel _ _ _ _ hrd hA
  have hlen : ds.length = fn.params.size := by
    have : ∀ (ts : List TypeId) (vs : List Value) (ds : List (DataW H)) (ps : List MemPlace), DataW.TrodAll enc P W 0 (fun _ => true) true ts vs ds ps → ds.length = ts.length := by
      intro ts
      induction ts with
      | nil => intro vs ds ps h; obtain ⟨rfl, rfl, rfl⟩ := trodAll_nil h; rfl
      | cons t ts ih => intro vs ds ps h; obtain ⟨v0, vs0, d0, ds0, p0, q0, rfl, rfl, rfl, h0, r0⟩ := trodAll_cons h; simp [ih _ _ _ r0]
    simpa using this _ _ _ _ hA
  refine ⟨_, he, ds, [], _, [], pa, [], hW', ?_, ?_, ?_, bel.frame _, fun h => by cases h⟩
  · rw [List.append_nil, hsf ds hlen, hres]
    exact trodAll_mk1 (shut_bool htb true)
  · rw [List.append_nil, hsf ds hlen]
    exact hpa
  · rw [List.append_nil, hsf ds hlen, hsv]
    exact rfl
end
end Go.Qd
