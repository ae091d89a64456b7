/- A part of the library of this claim: rules of an abstract machine (values in place of addresses), proved against the model, and contracts of the functions. -/
import Derived.Orders
import Derived.Below
import Derived.OrdersIn
import Derived.LoopNIn
import Derived.TacticsIn
import Derived.RangeFuncNested
import Derived.Laws.StructEq
import Derived.Laws.CopyRow
import Derived.Laws.Cells
import Derived.Laws.Entries
import Derived.Laws.Rows
import Derived.Laws.Tables
set_option linter.unusedVariables false
set_option linter.unusedSimpArgs false
/- The calculus that the abstract machine stands on: what holds of a code in an activation as in a round of a range over a function, whatever deferred calls are pending. -/
namespace Go.Qd
open Go Go.RowKit
variable {P : Program}

def fen (ro : Option Nat) : Fence := { Fence.wide with round := ro }
theorem fen_none : fen none = Fence.wide := rfl
theorem fen_some (l : Nat) : fen (some l) = Fence.wide.inRound l := rfl
def Qd (ds d0 : List Deferred) (Q : Exit → Act → World → Prop) : Exit → Act → World → Prop := fun e a w => a.defers = ds ∧ Q e ⟨a.tmps, d0⟩ w
def cwp (P : Program) (c : Code) (Q : Exit → Act → World → Prop) (a : Act) (w : World) : Prop := ∀ (ro : Option Nat) (ds : List Deferred), c.wpIn (fen ro) 0 P (Qd ds a.defers Q) ⟨a.tmps, ds⟩ w
theorem cwp_mono {c : Code} {Q Q' : Exit → Act → World → Prop} {a : Act} {w : World} (h : cwp P c Q a w) (hq : ∀ e a w, Q e a w → Q' e a w) : cwp P c Q' a w :=
  fun ro ds => wpIn_mono (h ro ds) fun e a' w' ⟨h1, h2⟩ => ⟨h1, hq _ _ _ h2⟩
theorem cwp_skip {Q : Exit → Act → World → Prop} {a : Act} {w : World} (h : Q .normal a w) : cwp P .skip Q a w := fun ro ds => wpIn_skip ⟨rfl, h⟩
theorem cwp_ret {Q : Exit → Act → World → Prop} {a : Act} {w : World} (h : Q .ret a w) : cwp P .ret Q a w := fun ro ds => wpIn_ret ⟨rfl, h⟩
theorem cwp_exit {id : Nat} {Q : Exit → Act → World → Prop} {a : Act} {w : World} (h : Q (.exit id) a w) : cwp P (.exit id) Q a w := fun ro ds => wpIn_exit ⟨rfl, h⟩
theorem cwp_seq {x y : Code} {Q : Exit → Act → World → Prop} {a : Act} {w : World} (h : cwp P x (Exit.then (cwp P y Q) Q) a w) : cwp P (.seq x y) Q a w :=
  fun ro ds => wpIn_seq (wpIn_mono (h ro ds) fun e a' w' ⟨h1, h2⟩ => by
    obtain ⟨t, d⟩ := a'
    simp only at h1
    subst h1
    cases e with
    | normal => exact h2 ro d
    | _ => exact ⟨rfl, h2⟩)
theorem cwp_block {id : Nat} {c : Code} {Q : Exit → Act → World → Prop} {a : Act} {w : World} (h : cwp P c (Exit.inBlock id Q) a w) : cwp P (.block id c) Q a w :=
  fun ro ds => wpIn_block (wpIn_mono (h ro ds) fun e a' w' ⟨h1, h2⟩ => by
    cases e with
    | exit k =>
      simp only [Exit.inBlock] at h2 ⊢
      split
      · rename_i hk; rw [if_pos hk] at h2; exact ⟨h1, h2⟩
      · rename_i hk; rw [if_neg hk] at h2; exact ⟨h1, h2⟩
    | _ => exact ⟨h1, h2⟩)
theorem eval_ds (a : Act) (ds : List Deferred) : (⟨a.tmps, ds⟩ : Act).eval = a.eval := by
  funext x; cases x <;> rfl
theorem cwp_cond_split {c : Operand} {x y : Code} {t : Bool} {Q : Exit → Act → World → Prop} {a : Act} {w : World} (hc : a.eval c = .bool t) (ht : t = true → cwp P x Q a w) (hf : t = false → cwp P y Q a w) : cwp P (.cond c x y) Q a w :=
  fun ro ds => wpIn_cond_split (by rw [eval_ds]; exact hc) (fun h => ht h ro ds) (fun h => hf h ro ds)
theorem cwp_loop {c : Code} {Q : Exit → Act → World → Prop} {a : Act} {w : World} (I : Act → World → Prop) (μ : Act → World → Nat) (h₀ : I a w)
    (round : ∀ a' w', I a' w' → a'.defers = a.defers → cwp P c (Exit.then (fun a2 w2 => I a2 w2 ∧ μ a2 w2 < μ a' w') Q) a' w') : cwp P (.loop c) Q a w := fun ro ds => by
  refine wpIn_loop (fun a' w' => a'.defers = ds ∧ I ⟨a'.tmps, a.defers⟩ w') (fun a' w' => μ ⟨a'.tmps, a.defers⟩ w') ⟨rfl, h₀⟩ ?_
  rintro ⟨t, d⟩ w' ⟨h1, h2⟩
  simp only at h1 h2
  subst h1
  refine wpIn_mono (round ⟨t, a.defers⟩ w' h2 rfl ro d) fun e a2 w2 ⟨g1, g2⟩ => ?_
  cases e with
  | normal => exact ⟨⟨g1, g2.1⟩, g2.2⟩
  | _ => exact ⟨g1, g2⟩
def crounds (P : Program) (c : Code) (Q : Exit → Act → World → Prop) : Nat → Act → World → Prop
  | 0, _, _ => False
  | n + 1, a, w => cwp P c (Exit.then (crounds P c Q n) Q) a w
theorem cwp_loop_rounds {c : Code} {Q : Exit → Act → World → Prop} : ∀ (n : Nat) {a : Act} {w : World}, crounds P c Q n a w → cwp P (.loop c) Q a w := by
  intro n a w h ro ds
  refine wpIn_loop_rounds n ?_
  have key : ∀ (n : Nat) (t : Array Value) (w : World), crounds P c Q n ⟨t, a.defers⟩ w → Code.roundsIn (fen ro) 0 P c (Qd ds a.defers Q) n ⟨t, ds⟩ w := by
    intro n
    induction n with
    | zero => intro t w h; exact h
    | succ n ih =>
      intro t w h
      refine wpIn_mono (h ro ds) fun e a' w' ⟨h1, h2⟩ => ?_
      obtain ⟨t', d'⟩ := a'
      simp only at h1
      subst h1
      cases e with
      | normal => exact ih t' w' h2
      | _ => exact ⟨rfl, h2⟩
  exact key n a.tmps w h
/-- One operation. -/
def oupon (P : Program) (o : Oper) (a : Act) (K : Act → World → Prop) : Result Next → Prop
  | .ok (.value v) w => K (a.put o.dst v) w
  | .ok .skip w => K (a.put o.dst undef) w
  | .ok (.enter f args) w => Calls P f args w fun e w' => match e with
    | .returned v => K (a.put o.dst v) w'
    | _ => False
  | .ok (.round l f tmps assign body) w => RoundIn Fence.wide 0 P l f tmps assign body w fun e w' => match e with
    | .returned v => K (a.put o.dst v) w'
    | _ => False
  | _ => False
def oOp (P : Program) (o : Oper) (a : Act) (w : World) (K : Act → World → Prop) : Prop := oupon P o a K ((execOp a.eval o).run P w)
theorem oOp_mono {o : Oper} {a : Act} {w : World} {K K' : Act → World → Prop} (h : ∀ a w, K a w → K' a w) (hh : oOp P o a w K) : oOp P o a w K' := by
  unfold oOp at hh ⊢
  generalize (execOp a.eval o).run P w = r at hh ⊢
  cases r with
  | ok x w' =>
    cases x <;> simp only [oupon] at hh ⊢ <;> first
      | exact hh.elim
      | exact h _ _ hh
      | exact Calls.mono hh fun e w'' he => by cases e <;> first | exact h _ _ he | exact he.elim
      | exact RoundIn.mono hh fun e w'' he => by cases e <;> first | exact h _ _ he | exact he.elim
  | halt x w' => exact hh.elim
theorem put_ds (a : Act) (ds : List Deferred) (d : Option Tmp) (v : Value) : (⟨a.tmps, ds⟩ : Act).put d v = ⟨(a.put d v).tmps, ds⟩ := by
  cases d <;> rfl
theorem put_dfr (a : Act) (d : Option Tmp) (v : Value) : (a.put d v).defers = a.defers := by cases d <;> rfl
theorem oOp_sound {o : Oper} {a : Act} {w : World} {K : Act → World → Prop} (h : oOp P o a w K) (ro : Option Nat) (ds : List Deferred) {K' : Act → World → Prop} {Q : Exit → Act → World → Prop} (hK : ∀ a' w', a'.defers = a.defers → K a' w' → K' ⟨a'.tmps, ds⟩ w') : o.wpIn (fen ro) 0 P ⟨a.tmps, ds⟩ w K' Q := by
  have hnd : ∀ c, o.op ≠ .defer c := fun c e => by
    unfold oOp at h
    have hx : execOp a.eval o = (do let d ← resolve a.eval c o.type; pure (.defer d)) := by unfold execOp; rw [e]
    rw [hx] at h
    simp only [Sem.run_bind] at h
    cases hr : (resolve a.eval c o.type).run P w with
    | ok d w' => rw [hr] at h; simp [oupon] at h
    | halt x w' => rw [hr] at h; exact h.elim
  refine ⟨fun _ _ => trivial, ?_⟩
  have hs : o.semAt (fen ro).round (⟨a.tmps, ds⟩ : Act).eval = execOp a.eval o := by rw [eval_ds]; exact Oper.semAt_eq _ _ _ hnd
  rw [hs]
  unfold oOp at h
  generalize (execOp a.eval o).run P w = r at h
  cases r with
  | ok x w' =>
    cases x <;> simp only [oupon] at h <;> first
      | exact h.elim
      | (simp only [Oper.uponIn]; rw [put_ds]; exact hK _ _ (put_dfr _ _ _) h)
      | (simp only [Oper.uponIn]
         refine ⟨fun hh => (by cases hh), callsIn_wide.2 (Calls.mono h fun e w'' he => ?_)⟩
         cases e with
         | returned v => simp only; rw [put_ds]; exact hK _ _ (put_dfr _ _ _) he
         | _ => exact he.elim)
      | (simp only [Oper.uponIn]
         refine ⟨fun hh => (by cases hh), RoundIn.mono (F := fen ro) h fun e w'' he => ?_⟩
         cases e with
         | returned v => simp only; rw [put_ds]; exact hK _ _ (put_dfr _ _ _) he
         | _ => exact he.elim)
  | halt x w' => exact h.elim
/-- An operation puts into its own place alone. -/
theorem oOp_put {o : Oper} {a : Act} {w : World} {K : Act → World → Prop} (hh : oOp P o a w K) : oOp P o a w (fun a' w' => K a' w' ∧ ∃ v, a' = a.put o.dst v) := by
  unfold oOp at hh ⊢
  generalize (execOp a.eval o).run P w = r at hh ⊢
  cases r with
  | ok x w' =>
    cases x <;> simp only [oupon] at hh ⊢ <;> first
      | exact hh.elim
      | exact ⟨hh, _, rfl⟩
      | exact Calls.mono hh fun e w'' he => by cases e <;> first | exact ⟨he, _, rfl⟩ | exact he.elim
      | exact RoundIn.mono hh fun e w'' he => by cases e <;> first | exact ⟨he, _, rfl⟩ | exact he.elim
  | halt x w' => exact hh.elim
def oList (P : Program) (ops : Array Oper) (Q : Exit → Act → World → Prop) : List Oper → Act → World → Prop
  | [], a, w => Q .normal a w
  | o :: rest, a, w => if Region.wanted o (yielded ops a.tmps) then oOp P o a w (oList P ops Q rest) else oList P ops Q rest (a.put o.dst undef) w
theorem oList_nil {ops : Array Oper} {Q : Exit → Act → World → Prop} {a : Act} {w : World} (h : Q .normal a w) : oList P ops Q [] a w := h
theorem oList_step {ops : Array Oper} {Q : Exit → Act → World → Prop} {a : Act} {w : World} {o : Oper} {rest : List Oper}
    (h : ∀ K : Act → World → Prop, (∀ a w, oList P ops Q rest a w → K a w) → if Region.wanted o (yielded ops a.tmps) then oOp P o a w K else K (a.put o.dst undef) w) : oList P ops Q (o :: rest) a w := h _ fun _ _ h => h
theorem oList_plain {ops : Array Oper} {Q : Exit → Act → World → Prop} {a : Act} {w : World} {o : Oper} {rest : List Oper} (hg : o.guard = none)
    (h : ∀ K : Act → World → Prop, (∀ a w, oList P ops Q rest a w → K a w) → oOp P o a w K) : oList P ops Q (o :: rest) a w :=
  oList_step fun K hK => by simp only [Region.wanted, hg, if_true]; exact h K hK
theorem oList_mono {ops : Array Oper} {Q Q' : Exit → Act → World → Prop} (hQ : ∀ e a w, Q e a w → Q' e a w) : ∀ (l : List Oper) (a : Act) (w : World), oList P ops Q l a w → oList P ops Q' l a w := by
  intro l
  induction l with
  | nil => intro a w h; exact hQ _ _ _ h
  | cons o r ih =>
    intro a w h
    unfold oList at h ⊢
    split
    · rename_i hw; rw [if_pos hw] at h; exact oOp_mono (fun a w => ih a w) h
    · rename_i hw; rw [if_neg hw] at h; exact ih _ _ h
theorem put_getD {a : Act} {d : Option Tmp} {v : Value} {t : Nat} (h : ∀ x, d = some x → x ≠ t) : (a.put d v).tmps.getD t Go.undef = a.tmps.getD t Go.undef := by
  cases d with
  | none => rfl
  | some d =>
    have := h d rfl
    simp only [Act.put, Array.getD_eq_getD_getElem?]
    rw [Array.getElem?_setIfInBounds_ne this]
theorem oList_track {ops : Array Oper} {Q : Exit → Act → World → Prop} (Z : List Nat) : ∀ (l : List Oper) (a : Act) (w : World), (∀ o ∈ l, ∀ d, o.dst = some d → d ∉ Z) → oList P ops Q l a w →
    oList P ops (fun e a' w' => Q e a' w' ∧ ∀ t ∈ Z, a'.tmps.getD t Go.undef = a.tmps.getD t Go.undef) l a w := by
  intro l
  induction l with
  | nil => intro a w _ h; exact ⟨h, fun _ _ => rfl⟩
  | cons o r ih =>
    intro a w hz h
    have hput : ∀ v, ∀ t ∈ Z, (a.put o.dst v).tmps.getD t Go.undef = a.tmps.getD t Go.undef := fun v t ht => put_getD fun x hx e => hz o (by simp) x hx (e ▸ ht)
    have step : ∀ v w', oList P ops Q r (a.put o.dst v) w' → oList P ops (fun e a' w' => Q e a' w' ∧ ∀ t ∈ Z, a'.tmps.getD t Go.undef = a.tmps.getD t Go.undef) r (a.put o.dst v) w' := fun v w' h' =>
      oList_mono (fun e a' w'' hq => ⟨hq.1, fun t ht => (hq.2 t ht).trans (hput v t ht)⟩) _ _ _ (ih _ _ (fun o' ho' => hz o' (by simp [ho'])) h')
    unfold oList at h ⊢
    split
    · rename_i hw
      rw [if_pos hw] at h
      refine oOp_mono (fun a' w' hk => ?_) (oOp_put h)
      obtain ⟨h1, v, rfl⟩ := hk
      exact step v w' h1
    · rename_i hw
      rw [if_neg hw] at h
      exact step _ _ h
theorem oList_append {ops : Array Oper} {Q : Exit → Act → World → Prop} (l2 : List Oper) : ∀ (l : List Oper) (a : Act) (w : World), oList P ops (fun e a' w' => match e with
    | .normal => oList P ops Q l2 a' w'
    | _ => False) l a w → oList P ops Q (l ++ l2) a w := by
  intro l
  induction l with
  | nil => intro a w h; exact h
  | cons o r ih =>
    intro a w h
    show oList P ops Q (o :: (r ++ l2)) a w
    unfold oList at h ⊢
    split
    · rename_i hw; rw [if_pos hw] at h; exact oOp_mono (fun a' w' h' => ih a' w' h') h
    · rename_i hw; rw [if_neg hw] at h; exact ih _ _ h
theorem oList_sound {ops : Array Oper} {Q : Exit → Act → World → Prop} (d0 : List Deferred) (ro : Option Nat) (ds : List Deferred) : ∀ (l : List Oper) (a : Act) (w : World), a.defers = d0 → oList P ops Q l a w → wpListIn (fen ro) 0 P ops (Qd ds d0 Q) l ⟨a.tmps, ds⟩ w := by
  intro l
  induction l with
  | nil => rintro ⟨t, d⟩ w hd h; simp only at hd; subst hd; exact ⟨rfl, h⟩
  | cons o r ih =>
    intro a w hd h
    unfold oList at h
    unfold wpListIn
    split
    · rename_i hw
      rw [if_pos hw] at h
      exact oOp_sound h ro ds fun a' w' h1 h2 => ih a' w' (h1.trans hd) h2
    · rename_i hw
      rw [if_neg hw] at h
      refine ⟨fun _ _ => trivial, ?_⟩
      rw [put_ds]
      exact ih _ _ ((put_dfr _ _ _).trans hd) h
theorem cwp_region_lit {id : Nat} {l : List Oper} {Q : Exit → Act → World → Prop} {a : Act} {w : World} (h : oList P l.toArray Q l a w) : cwp P (.region id l.toArray false) Q a w :=
  fun ro ds => wpIn_region_lit (oList_sound a.defers ro ds l a w rfl h)
def oOpI (P : Program) (ops : Array Oper) (i : Nat) (K : Act → World → Prop) (a : Act) (w : World) : Prop :=
  match ops[i]? with
  | none => K a w
  | some o => if Region.wanted o (yielded ops a.tmps) then oOp P o a w K else K (a.put o.dst undef) w
def oAny (P : Program) (md : Region.Mode) (ops : Array Oper) (Q : Exit → Act → World → Prop) : Nat → Array Bool → Act → World → Prop
  | 0, listed, a, w => Region.ready md ops listed = [] ∧ Q .normal a w
  | fuel + 1, listed, a, w => (Region.ready md ops listed = [] → Q .normal a w) ∧ ∀ i ∈ Region.ready md ops listed, oOpI P ops i (oAny P md ops Q fuel (listed.setIfInBounds i true)) a w
theorem oAny_sound {md : Region.Mode} {ops : Array Oper} {Q : Exit → Act → World → Prop} (d0 : List Deferred) (ro : Option Nat) (ds : List Deferred) : ∀ (fuel : Nat) (listed : Array Bool) (a : Act) (w : World), a.defers = d0 → oAny P md ops Q fuel listed a w →
    wpAnyIn (fen ro) 0 P md ops (Qd ds d0 Q) fuel listed ⟨a.tmps, ds⟩ w := by
  intro fuel
  induction fuel with
  | zero => rintro listed ⟨t, d⟩ w hd h; simp only at hd; subst hd; exact ⟨h.1, rfl, h.2⟩
  | succ fuel ih =>
    intro listed a w hd h
    refine ⟨fun hn => ?_, fun i hi => ?_⟩
    · obtain ⟨t, d⟩ := a; simp only at hd; subst hd; exact ⟨rfl, h.1 hn⟩
    · have h2 := h.2 i hi
      unfold oOpI at h2
      unfold wpOpIn
      split
      · rename_i hn; rw [hn] at h2; exact ih _ _ _ hd h2
      · rename_i o ho
        rw [ho] at h2
        simp only at h2
        split
        · rename_i hw
          rw [if_pos hw] at h2
          exact oOp_sound h2 ro ds fun a' w' g1 g2 => ih _ a' w' (g1.trans hd) g2
        · rename_i hw
          rw [if_neg hw] at h2
          refine ⟨fun _ _ => trivial, ?_⟩
          rw [put_ds]
          exact ih _ _ _ ((put_dfr _ _ _).trans hd) h2
theorem cwp_region_any {id : Nat} {ops : Array Oper} {Q : Exit → Act → World → Prop} {a : Act} {w : World} (hm : P.follows .mixedOrders = true) (h : oAny P .any ops Q ops.size (Array.replicate ops.size false) a { w with drawn := w.drawn + 1 }) : cwp P (.region id ops true) Q a w :=
  fun ro ds => wpIn_region_any hm (oAny_sound a.defers ro ds _ _ a _ rfl h)
/-- In an activation. -/
theorem cwp_wp {c : Code} {Q : Exit → Act → World → Prop} {a : Act} {w : World} (ha : a.defers = []) (h : cwp P c Q a w) : c.wp P Q a w := by
  obtain ⟨t, d⟩ := a
  simp only at ha
  subst ha
  exact wp_mono (wpIn_wide.1 (h none [])) fun e a' w' ⟨h1, h2⟩ => by
    obtain ⟨t', d'⟩ := a'
    simp only at h1
    subst h1
    exact h2
end Go.Qd
/- The abstract machine: values without addresses of the outside, the memory that a call made for itself as a small list of objects, and how both stand to the model's values and worlds. -/
namespace Go.Qd
open Go Go.RowKit

/-- Values. 'ptr o j q': row j, cell q of the call's own object o. 'vptr': a pointer to memory that nobody writes any more, by what it holds. 'lst': a slice of such memory, by its rows. 'osl o j len': a slice of object o's rows from j on; 'osc': its room is known too. 'esl': a slice without room. -/
inductive AV where
  | undef
  | bool (b : Bool)
  | int (k : IntKind) (n : Int)
  | nilp
  | nilf
  | esl
  | ptr (o j q : Nat)
  | vptr (cells : List AV)
  | lst (rows : List (List AV))
  | osl (o j len : Nat)
  | osc (o j len cap : Nat)
  | fn (f : FuncId) (first cap : List AV)
  | iface (t : TypeId) (v : AV)
  | agg (cells : List AV)
  | tup (vs : List AV)

instance : Inhabited AV := ⟨.undef⟩

abbrev Mu := Nat → Option (Nat × Nat)
def mu0 : Mu := fun _ => none

inductive VRel (w : World) (ok : Nat → Prop) : Mu → AV → Value → Prop where
  | undef (μ : Mu) (v : Value) : VRel w ok μ .undef v
  | bool (μ : Mu) (b : Bool) : VRel w ok μ (.bool b) (.bool b)
  | int (μ : Mu) (k : IntKind) (n : Int) : VRel w ok μ (.int k n) (.int k n)
  | nilp (μ : Mu) : VRel w ok μ .nilp (.pointer none)
  | nilf (μ : Mu) : VRel w ok μ .nilf .nilFunc
  | esl (μ : Mu) (A : Option Addr) : VRel w ok μ .esl (.slice A 0 0)
  | ptr (μ : Mu) (o j q b sz : Nat) (h : μ o = some (b, sz)) : VRel w ok μ (.ptr o j q) (.pointer (some ⟨b, j * sz + q, none⟩))
  | vptr (μ : Mu) (cs : List AV) (b off : Nat) (us : Nat → Value) (hb : ok b) (hc : ∀ i, i < cs.length → w.cell? ⟨b, off + i, none⟩ = some (us i))
      (hr : ∀ i (h : i < cs.length), VRel w ok mu0 cs[i] (us i)) : VRel w ok μ (.vptr cs) (.pointer (some ⟨b, off, none⟩))
  | lst (μ : Mu) (rows : List (List AV)) (A : Option Addr) (cap sz : Nat) (us : Nat → Nat → Value) (h1 : rows.length ≤ cap) (h2 : cap ≤ maxLen)
      (hs : ∀ j (h : j < rows.length), rows[j].length = sz)
      (hc : 0 < rows.length → ∃ b off, A = some ⟨b, off, none⟩ ∧ ok b ∧ ∀ j, j < rows.length → ∀ q, q < sz → w.cell? ⟨b, off + (j * sz + q), none⟩ = some (us j q))
      (hr : ∀ j (h : j < rows.length) q (hq : q < rows[j].length), VRel w ok mu0 rows[j][q] (us j q)) : VRel w ok μ (.lst rows) (.slice A rows.length cap)
  | osl (μ : Mu) (o j len b sz cap : Nat) (h : μ o = some (b, sz)) (h1 : len ≤ cap) (h2 : cap ≤ maxLen)
      (hs : ∃ cs ty, w.heap[b]? = some (.cells cs ty (0, 0)) ∧ (j + cap) * sz ≤ cs.size) : VRel w ok μ (.osl o j len) (.slice (some ⟨b, j * sz, none⟩) len cap)
  | osl0 (μ : Mu) (o j : Nat) (A : Option Addr) : VRel w ok μ (.osl o j 0) (.slice A 0 0)
  | osc (μ : Mu) (o j len b sz cap : Nat) (h : μ o = some (b, sz)) (h1 : len ≤ cap) (h2 : cap ≤ maxLen)
      (hs : ∃ cs ty, w.heap[b]? = some (.cells cs ty (0, 0)) ∧ (j + cap) * sz ≤ cs.size) : VRel w ok μ (.osc o j len cap) (.slice (some ⟨b, j * sz, none⟩) len cap)
  | fn (μ : Mu) (f : FuncId) (first cap : List AV) (fs cs : Array Value) (hl : first.length = fs.size) (hm : cap.length = cs.size)
      (h : ∀ i (h1 : i < first.length) (h2 : i < fs.size), VRel w ok μ first[i] fs[i]) (h' : ∀ i (h1 : i < cap.length) (h2 : i < cs.size), VRel w ok μ cap[i] cs[i]) :
      VRel w ok μ (.fn f first cap) (.func (.func f) fs cs)
  | iface (μ : Mu) (t : TypeId) (v : AV) (u : Value) (h : VRel w ok μ v u) : VRel w ok μ (.iface t v) (.iface t u)
  | agg (μ : Mu) (cs : List AV) (us : Array Value) (hl : cs.length = us.size) (h : ∀ i (h1 : i < cs.length) (h2 : i < us.size), VRel w ok μ cs[i] us[i]) : VRel w ok μ (.agg cs) (.agg us)
  | tup (μ : Mu) (cs : List AV) (us : Array Value) (hl : cs.length = us.size) (h : ∀ i (h1 : i < cs.length) (h2 : i < us.size), VRel w ok μ cs[i] us[i]) : VRel w ok μ (.tup cs) (.tuple us)

/-- The world has moved on: what is held for unwritten is as it was, blocks keep their shape. -/
structure Kept (ok ok' : Nat → Prop) (w w' : World) : Prop where
  okLe : ∀ b, ok b → ok' b
  same : ∀ b, ok b → w'.heap[b]? = w.heap[b]?
  shape : ∀ (b : Nat) (cs : Array Value) ty fr, w.heap[b]? = some (.cells cs ty fr) → ∃ cs' : Array Value, w'.heap[b]? = some (.cells cs' ty fr) ∧ cs'.size = cs.size

theorem Kept.refl (ok : Nat → Prop) (w : World) : Kept ok ok w w := ⟨fun _ h => h, fun _ _ => rfl, fun _ cs _ _ h => ⟨cs, h, rfl⟩⟩
theorem Kept.trans {ok1 ok2 ok3 : Nat → Prop} {a b c : World} (h : Kept ok1 ok2 a b) (k : Kept ok2 ok3 b c) : Kept ok1 ok3 a c :=
  ⟨fun b hb => k.okLe b (h.okLe b hb), fun b hb => (k.same b (h.okLe b hb)).trans (h.same b hb), fun b cs ty fr hb => by
    obtain ⟨cs1, h1, h2⟩ := h.shape b cs ty fr hb
    obtain ⟨cs2, h3, h4⟩ := k.shape b cs1 ty fr h1
    exact ⟨cs2, h3, h4.trans h2⟩⟩

def MuLe (μ μ' : Mu) : Prop := ∀ o x, μ o = some x → μ' o = some x
theorem MuLe.refl (μ : Mu) : MuLe μ μ := fun _ _ h => h
theorem MuLe.trans {a b c : Mu} (h : MuLe a b) (k : MuLe b c) : MuLe a c := fun o x hx => k o x (h o x hx)
theorem mu0_le (μ : Mu) : MuLe mu0 μ := fun _ _ h => by cases h

theorem cell_of_block {w w' : World} {b : Nat} (h : w'.heap[b]? = w.heap[b]?) (off : Nat) : w'.cell? ⟨b, off, none⟩ = w.cell? ⟨b, off, none⟩ := by
  simp only [World.cell?, h]

theorem VRel.mono {w w' : World} {ok ok' : Nat → Prop} (hk : Kept ok ok' w w') {μ : Mu} {a : AV} {v : Value} (h : VRel w ok μ a v) : ∀ {μ' : Mu}, MuLe μ μ' → VRel w' ok' μ' a v := by
  induction h with
  | undef μ v => exact fun _ => .undef _ _
  | bool => exact fun _ => .bool _ _
  | int => exact fun _ => .int _ _ _
  | nilp => exact fun _ => .nilp _
  | nilf => exact fun _ => .nilf _
  | esl => exact fun _ => .esl _ _
  | ptr μ o j q b sz h => exact fun hm => .ptr _ _ _ _ _ _ (hm _ _ h)
  | vptr μ cs b off us hb hc hr ih => exact fun _ => .vptr _ _ _ _ us (hk.okLe _ hb) (fun i hi => (cell_of_block (hk.same _ hb) _).trans (hc i hi)) (fun i hi => ih i hi (.refl _))
  | lst μ rows A cap sz us h1 h2 hs hc hr ih =>
    exact fun _ => .lst _ _ _ _ sz us h1 h2 hs (fun hp => by
      obtain ⟨b, off, e, hb, hcs⟩ := hc hp
      exact ⟨b, off, e, hk.okLe _ hb, fun j hj q hq => (cell_of_block (hk.same _ hb) _).trans (hcs j hj q hq)⟩) (fun j hj q hq => ih j hj q hq (.refl _))
  | osl μ o j len b sz cap h h1 h2 hs =>
    intro μ' hm
    obtain ⟨cs, ty, hb, hle⟩ := hs
    obtain ⟨cs', hb', hsz⟩ := hk.shape b cs ty (0, 0) hb
    exact .osl _ _ _ _ _ _ _ (hm _ _ h) h1 h2 ⟨cs', ty, hb', by omega⟩
  | osl0 => exact fun _ => .osl0 _ _ _ _
  | osc μ o j len b sz cap h h1 h2 hs =>
    intro μ' hm
    obtain ⟨cs, ty, hb, hle⟩ := hs
    obtain ⟨cs', hb', hsz⟩ := hk.shape b cs ty (0, 0) hb
    exact .osc _ _ _ _ _ _ _ (hm _ _ h) h1 h2 ⟨cs', ty, hb', by omega⟩
  | fn μ f first cap fs cs hl hm' h h' ih ih' => exact fun hm => .fn _ _ _ _ _ _ hl hm' (fun i h1 h2 => ih i h1 h2 hm) (fun i h1 h2 => ih' i h1 h2 hm)
  | iface μ t v u h ih => exact fun hm => .iface _ _ _ _ (ih hm)
  | agg μ cs us hl h ih => exact fun hm => .agg _ _ _ hl (fun i h1 h2 => ih i h1 h2 hm)
  | tup μ cs us hl h ih => exact fun hm => .tup _ _ _ hl (fun i h1 h2 => ih i h1 h2 hm)

/-! ### What holds no place of the call's own -/
mutual
def AV.closed : AV → Bool
  | .ptr .. | .osl .. | .osc .. => false
  | .fn _ first cap => AV.closedAll first && AV.closedAll cap
  | .iface _ v => v.closed
  | .agg cs => AV.closedAll cs
  | .tup cs => AV.closedAll cs
  | _ => true
def AV.closedAll : List AV → Bool
  | [] => true
  | a :: r => a.closed && AV.closedAll r
end
theorem closedAll_get {l : List AV} (h : AV.closedAll l = true) : ∀ i (hi : i < l.length), l[i].closed = true := by
  induction l with
  | nil => intro i hi; cases hi
  | cons a r ih =>
    simp only [AV.closedAll, Bool.and_eq_true] at h
    intro i hi
    cases i with
    | zero => exact h.1
    | succ i => exact ih h.2 i (by simpa using hi)
theorem closedAll_of {l : List AV} (h : ∀ i (hi : i < l.length), l[i].closed = true) : AV.closedAll l = true := by
  induction l with
  | nil => rfl
  | cons a r ih =>
    simp only [AV.closedAll, Bool.and_eq_true]
    exact ⟨h 0 (by simp), ih fun i hi => h (i + 1) (by simpa using hi)⟩

theorem VRel.closed {w : World} {ok : Nat → Prop} {μ : Mu} {a : AV} {v : Value} (h : VRel w ok μ a v) : a.closed = true → ∀ {μ' : Mu}, VRel w ok μ' a v := by
  induction h with
  | undef μ v => exact fun _ _ => .undef _ _
  | bool => exact fun _ _ => .bool _ _
  | int => exact fun _ _ => .int _ _ _
  | nilp => exact fun _ _ => .nilp _
  | nilf => exact fun _ _ => .nilf _
  | esl => exact fun _ _ => .esl _ _
  | ptr => exact fun h => by cases h
  | vptr μ cs b off us hb hc hr ih => exact fun _ _ => .vptr _ _ _ _ us hb hc hr
  | lst μ rows A cap sz us h1 h2 hs hc hr ih => exact fun _ _ => .lst _ _ _ _ sz us h1 h2 hs hc hr
  | osl => exact fun h => by cases h
  | osl0 => exact fun h => by cases h
  | osc => exact fun h => by cases h
  | fn μ f first cap fs cs hl hm' h h' ih ih' =>
    intro hc μ'
    simp only [AV.closed, Bool.and_eq_true] at hc
    exact .fn _ _ _ _ _ _ hl hm' (fun i h1 h2 => ih i h1 h2 (closedAll_get hc.1 i h1)) (fun i h1 h2 => ih' i h1 h2 (closedAll_get hc.2 i h1))
  | iface μ t v u h ih => exact fun hc μ' => .iface _ _ _ _ (ih hc)
  | agg μ cs us hl h ih => exact fun hc μ' => .agg _ _ _ hl (fun i h1 h2 => ih i h1 h2 (closedAll_get hc i h1))
  | tup μ cs us hl h ih => exact fun hc μ' => .tup _ _ _ hl (fun i h1 h2 => ih i h1 h2 (closedAll_get hc i h1))

/-! ### Lists of values -/
structure VRels (w : World) (ok : Nat → Prop) (μ : Mu) (l : List AV) (vs : List Value) : Prop where
  len : l.length = vs.length
  at_ : ∀ i (h1 : i < l.length) (h2 : i < vs.length), VRel w ok μ l[i] vs[i]
theorem VRels.mono {w w' : World} {ok ok' : Nat → Prop} (hk : Kept ok ok' w w') {μ μ' : Mu} (hm : MuLe μ μ') {l : List AV} {vs : List Value} (h : VRels w ok μ l vs) : VRels w' ok' μ' l vs :=
  ⟨h.len, fun i h1 h2 => (h.at_ i h1 h2).mono hk hm⟩
theorem VRels.closed {w : World} {ok : Nat → Prop} {μ : Mu} {l : List AV} {vs : List Value} (h : VRels w ok μ l vs) (hc : AV.closedAll l = true) {μ' : Mu} : VRels w ok μ' l vs :=
  ⟨h.len, fun i h1 h2 => (h.at_ i h1 h2).closed (closedAll_get hc i h1)⟩
theorem VRels.nil {w : World} {ok : Nat → Prop} {μ : Mu} : VRels w ok μ [] [] := ⟨rfl, fun _ h _ => by cases h⟩
theorem VRels.cons {w : World} {ok : Nat → Prop} {μ : Mu} {a : AV} {v : Value} {l : List AV} {vs : List Value} (h : VRel w ok μ a v) (k : VRels w ok μ l vs) : VRels w ok μ (a :: l) (v :: vs) :=
  ⟨by simp [k.len], fun i h1 h2 => by
    cases i with
    | zero => exact h
    | succ i => exact k.at_ i (by simpa using h1) (by simpa using h2)⟩
theorem VRels.uncons {w : World} {ok : Nat → Prop} {μ : Mu} {a : AV} {l : List AV} {vs : List Value} (h : VRels w ok μ (a :: l) vs) : ∃ v r, vs = v :: r ∧ VRel w ok μ a v ∧ VRels w ok μ l r := by
  cases vs with
  | nil => have := h.len; simp at this
  | cons v r => exact ⟨v, r, rfl, h.at_ 0 (by simp) (by simp), ⟨by have := h.len; simpa using this, fun i h1 h2 => h.at_ (i + 1) (by simpa using h1) (by simpa using h2)⟩⟩
theorem VRels.unnil {w : World} {ok : Nat → Prop} {μ : Mu} {vs : List Value} (h : VRels w ok μ [] vs) : vs = [] := by
  have := h.len
  cases vs with
  | nil => rfl
  | cons => simp at this
theorem VRels.append {w : World} {ok : Nat → Prop} {μ : Mu} {l l' : List AV} {vs vs' : List Value} (h : VRels w ok μ l vs) (k : VRels w ok μ l' vs') : VRels w ok μ (l ++ l') (vs ++ vs') := by
  induction l generalizing vs with
  | nil => obtain rfl := h.unnil; exact k
  | cons a l ih =>
    obtain ⟨v, r, rfl, h1, h2⟩ := h.uncons
    exact .cons h1 (ih h2)

end Go.Qd
set_option linter.unusedVariables false
namespace Go.Qd
open Go Go.RowKit

/-- What a call made for itself: a block of rows. 'closed': nothing in it leads to such a block. -/
structure AObj where
  ty : TypeId
  sz : Nat
  closed : Bool
  rows : List (List AV)

abbrev Heap := List (Nat × AObj)
def hget : Heap → Nat → Option AObj
  | [], _ => none
  | (k, o) :: r, k' => if k = k' then some o else hget r k'
def hput : Heap → Nat → AObj → Heap
  | [], k, o => [(k, o)]
  | (k', o') :: r, k, o => if k' = k then (k, o) :: r else (k', o') :: hput r k o
theorem hget_hput (h : Heap) (k k' : Nat) (o : AObj) : hget (hput h k o) k' = if k = k' then some o else hget h k' := by
  induction h with
  | nil => rfl
  | cons x r ih =>
    obtain ⟨j, p⟩ := x
    simp only [hput]
    by_cases e : j = k
    · subst e; simp only [if_pos, hget]; split <;> rfl
    · rw [if_neg e]; simp only [hget, ih]
      by_cases e1 : j = k'
      · subst e1; rw [if_pos rfl, if_neg (fun h => e h.symm), if_pos rfl]
      · rw [if_neg e1, if_neg e1]

abbrev Env := List (Nat × AV)
def eget : Env → Nat → Option AV
  | [], _ => none
  | (k, o) :: r, k' => if k = k' then some o else eget r k'
def eput : Env → Nat → AV → Env
  | [], k, o => [(k, o)]
  | (k', o') :: r, k, o => if k' = k then (k, o) :: r else (k', o') :: eput r k o
theorem eget_eput (h : Env) (k k' : Nat) (o : AV) : eget (eput h k o) k' = if k = k' then some o else eget h k' := by
  induction h with
  | nil => rfl
  | cons x r ih =>
    obtain ⟨j, p⟩ := x
    simp only [eput]
    by_cases e : j = k
    · subst e; simp only [if_pos, eget]; split <;> rfl
    · rw [if_neg e]; simp only [eget, ih]
      by_cases e1 : j = k'
      · subst e1; rw [if_pos rfl, if_neg (fun h => e h.symm), if_pos rfl]
      · rw [if_neg e1, if_neg e1]

/-- The machine of one function's run: 'fb': where its own objects' names begin, 'nt': how many slots it has; the slots that are known; its objects; which of them are no longer written. -/
structure AS where
  fb : Nat
  nt : Nat
  env : Env
  heap : Heap
  frz : List Nat

def AS.top (s : AS) : Nat := s.fb + 8 * s.nt

structure RowsRel (w : World) (ok : Nat → Prop) (μ : Mu) (sz : Nat) (rows : List (List AV)) (cs : Array Value) : Prop where
  len : ∀ j (h : j < rows.length), rows[j].length = sz
  at_ : ∀ j (h : j < rows.length) q (hq : q < rows[j].length), ∃ u, cs[j * sz + q]? = some u ∧ VRel w ok μ rows[j][q] u
theorem RowsRel.mono {w w' : World} {ok ok' : Nat → Prop} (hk : Kept ok ok' w w') {μ μ' : Mu} (hm : MuLe μ μ') {sz : Nat} {rows : List (List AV)} {cs : Array Value} (h : RowsRel w ok μ sz rows cs) :
    RowsRel w' ok' μ' sz rows cs :=
  ⟨h.len, fun j hj q hq => by obtain ⟨u, h1, h2⟩ := h.at_ j hj q hq; exact ⟨u, h1, h2.mono hk hm⟩⟩

def AObj.mu (o : AObj) (μ : Mu) : Mu := if o.closed = true then mu0 else μ
theorem AObj.mu_le (o : AObj) {μ μ' : Mu} (h : MuLe μ μ') : MuLe (o.mu μ) (o.mu μ') := by
  unfold AObj.mu; split
  · exact MuLe.refl _
  · exact h
theorem AObj.mu_le' (o : AObj) (μ : Mu) : MuLe (o.mu μ) μ := by
  unfold AObj.mu; split
  · exact mu0_le _
  · exact MuLe.refl _

def Own (h : Heap) (frz : List Nat) (μ : Mu) (b : Nat) : Prop := ∃ k o sz, hget h k = some o ∧ k ∉ frz ∧ μ k = some (b, sz)

structure Wf (h : Heap) (frz : List Nat) (w : World) (ok : Nat → Prop) (μ : Mu) : Prop where
  okb : ∀ b, ok b → b < w.heap.size
  obj : ∀ k o, hget h k = some o → (∃ b cs, μ k = some (b, o.sz) ∧ w.heap[b]? = some (.cells cs o.ty (0, 0)) ∧ o.rows.length * o.sz ≤ cs.size ∧ (k ∉ frz → ¬ ok b) ∧ (k ∈ frz → ok b) ∧
    RowsRel w ok (o.mu μ) o.sz o.rows cs) ∨ (o.rows = [] ∧ μ k = none)
  dom : ∀ k x, μ k = some x → ∃ o, hget h k = some o
  inj : ∀ k k' o o' b s s', hget h k = some o → hget h k' = some o' → μ k = some (b, s) → μ k' = some (b, s') → k = k'

structure Step (fb : Nat) (h : Heap) (frz : List Nat) (w : World) (ok : Nat → Prop) (μ : Mu) (h' : Heap) (frz' : List Nat) (w' : World) (ok' : Nat → Prop) (μ' : Mu) : Prop where
  kept : Kept ok ok' w w'
  os : w'.os = w.os
  tape : w'.tape = w.tape
  output : w'.output = w.output
  size : w.heap.size ≤ w'.heap.size
  frame : ∀ b, b < w.heap.size → ¬ Own h frz μ b → w'.heap[b]? = w.heap[b]?
  okNew : ∀ b, ok' b → ok b ∨ Own h frz μ b ∨ w.heap.size ≤ b
  own : ∀ b, Own h' frz' μ' b → Own h frz μ b ∨ w.heap.size ≤ b
  mu : ∀ k x, k < fb → μ k = some x → μ' k = some x

theorem Step.refl (fb : Nat) (h : Heap) (frz : List Nat) (w : World) (ok : Nat → Prop) (μ : Mu) : Step fb h frz w ok μ h frz w ok μ :=
  ⟨.refl _ _, rfl, rfl, rfl, Nat.le_refl _, fun _ _ _ => rfl, fun _ h => .inl h, fun _ h => .inl h, fun _ _ _ h => h⟩
theorem Step.trans {fb : Nat} {h1 h2 h3 : Heap} {f1 f2 f3 : List Nat} {w1 w2 w3 : World} {ok1 ok2 ok3 : Nat → Prop} {μ1 μ2 μ3 : Mu}
    (a : Step fb h1 f1 w1 ok1 μ1 h2 f2 w2 ok2 μ2) (b : Step fb h2 f2 w2 ok2 μ2 h3 f3 w3 ok3 μ3) : Step fb h1 f1 w1 ok1 μ1 h3 f3 w3 ok3 μ3 where
  kept := a.kept.trans b.kept
  os := b.os.trans a.os
  tape := b.tape.trans a.tape
  output := b.output.trans a.output
  size := Nat.le_trans a.size b.size
  frame := fun x hx hn => (b.frame x (Nat.lt_of_lt_of_le hx a.size) fun ho => by
    rcases a.own x ho with h | h
    · exact hn h
    · omega).trans (a.frame x hx hn)
  okNew := fun x hx => by
    rcases b.okNew x hx with h | h | h
    · exact a.okNew x h
    · exact .inr (a.own x h)
    · exact .inr (.inr (Nat.le_trans a.size h))
  own := fun x hx => by
    rcases b.own x hx with h | h
    · exact a.own x h
    · exact .inr (Nat.le_trans a.size h)
  mu := fun k x hk h => b.mu k x hk (a.mu k x hk h)
theorem Step.weaken {fb fb' : Nat} (hle : fb' ≤ fb) {h1 h2 : Heap} {f1 f2 : List Nat} {w1 w2 : World} {ok1 ok2 : Nat → Prop} {μ1 μ2 : Mu} (a : Step fb h1 f1 w1 ok1 μ1 h2 f2 w2 ok2 μ2) :
    Step fb' h1 f1 w1 ok1 μ1 h2 f2 w2 ok2 μ2 := { a with mu := fun k x hk h => a.mu k x (Nat.lt_of_lt_of_le hk hle) h }
/-- A call that was given none of our objects turned nothing that was there. -/
theorem Step.below {fb : Nat} {h' : Heap} {f f' : List Nat} {w w' : World} {ok ok' : Nat → Prop} {μ μ' : Mu} (a : Step fb [] f w ok μ h' f' w' ok' μ') : Below w.heap.size w w' :=
  ⟨a.os, a.tape, a.output, a.size, fun k hk => a.frame k hk (by rintro ⟨_, _, _, h, _⟩; cases h)⟩

structure Rel (s : AS) (a : Act) (w : World) (ok : Nat → Prop) (μ : Mu) : Prop where
  dfr : a.defers = []
  nt : a.tmps.size = s.nt
  env : ∀ t v, eget s.env t = some v → VRel w ok μ v (a.tmps.getD t Go.undef)
  wf : Wf s.heap s.frz w ok μ
  top : ∀ k x, μ k = some x → k < s.top

def Post (s : AS) (w : World) (ok : Nat → Prop) (μ : Mu) (K : Exit → AS → Prop) : Exit → Act → World → Prop := fun e a' w' =>
  ∃ s' ok' μ', K e s' ∧ s'.fb = s.fb ∧ s'.nt = s.nt ∧ Rel s' a' w' ok' μ' ∧ Step s.fb s.heap s.frz w ok μ s'.heap s'.frz w' ok' μ'

def AWP (P : Program) (c : Code) (s : AS) (K : Exit → AS → Prop) : Prop := ∀ a w ok μ, Rel s a w ok μ → cwp P c (Post s w ok μ K) a w

section
variable {P : Program}

theorem Post.mono {s : AS} {w : World} {ok : Nat → Prop} {μ : Mu} {K K' : Exit → AS → Prop} (h : ∀ e s', K e s' → K' e s') {e : Exit} {a : Act} {w' : World} (hp : Post s w ok μ K e a w') : Post s w ok μ K' e a w' := by
  obtain ⟨s', ok', μ', hk, h1, h2, h3, h4⟩ := hp
  exact ⟨s', ok', μ', h _ _ hk, h1, h2, h3, h4⟩
theorem Post.step {s s1 : AS} {w w1 : World} {ok ok1 : Nat → Prop} {μ μ1 : Mu} {K : Exit → AS → Prop} (hf : s1.fb = s.fb) (hn : s1.nt = s.nt) (hs : Step s.fb s.heap s.frz w ok μ s1.heap s1.frz w1 ok1 μ1)
    {e : Exit} {a : Act} {w' : World} (hp : Post s1 w1 ok1 μ1 K e a w') : Post s w ok μ K e a w' := by
  obtain ⟨s', ok', μ', hk, h1, h2, h3, h4⟩ := hp
  exact ⟨s', ok', μ', hk, h1.trans hf, h2.trans hn, h3, hs.trans (hf ▸ h4)⟩
theorem AWP.mono {c : Code} {s : AS} {K K' : Exit → AS → Prop} (h : AWP P c s K) (hk : ∀ e s', K e s' → K' e s') : AWP P c s K' :=
  fun a w ok μ hr => cwp_mono (h a w ok μ hr) fun _ _ _ hp => hp.mono hk

/-- What follows a part that ended. -/
def Then (N : AS → Prop) (K : Exit → AS → Prop) : Exit → AS → Prop
  | .normal, s => N s
  | e, s => K e s
theorem AWP.skip {s : AS} {K : Exit → AS → Prop} (h : K .normal s) : AWP P .skip s K :=
  fun a w ok μ hr => cwp_skip ⟨s, ok, μ, h, rfl, rfl, hr, .refl _ _ _ _ _ _⟩
theorem AWP.ret {s : AS} {K : Exit → AS → Prop} (h : K .ret s) : AWP P .ret s K :=
  fun a w ok μ hr => cwp_ret ⟨s, ok, μ, h, rfl, rfl, hr, .refl _ _ _ _ _ _⟩
theorem AWP.exit {id : Nat} {s : AS} {K : Exit → AS → Prop} (h : K (.exit id) s) : AWP P (.exit id) s K :=
  fun a w ok μ hr => cwp_exit ⟨s, ok, μ, h, rfl, rfl, hr, .refl _ _ _ _ _ _⟩
theorem AWP.seq {x y : Code} {s : AS} {K : Exit → AS → Prop} (h : AWP P x s (Then (fun s' => AWP P y s' K) K)) : AWP P (.seq x y) s K := by
  intro a w ok μ hr
  refine cwp_seq (cwp_mono (h a w ok μ hr) fun e a1 w1 hp => ?_)
  obtain ⟨s1, ok1, μ1, hk, hf, hn, hr1, hs⟩ := hp
  cases e with
  | normal => exact cwp_mono (hk a1 w1 ok1 μ1 hr1) fun _ _ _ hp => hp.step hf hn hs
  | _ => exact ⟨s1, ok1, μ1, hk, hf, hn, hr1, hs⟩
/-- How a block's end is met. -/
def InBlock (id : Nat) (K : Exit → AS → Prop) : Exit → AS → Prop
  | .exit id', s => if id' = id then K .normal s else K (.exit id') s
  | e, s => K e s
theorem AWP.block {id : Nat} {c : Code} {s : AS} {K : Exit → AS → Prop} (h : AWP P c s (InBlock id K)) : AWP P (.block id c) s K := by
  intro a w ok μ hr
  refine cwp_block (cwp_mono (h a w ok μ hr) fun e a1 w1 hp => ?_)
  obtain ⟨s1, ok1, μ1, hk, hf, hn, hr1, hs⟩ := hp
  cases e with
  | exit id' =>
    simp only [InBlock] at hk
    simp only [Exit.inBlock]
    split <;> rename_i hid
    · rw [if_pos hid] at hk; exact ⟨s1, ok1, μ1, hk, hf, hn, hr1, hs⟩
    · rw [if_neg hid] at hk; exact ⟨s1, ok1, μ1, hk, hf, hn, hr1, hs⟩
  | _ => exact ⟨s1, ok1, μ1, hk, hf, hn, hr1, hs⟩

theorem least {p : Nat → Prop} : ∀ n, p n → ∃ m, p m ∧ (∀ k, k < m → ¬ p k) ∧ m ≤ n := by
  intro n
  induction n using Nat.strongRecOn with
  | _ n ih =>
    intro hn
    by_cases h : ∃ k, k < n ∧ p k
    · obtain ⟨k, hk, hp⟩ := h
      obtain ⟨m, h1, h2, h3⟩ := ih k hk hp
      exact ⟨m, h1, h2, by omega⟩
    · exact ⟨n, hn, fun k hk hp => h ⟨k, hk, hp⟩, Nat.le_refl _⟩
open Classical in
noncomputable def leastOf (p : Nat → Prop) : Nat := if h : ∃ m, p m ∧ ∀ k, k < m → ¬ p k then Classical.choose h else 0
theorem leastOf_spec {p : Nat → Prop} {n : Nat} (h : p n) : p (leastOf p) ∧ leastOf p ≤ n := by
  obtain ⟨m, h1, h2, h3⟩ := least n h
  have hx : ∃ m, p m ∧ ∀ k, k < m → ¬ p k := ⟨m, h1, h2⟩
  unfold leastOf
  rw [dif_pos hx]
  have hs := Classical.choose_spec hx
  refine ⟨hs.1, Nat.le_of_not_lt fun hlt => hs.2 n hlt h⟩

/-- A loop: 'Inv n' before a round of which at most n are to come. -/
theorem AWP.loop {c : Code} {s : AS} {K : Exit → AS → Prop} (Inv : Nat → AS → Prop) (n : Nat) (h0 : Inv n s)
    (round : ∀ n s', Inv n s' → AWP P c s' (Then (fun s'' => ∃ m, m < n ∧ Inv m s'') K)) : AWP P (.loop c) s K := by
  intro a w ok μ hr
  let G : Act → World → Nat → Prop := fun a' w' m => ∃ s' ok' μ', Inv m s' ∧ s'.fb = s.fb ∧ s'.nt = s.nt ∧ Rel s' a' w' ok' μ' ∧ Step s.fb s.heap s.frz w ok μ s'.heap s'.frz w' ok' μ'
  refine cwp_loop (fun a' w' => ∃ m, G a' w' m) (fun a' w' => leastOf (G a' w')) ⟨n, s, ok, μ, h0, rfl, rfl, hr, .refl _ _ _ _ _ _⟩ ?_
  rintro a1 w1 ⟨m0, hm0⟩ _
  obtain ⟨hm, _⟩ := leastOf_spec hm0
  obtain ⟨s1, ok1, μ1, hi, hf, hn, hr1, hs⟩ := hm
  refine cwp_mono (round _ s1 hi a1 w1 ok1 μ1 hr1) fun e a2 w2 hp => ?_
  obtain ⟨s2, ok2, μ2, hk, hf2, hn2, hr2, hs2⟩ := hp
  have hs' : Step s.fb s.heap s.frz w ok μ s2.heap s2.frz w2 ok2 μ2 := hs.trans (hf ▸ hs2)
  cases e with
  | normal =>
    obtain ⟨m, hlt, him⟩ := hk
    have hg : G a2 w2 m := ⟨s2, ok2, μ2, him, hf2.trans hf, hn2.trans hn, hr2, hs'⟩
    exact ⟨⟨m, hg⟩, Nat.lt_of_le_of_lt (leastOf_spec hg).2 hlt⟩
  | _ => exact ⟨s2, ok2, μ2, hk, hf2.trans hf, hn2.trans hn, hr2, hs'⟩
end
end Go.Qd
set_option linter.unusedVariables false
set_option linter.unusedSimpArgs false
namespace Go.Qd
open Go Go.RowKit
variable {P : Program}

/-! ### '==' of structs and arrays of whole numbers and bools -/
def planFields (P : Program) (rec : TypeId → Option (List (Option IntKind))) : List Field → Nat → Option (List (Option IntKind))
  | [], _ => some []
  | f :: r, off => if f.name ≠ "_" ∧ f.offset = off then
      match rec f.type with
      | some l => if (P.info? f.type).map (·.size) = some l.length then (planFields P rec r (off + l.length)).map (l ++ ·) else none
      | none => none
    else none
def eqPlan (P : Program) : Nat → TypeId → Option (List (Option IntKind))
  | 0, _ => none
  | d + 1, t => match P.underlying t with
    | some .bool => some [none]
    | some (.int k) => some [some k]
    | some (.struct fs) => if P.stoodInHeld t = true then none else planFields P (eqPlan P d) fs.toList 0
    | some (.array n e) => match eqPlan P d e with
      | some l => if (P.info? e).map (·.size) = some l.length then some (List.replicate n l).flatten else none
      | none => none
    | _ => none
def eqV : List (Option IntKind) → List Value → List Value → Option Bool
  | [], [], [] => some true
  | some k :: L, .int k1 a :: r, .int k2 b :: s => if k1 = k ∧ k2 = k then (eqV L r s).map ((a == b) && ·) else none
  | none :: L, .bool a :: r, .bool b :: s => (eqV L r s).map ((a == b) && ·)
  | _, _, _ => none
theorem eqV_len : ∀ {L : List (Option IntKind)} {X Y : List Value} {b : Bool}, eqV L X Y = some b → X.length = L.length ∧ Y.length = L.length := by
  intro L
  induction L with
  | nil => intro X Y b h; cases X <;> cases Y <;> simp_all [eqV]
  | cons k L ih =>
    intro X Y b h
    unfold eqV at h
    split at h
    · simp_all
    · rename_i hL
      injection hL with h1 h2; subst h1 h2
      split at h
      · obtain ⟨b', hb, _⟩ := Option.map_eq_some_iff.1 h
        have := ih hb; simp; omega
      · cases h
    · rename_i hL
      injection hL with h1 h2; subst h1 h2
      obtain ⟨b', hb, _⟩ := Option.map_eq_some_iff.1 h
      have := ih hb; simp; omega
    · cases h
theorem eqV_split : ∀ {L1 L2 : List (Option IntKind)} {X Y : List Value} {b : Bool}, eqV (L1 ++ L2) X Y = some b → ∃ b1 b2, eqV L1 (X.take L1.length) (Y.take L1.length) = some b1 ∧ eqV L2 (X.drop L1.length) (Y.drop L1.length) = some b2 ∧ b = (b1 && b2) := by
  intro L1
  induction L1 with
  | nil => intro L2 X Y b h; exact ⟨true, b, by simp [eqV], by simpa using h, by simp⟩
  | cons k L1 ih =>
    intro L2 X Y b h
    rw [List.cons_append] at h
    unfold eqV at h
    split at h
    · simp_all
    · rename_i hL
      injection hL with h1 h2; subst h1 h2
      split at h
      · rename_i hk
        obtain ⟨b', hb, rfl⟩ := Option.map_eq_some_iff.1 h
        obtain ⟨b1, b2, g1, g2, rfl⟩ := ih hb
        exact ⟨_, b2, by simp only [List.length_cons, List.take_succ_cons, eqV]; rw [if_pos hk, g1]; rfl, by simpa using g2, by rw [Bool.and_assoc]⟩
      · cases h
    · rename_i hL
      injection hL with h1 h2; subst h1 h2
      obtain ⟨b', hb, rfl⟩ := Option.map_eq_some_iff.1 h
      obtain ⟨b1, b2, g1, g2, rfl⟩ := ih hb
      exact ⟨_, b2, by simp only [List.length_cons, List.take_succ_cons, eqV]; rw [g1]; rfl, by simpa using g2, by rw [Bool.and_assoc]⟩
    · cases h
/-- Cells as a value of the type. -/
def valOf (P : Program) (t : TypeId) (X : List Value) : Value := match P.underlying t with
  | some (.struct _) | some (.array _ _) => .agg X.toArray
  | _ => X.headD Go.undef
theorem run_part {t : TypeId} {xs : Array Value} {off n : Nat} (hu : (P.underlying t).isSome = true) (hs : (P.info? t).map (·.size) = some n) (hn : 0 < n) (hoff : off + n ≤ xs.size) (w : World) :
    (part t xs off).run P w = .ok (valOf P t ((xs.toList.drop off).take n)) w := by
  obtain ⟨j, hj, hjs⟩ := Option.map_eq_some_iff.1 hs
  have hext : xs.extract off (off + n) = ((xs.toList.drop off).take n).toArray := by
    apply Array.ext'
    simp [List.take_drop, Nat.add_comm]
  have hhead : (((xs.toList.drop off).take n).headD Go.undef) = xs[off]'(by omega) := by
    have h1 : (xs.toList.drop off).take n = xs[off] :: (xs.toList.drop (off + 1)).take (n - 1) := by
      rw [List.drop_eq_getElem_cons (by simp; omega)]
      obtain ⟨m, rfl⟩ : ∃ m, n = m + 1 := ⟨n - 1, by omega⟩
      simp
    rw [h1]; rfl
  have hhead' : (((xs.toList.drop off).take n).head?.getD Go.undef) = xs[off]'(by omega) := by rw [← hhead]; simp
  unfold valOf part Go.isAgg
  cases hd : P.underlying t with
  | none => rw [hd] at hu; cases hu
  | some d =>
    have hr := run_underlying hd w
    cases d <;> simp [hr, sizeOf, typeInfo, hj, hjs, hext, hhead', Array.getElem?_eq_getElem (show off < xs.size by omega)]
theorem planFields_run {d : Nat} (hpos : ∀ t L, eqPlan P d t = some L → (P.underlying t).isSome = true) (xs ys : Array Value) :
    ∀ (fs : List Field) (off : Nat) (L : List (Option IntKind)), (∀ f ∈ fs, ∀ L, eqPlan P d f.type = some L → ∀ X Y b, eqV L X Y = some b → ∀ w, (Op.equalIn d f.type (valOf P f.type X) (valOf P f.type Y)).run P w = .ok b w) → planFields P (eqPlan P d) fs off = some L → (∀ f ∈ fs, ∀ l, eqPlan P d f.type = some l → 0 < l.length) → ∀ b, eqV L (xs.toList.drop off) (ys.toList.drop off) = some b →
      ∀ w, (Op.eqFields d xs ys fs).run P w = .ok b w := by
  intro fs
  induction fs with
  | nil =>
    intro off L _ hL _ b hb w
    simp only [planFields, Option.some.injEq] at hL; subst hL
    have := eqV_len hb
    cases hX : xs.toList.drop off with
    | nil => cases hY : ys.toList.drop off with
      | nil => rw [hX, hY] at hb; simp only [eqV, Option.some.injEq] at hb; subst hb; simp [Op.eqFields]
      | cons => rw [hY] at this; simp at this
    | cons => rw [hX] at this; simp at this
  | cons f r ihf =>
    intro off L ih hL hp b hb w
    simp only [planFields] at hL
    split at hL
    case isFalse => cases hL
    rename_i hc
    split at hL
    case h_2 => cases hL
    rename_i l hl
    split at hL
    case isFalse => cases hL
    rename_i hsz
    obtain ⟨L', hL', rfl⟩ := Option.map_eq_some_iff.1 hL
    have hlen := eqV_len hb
    obtain ⟨b1, b2, g1, g2, rfl⟩ := eqV_split hb
    have hl0 := hp f (by simp) l hl
    simp only [List.length_append, List.length_drop] at hlen
    have hu := hpos _ _ hl
    simp only [Op.eqFields]
    rw [if_pos hc.1, hc.2]
    simp only [Sem.run_bind, run_part hu hsz hl0 (show off + l.length ≤ xs.size by simp at hlen; omega), run_part hu hsz hl0 (show off + l.length ≤ ys.size by simp at hlen; omega), Result.andThen_ok, ih f (by simp) l hl _ _ b1 g1]
    cases b1
    · simp
    · simp only [Bool.not_true, Bool.false_eq_true, if_false, Bool.true_and]
      rw [List.drop_drop, List.drop_drop] at g2
      exact ihf (off + l.length) L' (fun f hf => ih f (by simp [hf])) hL' (fun f hf => hp f (by simp [hf])) b2 (by rw [Nat.add_comm] at g2; rw [Nat.add_comm]; exact g2) w
theorem eqPlan_some {d : Nat} {t : TypeId} {L : List (Option IntKind)} (h : eqPlan P d t = some L) : (P.underlying t).isSome = true := by
  cases d with
  | zero => cases h
  | succ d =>
    simp only [eqPlan] at h
    cases hu : P.underlying t with
    | none => rw [hu] at h; cases h
    | some _ => rfl
/-- No part of the type is empty. -/
def solid (P : Program) : Nat → TypeId → Bool
  | 0, _ => false
  | d + 1, t => match P.underlying t with
    | some .bool => true
    | some (.int _) => true
    | some (.struct fs) => fs.toList.all (fun f => solid P d f.type && ((eqPlan P d f.type).map fun l => decide (0 < l.length)).getD false)
    | some (.array _ e) => solid P d e && ((eqPlan P d e).map fun l => decide (0 < l.length)).getD false
    | _ => false
theorem array_loop {d : Nat} {e : TypeId} {l : List (Option IntKind)} (xs ys : Array Value) (hl0 : 0 < l.length) (hu : (P.underlying e).isSome = true) (hsz : (P.info? e).map (·.size) = some l.length)
    (ih : ∀ X Y b, eqV l X Y = some b → ∀ w, (Op.equalIn d e (valOf P e X) (valOf P e Y)).run P w = .ok b w) :
    ∀ (m i : Nat) (b : Bool), eqV (List.replicate m l).flatten (xs.toList.drop (i * l.length)) (ys.toList.drop (i * l.length)) = some b → ∀ w,
      ((forIn (List.range' i m) ((none, ()) : Option Bool × PUnit) fun i _ => do
        let a ← part e xs (i * l.length)
        let b ← part e ys (i * l.length)
        let r ← Op.equalIn d e a b
        if (!r) = true then pure (ForInStep.done (some false, ())) else pure (ForInStep.yield (none, ()))) : Sem (Option Bool × PUnit)).run P w = .ok (if b = true then (none, ()) else (some false, ())) w := by
  intro m
  induction m with
  | zero =>
    intro i b hb w
    have := eqV_len hb
    simp only [List.replicate_zero, List.flatten_nil, List.length_nil] at this
    cases hX : xs.toList.drop (i * l.length) with
    | nil => cases hY : ys.toList.drop (i * l.length) with
      | nil => rw [hX, hY] at hb; simp only [List.replicate_zero, List.flatten_nil, eqV, Option.some.injEq] at hb; subst hb; simp
      | cons => rw [hY] at this; simp at this
    | cons => rw [hX] at this; simp at this
  | succ m ihm =>
    intro i b hb w
    rw [List.replicate_succ, List.flatten_cons] at hb
    have hlen := eqV_len hb
    obtain ⟨b1, b2, g1, g2, rfl⟩ := eqV_split hb
    simp only [List.length_append, List.length_drop] at hlen
    rw [List.range'_succ]
    simp only [List.forIn_cons, Sem.run_bind, run_part hu hsz hl0 (show i * l.length + l.length ≤ xs.size by simp at hlen; omega), run_part hu hsz hl0 (show i * l.length + l.length ≤ ys.size by simp at hlen; omega), Result.andThen_ok, ih _ _ b1 g1]
    cases b1
    · simp
    · simp only [Bool.not_true, Bool.false_eq_true, if_false, Bool.true_and, Sem.run_pure, Result.andThen_ok]
      rw [List.drop_drop, List.drop_drop] at g2
      have e1 : i * l.length + l.length = (i + 1) * l.length := (Nat.succ_mul _ _).symm
      rw [e1] at g2
      exact ihm (i + 1) b2 g2 w
theorem eqPlan_run : ∀ (d : Nat) (t : TypeId) (L : List (Option IntKind)), eqPlan P d t = some L → solid P d t = true → ∀ X Y b, eqV L X Y = some b → ∀ w, (Op.equalIn d t (valOf P t X) (valOf P t Y)).run P w = .ok b w := by
  intro d
  induction d with
  | zero => intro t L h; cases h
  | succ d ih =>
    intro t L h hsol X Y b hb w
    simp only [eqPlan] at h
    simp only [solid] at hsol
    cases hu : P.underlying t with
    | none => rw [hu] at h; cases h
    | some desc =>
      rw [hu] at h hsol
      unfold valOf
      rw [hu]
      cases desc with
      | bool =>
        simp only [Option.some.injEq] at h; subst h
        unfold eqV at hb
        split at hb
        · simp_all
        · simp_all
        · rename_i hL
          injection hL with h1 h2; subst h2
          obtain ⟨b', hb', rfl⟩ := Option.map_eq_some_iff.1 hb
          have hl := eqV_len hb'
          have hb2 : b' = true := by
            rename_i r _ s _
            cases r <;> cases s <;> simp_all [eqV]
          subst hb2
          simp only [List.headD_cons, Bool.and_true]
          exact run_equalIn_bool w d t _ _ hu
        · cases hb
      | int k =>
        simp only [Option.some.injEq] at h; subst h
        unfold eqV at hb
        split at hb
        · simp_all
        · rename_i hL
          injection hL with h1 h2; subst h2
          split at hb
          · obtain ⟨b', hb', rfl⟩ := Option.map_eq_some_iff.1 hb
            have hb2 : b' = true := by
              have hl := eqV_len hb'
              rename_i r _ _ s _
              cases r <;> cases s <;> simp_all [eqV]
            subst hb2
            rename_i hk
            obtain ⟨rfl, rfl⟩ := hk
            simp only [List.headD_cons, Bool.and_true]
            exact run_equalIn_int w d t _ k _ _ hu
          · cases hb
        · simp_all
        · cases hb
      | struct fs =>
        simp only at h hsol
        split at h
        · cases h
        · rename_i hst
          have hst' : P.stoodInHeld t = false := by simpa using hst
          have hfo : P.fieldsOf t = fs := by unfold Program.fieldsOf; rw [hu]
          rw [run_equalIn_struct w d t _ _ (by rw [hfo]; exact hu) hst', hfo]
          rw [List.all_eq_true] at hsol
          refine planFields_run (d := d) (fun t L hL => eqPlan_some hL) X.toArray Y.toArray fs.toList 0 L (fun f hf L hL X Y b hb w => ?_) h (fun f hf l hl => ?_) b (by simpa using hb) w
          · have := hsol f hf
            simp only [Bool.and_eq_true] at this
            exact ih f.type L hL this.1 X Y b hb w
          · have := hsol f hf
            rw [hl] at this
            simp at this; exact this.2
      | array n e =>
        simp only at h hsol
        split at h
        case h_2 => cases h
        rename_i l hl
        split at h
        case isFalse => cases h
        rename_i hsz
        injection h with h; subst h
        rw [hl] at hsol
        simp only [Option.map_some, Option.getD_some, Bool.and_eq_true, decide_eq_true_eq] at hsol
        have hz : (sizeOf e).run P w = .ok l.length w := by
          obtain ⟨j, hj, hjs⟩ := Option.map_eq_some_iff.1 hsz
          simp [sizeOf, typeInfo, hj, hjs]
        have hloop := array_loop (d := d) X.toArray Y.toArray hsol.2 (eqPlan_some hl) hsz (fun X Y b hb w => ih e l hl hsol.1 X Y b hb w) n 0 b (by simpa using hb) w
        simp only [Op.equalIn, Sem.run_bind, run_underlying hu, Result.andThen_ok, hz, Std.Legacy.Range.forIn_eq_forIn_range', Std.Legacy.Range.size, Nat.sub_zero, Nat.add_sub_cancel, Nat.div_one]
        rw [hloop]
        cases b <;> simp
      | _ => cases h
end Go.Qd
set_option linter.unusedVariables false
namespace Go.Qd
open Go Go.RowKit
variable {P : Program}

/-! ### The table of types, as far as it is wanted -/
inductive TK where
  | bool
  | int (k : IntKind)
  | struct (fs : List (Nat × Nat × Bool))    -- where a field begins, how many cells it has, whether it is a struct or an array
  | array (n elem : Nat)
  | slice (elem : Nat)
  | func
  | other

structure TI where
  kind : TK
  size : Nat
  bytes : Nat
  zero : List AV
  eqk : Option (List (Option IntKind)) := none     -- what '==' compares

def TI.isAgg (t : TI) : Bool := match t.kind with | .struct _ | .array _ _ => true | _ => false

abbrev Tab := List (Nat × TI)
def tget : Tab → Nat → Option TI
  | [], _ => none
  | (k, o) :: r, k' => if k = k' then some o else tget r k'

def sameZ : AV → Value → Bool
  | .bool b, .bool c => b == c
  | .int k n, .int k' m => decide (k = k') && decide (n = m)
  | .esl, .slice none 0 0 => true
  | .nilp, .pointer none => true
  | .nilf, .nilFunc => true
  | _, _ => false
theorem sameZ_rel {w : World} {ok : Nat → Prop} {μ : Mu} {a : AV} {v : Value} (h : sameZ a v = true) : VRel w ok μ a v := by
  unfold sameZ at h
  split at h
  · rw [beq_iff_eq.1 h]; exact .bool _ _
  · simp only [Bool.and_eq_true, decide_eq_true_eq] at h; rw [h.1, h.2]; exact .int _ _ _
  · exact .esl _ _
  · exact .nilp _
  · exact .nilf _
  · cases h
theorem sameZ_one {a : AV} {v : Value} (h : sameZ a v = true) : v.oneCell' = true := by
  unfold sameZ at h
  split at h <;> first | rfl | cases h
def sameZs : List AV → List Value → Bool
  | [], [] => true
  | a :: r, v :: s => sameZ a v && sameZs r s
  | _, _ => false

def checkFields (P : Program) : List (Nat × Nat × Bool) → List Field → Bool
  | [], [] => true
  | (off, size, ag) :: r, f :: s => decide (f.offset = off) && decide ((P.info? f.type).map (·.size) = some size) && decide (0 < size) &&
      (match P.underlying f.type with | some (.struct _) | some (.array _ _) => ag | some _ => !ag | none => false) && checkFields P r s
  | _, _ => false
def checkT (P : Program) (t : Nat) (i : TI) : Bool :=
  (match P.info? t with
   | some j => decide (j.size = i.size) && decide (j.bytes = i.bytes) && (match j.zero with | some z => sameZs i.zero z.cells.toList && (match z with | .agg _ => i.isAgg | .tuple _ => false | _ => !i.isAgg) | none => false)
   | none => false) && (match P.underlying t, i.kind with
   | some .bool, .bool => true
   | some (.int k), .int k' => decide (k = k')
   | some (.struct fs), .struct fs' => checkFields P fs' fs.toList
   | some (.array n e), .array n' e' => decide (n = n') && decide (e = e')
   | some (.slice e), .slice e' => decide (e = e')
   | some (.func ..), .func => true
   | some (.pointer _), .other => true
   | some (.interface _), .other => true
   | some (.tuple _), .other => true
   | some .string, .other => true
   | _, _ => false) && (match i.eqk with | none => true | some L => decide (eqPlan P 10000 t = some L) && solid P 10000 t && !(P.eqGuardType P.depth t))
structure TOk (P : Program) (T : Tab) : Prop where
  ok : ∀ t i, tget T t = some i → checkT P t i = true
theorem TOk.of {T : Tab} (h : T.all (fun x => checkT P x.1 x.2) = true) : TOk P T := by
  refine ⟨?_⟩
  induction T with
  | nil => intro t i h; cases h
  | cons x r ih =>
    obtain ⟨k, j⟩ := x
    simp only [List.all_cons, Bool.and_eq_true] at h
    intro t i ht
    simp only [tget] at ht
    split at ht
    · rename_i e; injection ht with e1; subst e; subst e1; exact h.1
    · exact ih h.2 t i ht

structure TFacts (P : Program) (t : Nat) (i : TI) : Prop where
  info : ∃ j z, P.info? t = some j ∧ j.size = i.size ∧ j.bytes = i.bytes ∧ j.zero = some z ∧ sameZs i.zero z.cells.toList = true
  kind : match i.kind with
    | .bool => P.underlying t = some .bool
    | .int k => P.underlying t = some (.int k)
    | .struct fs' => ∃ fs, P.underlying t = some (.struct fs) ∧ checkFields P fs' fs.toList = true
    | .array n e => P.underlying t = some (.array n e)
    | .slice e => P.underlying t = some (.slice e)
    | .func => ∃ a b c, P.underlying t = some (.func a b c)
    | .other => ∃ d, P.underlying t = some d ∧ (match d with | .struct _ | .array _ _ | .slice _ | .int _ | .bool => false | _ => true) = true
  cmp : ∀ L, i.eqk = some L → eqPlan P 10000 t = some L ∧ solid P 10000 t = true ∧ P.eqGuardType P.depth t = false
theorem TOk.facts {T : Tab} (hT : TOk P T) {t : Nat} {i : TI} (h : tget T t = some i) : TFacts P t i := by
  have hc := hT.ok t i h
  unfold checkT at hc
  simp only [Bool.and_eq_true] at hc
  obtain ⟨⟨h1, h2⟩, h3⟩ := hc
  refine ⟨?_, ?_, fun L hcmp => ?_⟩
  · split at h1
    · rename_i j hj
      simp only [Bool.and_eq_true, decide_eq_true_eq] at h1
      obtain ⟨⟨a, b⟩, c⟩ := h1
      split at c
      · rename_i z hz
        simp only [Bool.and_eq_true] at c
        exact ⟨j, z, hj, a, b, hz, c.1⟩
      · cases c
    · cases h1
  · obtain ⟨kind, size, bytes, zero, eqk⟩ := i
    cases hu : P.underlying t with
    | none => rw [hu] at h2; cases h2
    | some d => rw [hu] at h2; cases d <;> cases kind <;> simp_all
  · rw [hcmp] at h3
    simp only [Bool.and_eq_true, decide_eq_true_eq, Bool.not_eq_true'] at h3
    exact ⟨h3.1.1, h3.1.2, h3.2⟩
theorem TFacts.agg {t : Nat} {i : TI} (h : TFacts P t i) : ∃ d, P.underlying t = some d ∧ (match d with | .struct _ | .array _ _ => true | _ => false) = i.isAgg := by
  obtain ⟨_, hk, _⟩ := h
  obtain ⟨kind, size, bytes, zero, eqk⟩ := i
  cases kind with
  | struct fs => obtain ⟨fs, h1, _⟩ := hk; exact ⟨_, h1, rfl⟩
  | func => obtain ⟨_, _, _, h1⟩ := hk; exact ⟨_, h1, rfl⟩
  | other =>
    obtain ⟨d, h1, h2⟩ := hk
    refine ⟨d, h1, ?_⟩
    cases d <;> simp_all [TI.isAgg]
  | _ => exact ⟨_, hk, rfl⟩
theorem TFacts.run_isAgg {t : Nat} {i : TI} (h : TFacts P t i) (w : World) : (isAgg t).run P w = .ok i.isAgg w := by
  obtain ⟨d, h1, h2⟩ := h.agg
  unfold Go.isAgg
  simp only [Sem.run_bind, run_underlying h1, Result.andThen_ok]
  rw [← h2]
  cases d <;> rfl
theorem TFacts.run_sizeOf {t : Nat} {i : TI} (h : TFacts P t i) (w : World) : (sizeOf t).run P w = .ok i.size w := by
  obtain ⟨⟨j, z, h1, h2, _⟩, _, _⟩ := h
  simp [sizeOf, typeInfo, h1, h2]
theorem TFacts.run_zero {t : Nat} {i : TI} (h : TFacts P t i) : ∃ z : Value, sameZs i.zero z.cells.toList = true ∧ ∀ w, (zeroValue t).run P w = .ok z w := by
  obtain ⟨⟨j, z, h1, h2, _, h3, h4⟩, _, _⟩ := h
  exact ⟨z, h4, fun w => by simp [zeroValue, typeInfo, h1, h3]⟩
end Go.Qd
set_option linter.unusedVariables false
namespace Go.Qd
open Go Go.RowKit
variable {P : Program}

/-! ### Operands -/
def ofConst : Value → Option AV
  | .bool b => some (.bool b)
  | .int k n => some (.int k n)
  | .slice none 0 0 => some .esl
  | .pointer none => some .nilp
  | .nilFunc => some .nilf
  | _ => some .undef
def aev (env : Env) : Operand → Option AV
  | .tmp t => some ((eget env t).getD .undef)
  | .const v => ofConst v
  | .func f => some (.fn f [] [])
  | .global _ => none
theorem ofConst_rel {w : World} {ok : Nat → Prop} {μ : Mu} {v : Value} {av : AV} (h : ofConst v = some av) : VRel w ok μ av v := by
  unfold ofConst at h
  split at h <;> first | (injection h with h; subst h; constructor) | cases h
theorem aev_rel {s : AS} {a : Act} {w : World} {ok : Nat → Prop} {μ : Mu} (hr : Rel s a w ok μ) {x : Operand} {av : AV} (h : aev s.env x = some av) : VRel w ok μ av (a.eval x) := by
  cases x with
  | tmp t =>
    simp only [aev, Option.some.injEq] at h
    subst h
    cases he : eget s.env t with
    | none => exact .undef _ _
    | some v => exact hr.env t v he
  | const v => exact ofConst_rel h
  | global g => cases h
  | func f =>
    simp only [aev, Option.some.injEq] at h
    subst h
    exact .fn _ _ _ _ _ _ rfl rfl (fun i h1 _ => by cases h1) (fun i h1 _ => by cases h1)
def aevs (env : Env) : List Operand → Option (List AV)
  | [] => some []
  | x :: r => match aev env x, aevs env r with
    | some a, some l => some (a :: l)
    | _, _ => none
theorem aevs_rel {s : AS} {a : Act} {w : World} {ok : Nat → Prop} {μ : Mu} (hr : Rel s a w ok μ) {xs : List Operand} {l : List AV} (h : aevs s.env xs = some l) : VRels w ok μ l (xs.map a.eval) := by
  induction xs generalizing l with
  | nil => simp only [aevs, Option.some.injEq] at h; subst h; exact .nil
  | cons x r ih =>
    simp only [aevs] at h
    split at h
    · rename_i av l' h1 h2
      injection h with h; subst h
      exact .cons (aev_rel hr h1) (ih h2)
    · cases h

/-! ### What an operation comes to -/
structure Out where
  v : AV
  upd : List (Nat × AObj)
  rd : List Nat
  frz : List Nat
def Out.pure (v : AV) : Out := ⟨v, [], [], []⟩
def Out.read (v : AV) (k : Nat) : Out := ⟨v, [], [k], []⟩
def Out.new (v : AV) (k : Nat) (o : AObj) : Out := ⟨v, [(k, o)], [], []⟩

def hputs (h : Heap) (l : List (Nat × AObj)) : Heap := l.foldl (fun h x => hput h x.1 x.2) h
theorem hputs_nil (h : Heap) : hputs h [] = h := rfl
theorem hputs_cons (h : Heap) (k : Nat) (o : AObj) (l : List (Nat × AObj)) : hputs h ((k, o) :: l) = hputs (hput h k o) l := rfl

def AS.put (s : AS) (dst : Option Tmp) (v : AV) : AS := match dst with
  | some d => { s with env := eput s.env d v }
  | none => s
def AS.apply (s : AS) (dst : Option Tmp) (o : Out) : AS :=
  { fb := s.fb, nt := s.nt, env := (match dst with | some d => eput s.env d o.v | none => s.env), heap := hputs s.heap o.upd, frz := o.frz ++ s.frz }

/-- What the run of an operation leaves: a value (or none), the machine's new state. -/
structure Left (s : AS) (w : World) (ok : Nat → Prop) (μ : Mu) (o : Out) (v : Value) (w' : World) : Prop where
  ex : ∃ ok' μ', VRel w' ok' μ' o.v v ∧ Wf (hputs s.heap o.upd) (o.frz ++ s.frz) w' ok' μ' ∧ MuLe μ μ' ∧ (∀ k x, μ' k = some x → k < s.top) ∧
    Step s.fb s.heap s.frz w ok μ (hputs s.heap o.upd) (o.frz ++ s.frz) w' ok' μ'

def RunsTo (P : Program) (s : AS) (o : Oper) (out : Out) : Prop := ∀ a w ok μ, Rel s a w ok μ → ∃ v w',
  ((execOp a.eval o).run P w = .ok (.value v) w' ∨ ((execOp a.eval o).run P w = .ok .skip w' ∧ v = Go.undef)) ∧ Left s w ok μ out v w'

theorem Left.same {s : AS} {a : Act} {w : World} {ok : Nat → Prop} {μ : Mu} (hr : Rel s a w ok μ) {av : AV} {v : Value} (rd : List Nat) (h : VRel w ok μ av v) : Left s w ok μ ⟨av, [], rd, []⟩ v w :=
  ⟨ok, μ, h, hr.wf, .refl _, hr.top, .refl _ _ _ _ _ _⟩
theorem RunsTo.pure {s : AS} {o : Oper} {av : AV} {rd : List Nat} (h : ∀ a w ok μ, Rel s a w ok μ → ∃ v, (execOp a.eval o).run P w = .ok (.value v) w ∧ VRel w ok μ av v) : RunsTo P s o ⟨av, [], rd, []⟩ :=
  fun a w ok μ hr => by
    obtain ⟨v, h1, h2⟩ := h a w ok μ hr
    exact ⟨v, w, .inl h1, .same hr rd h2⟩

/-- Slots, behind a write. -/
theorem getD_put {a : Act} {d t : Nat} {v : Value} (hd : d < a.tmps.size) : (a.put (some d) v).tmps.getD t Go.undef = if d = t then v else a.tmps.getD t Go.undef := by
  simp only [Act.put]
  by_cases e : d = t
  · subst e; simp [hd]
  · rw [if_neg e]; simp [Array.getElem?_setIfInBounds_ne e]
theorem Rel.apply {s : AS} {a : Act} {w w' : World} {ok : Nat → Prop} {μ : Mu} (hr : Rel s a w ok μ) {o : Out} {v : Value} (hl : Left s w ok μ o v w') (dst : Option Tmp) (hd : ∀ d, dst = some d → d < s.nt) :
    ∃ ok' μ', Rel (s.apply dst o) (a.put dst v) w' ok' μ' ∧ Step s.fb s.heap s.frz w ok μ (s.apply dst o).heap (s.apply dst o).frz w' ok' μ' := by
  obtain ⟨ok', μ', h1, h2, h3, h4, h5⟩ := hl.ex
  refine ⟨ok', μ', ⟨?_, ?_, ?_, h2, h4⟩, h5⟩
  · cases dst <;> exact hr.dfr
  · cases dst with
    | none => exact hr.nt
    | some d => simp [Act.put, AS.apply, hr.nt]
  · intro t x hx
    cases dst with
    | none => exact (hr.env t x hx).mono h5.kept h3
    | some d =>
      simp only [AS.apply, eget_eput] at hx
      rw [getD_put (by rw [hr.nt]; exact hd d rfl)]
      split at hx
      · rename_i e; rw [if_pos e]; injection hx with hx; subst hx; exact h1
      · rename_i e; rw [if_neg e]; exact (hr.env t x hx).mono h5.kept h3

/-! ### Lists of operations -/
def AOps (P : Program) (ops : Array Oper) (l : List Oper) (s : AS) (N : AS → Prop) : Prop :=
  ∀ a w ok μ, Rel s a w ok μ → oList P ops (Post s w ok μ (Then N (fun _ _ => False))) l a w
theorem Rel.nt_apply (s : AS) (dst : Option Tmp) (o : Out) : (s.apply dst o).nt = s.nt := rfl

theorem AOps.nil {ops : Array Oper} {s : AS} {N : AS → Prop} (h : N s) : AOps P ops [] s N :=
  fun a w ok μ hr => oList_nil ⟨s, ok, μ, h, rfl, rfl, hr, .refl _ _ _ _ _ _⟩
theorem AOps.after {ops : Array Oper} {s s1 : AS} {l : List Oper} {N : AS → Prop} (h : AOps P ops l s1 N) (hf : s1.fb = s.fb) (hn : s1.nt = s.nt) {a1 : Act} {w w1 : World} {ok ok1 : Nat → Prop} {μ μ1 : Mu}
    (hr : Rel s1 a1 w1 ok1 μ1) (hs : Step s.fb s.heap s.frz w ok μ s1.heap s1.frz w1 ok1 μ1) : oList P ops (Post s w ok μ (Then N (fun _ _ => False))) l a1 w1 :=
  oList_mono (fun _ _ _ hp => hp.step hf hn hs) _ _ _ (h a1 w1 ok1 μ1 hr)
/-- An operation without a guard. -/
theorem AOps.cons {ops : Array Oper} {o : Oper} {rest : List Oper} {s : AS} {N : AS → Prop} {out : Out} (hg : o.guard = none) (hd : ∀ d, o.dst = some d → d < s.nt) (h : RunsTo P s o out)
    (hn : AOps P ops rest (s.apply o.dst out) N) : AOps P ops (o :: rest) s N := by
  intro a w ok μ hr
  obtain ⟨v, w', hrun, hl⟩ := h a w ok μ hr
  obtain ⟨ok', μ', hr', hs'⟩ := hr.apply hl o.dst hd
  refine oList_plain hg fun K hK => ?_
  unfold oOp
  rcases hrun with hrun | ⟨hrun, rfl⟩
  · rw [hrun]; exact hK _ _ (hn.after (s := s) rfl rfl hr' hs')
  · rw [hrun]; exact hK _ _ (hn.after (s := s) rfl rfl hr' hs')
/-- What stands in a guard's slot. -/
def aguard (ops : Array Oper) (env : Env) (j : Nat) : Option AV := ((ops[j]?).bind (·.dst)).bind (eget env)
theorem yielded_of {ops : Array Oper} {s : AS} {a : Act} {w : World} {ok : Nat → Prop} {μ : Mu} (hr : Rel s a w ok μ) {j : Nat} {b : Bool} (h : aguard ops s.env j = some (.bool b)) : yielded ops a.tmps j = some b := by
  unfold aguard at h
  unfold yielded
  cases hd : (ops[j]?).bind (·.dst) with
  | none => rw [hd] at h; cases h
  | some d =>
    rw [hd] at h
    have hv := hr.env d _ h
    simp only [Option.bind_some]
    cases ht : a.tmps[d]? with
    | none => simp [ht] at hv; cases hv
    | some x => simp [ht] at hv; cases hv; rfl
theorem yielded_void {ops : Array Oper} {s : AS} {a : Act} {w : World} {ok : Nat → Prop} {μ : Mu} (hr : Rel s a w ok μ) {j : Nat} (h : aguard ops s.env j = some (.tup [])) : yielded ops a.tmps j = none := by
  unfold aguard at h
  unfold yielded
  cases hd : (ops[j]?).bind (·.dst) with
  | none => rfl
  | some d =>
    rw [hd] at h
    have hv := hr.env d _ h
    simp only [Option.bind_some]
    cases ht : a.tmps[d]? with
    | none => rfl
    | some x => simp [ht] at hv; cases hv; rfl
/-- A guard that lets it by. -/
theorem AOps.yes {ops : Array Oper} {o : Oper} {rest : List Oper} {s : AS} {N : AS → Prop} {out : Out} {j : Nat} {want : Bool} (hg : o.guard = some (j, want)) (hy : aguard ops s.env j = some (.bool want))
    (hd : ∀ d, o.dst = some d → d < s.nt) (h : RunsTo P s o out) (hn : AOps P ops rest (s.apply o.dst out) N) : AOps P ops (o :: rest) s N := by
  intro a w ok μ hr
  obtain ⟨v, w', hrun, hl⟩ := h a w ok μ hr
  obtain ⟨ok', μ', hr', hs'⟩ := hr.apply hl o.dst hd
  refine oList_step fun K hK => ?_
  rw [if_pos (by simp [Region.wanted, hg, yielded_of hr hy])]
  unfold oOp
  rcases hrun with hrun | ⟨hrun, rfl⟩
  · rw [hrun]; exact hK _ _ (hn.after (s := s) rfl rfl hr' hs')
  · rw [hrun]; exact hK _ _ (hn.after (s := s) rfl rfl hr' hs')
/-- A guard that doesn't: the slot holds nothing. -/
theorem AOps.no {ops : Array Oper} {o : Oper} {rest : List Oper} {s : AS} {N : AS → Prop} {j : Nat} {want : Bool} (hg : o.guard = some (j, want))
    (hy : aguard ops s.env j = some (.bool (!want)) ∨ aguard ops s.env j = some (.tup [])) (hd : ∀ d, o.dst = some d → d < s.nt) (hn : AOps P ops rest (s.apply o.dst (.pure (.tup []))) N) : AOps P ops (o :: rest) s N := by
  intro a w ok μ hr
  obtain ⟨ok', μ', hr', hs'⟩ := hr.apply (Left.same hr [] (av := .tup []) (v := Go.undef) (.tup _ _ _ rfl (fun i h1 _ => by cases h1))) o.dst hd
  refine oList_step fun K hK => ?_
  rw [if_neg (by
    rcases hy with hy | hy
    · simp [Region.wanted, hg, yielded_of hr hy]
    · simp [Region.wanted, hg, yielded_void hr hy])]
  exact hK _ _ (hn.after (s := s) rfl rfl hr' hs')
theorem AWP.region {id : Nat} {l : List Oper} {s : AS} {K : Exit → AS → Prop} (h : AOps P l.toArray l s (K .normal)) : AWP P (.region id l.toArray false) s K :=
  fun a w ok μ hr => cwp_region_lit (oList_mono (fun e a' w' hp => by
    obtain ⟨s', ok', μ', hk, h1⟩ := hp
    cases e <;> first | exact ⟨s', ok', μ', hk, h1⟩ | exact hk.elim) _ _ _ (h a w ok μ hr))

theorem AWP.cond {c : Operand} {x y : Code} {s : AS} {K : Exit → AS → Prop} {b : Bool} (hc : aev s.env c = some (.bool b)) (ht : b = true → AWP P x s K) (hf : b = false → AWP P y s K) : AWP P (.cond c x y) s K := by
  intro a w ok μ hr
  have hv := aev_rel hr hc
  have he : a.eval c = .bool b := by cases hv' : a.eval c <;> rw [hv'] at hv <;> cases hv; rfl
  exact cwp_cond_split he (fun h => ht h a w ok μ hr) (fun h => hf h a w ok μ hr)
/-- What is forgotten is not wanted. -/
theorem AWP.weaken {c : Code} {s s1 : AS} {K : Exit → AS → Prop} (h : AWP P c s1 K) (hf : s1.fb = s.fb) (hn : s1.nt = s.nt) (hh : s1.heap = s.heap) (hz : s1.frz = s.frz) (he : ∀ t v, eget s1.env t = some v → eget s.env t = some v) : AWP P c s K := by
  intro a w ok μ hr
  have hr1 : Rel s1 a w ok μ := ⟨hr.dfr, hr.nt.trans hn.symm, fun t v ht => hr.env t v (he t v ht), hh ▸ hz ▸ hr.wf, by unfold AS.top; rw [hf, hn]; exact hr.top⟩
  refine cwp_mono (h a w ok μ hr1) fun e a' w' hp => hp.step hf hn ?_
  rw [hh, hz]; exact .refl _ _ _ _ _ _
end Go.Qd
set_option linter.unusedVariables false
namespace Go.Qd
open Go Go.RowKit
variable {P : Program}

theorem heap_push_old (w : World) (o : Obj) (b : Nat) (h : b < w.heap.size) : (w.alloc o).heap[b]? = w.heap[b]? := by
  show (w.heap.push o)[b]? = _
  rw [Array.getElem?_push, if_neg (by omega)]
theorem heap_push_new (w : World) (o : Obj) : (w.alloc o).heap[w.heap.size]? = some o := by
  show (w.heap.push o)[w.heap.size]? = _
  simp
theorem Kept.alloc {ok : Nat → Prop} {w : World} (hok : ∀ b, ok b → b < w.heap.size) (o : Obj) : Kept ok ok w (w.alloc o) :=
  ⟨fun _ h => h, fun b h => heap_push_old w o b (hok b h), fun b cs ty fr h => ⟨cs, by rw [heap_push_old w o b (Array.getElem?_eq_some_iff.1 h).1]; exact h, rfl⟩⟩

/-- A new object. -/
theorem Left.new {s : AS} {a : Act} {w : World} {ok : Nat → Prop} {μ : Mu} (hr : Rel s a w ok μ) {key sz ty : Nat} {closed : Bool} {rows : List (List AV)} {cs : Array Value}
    (hfree : hget s.heap key = none) (hkey : key < s.top) (hfb : s.fb ≤ key) (hlen : rows.length * sz ≤ cs.size) (hz : key ∉ s.frz) (hrows : RowsRel w ok (if closed = true then mu0 else μ) sz rows cs)
    {av : AV} {v : Value} (hv : ∀ μ' : Mu, MuLe μ μ' → μ' key = some (w.heap.size, sz) → Kept ok ok w (w.alloc (.cells cs ty)) → VRel (w.alloc (.cells cs ty)) ok μ' av v) :
    Left s w ok μ (.new av key ⟨ty, sz, closed, rows⟩) v (w.alloc (.cells cs ty)) := by
  have hk := Kept.alloc hr.wf.okb (.cells cs ty)
  have hnone : μ key = none := by
    cases hm : μ key with
    | none => rfl
    | some x => obtain ⟨o, ho⟩ := hr.wf.dom key x hm; rw [hfree] at ho; cases ho
  let μ' : Mu := fun k => if k = key then some (w.heap.size, sz) else μ k
  have hle : MuLe μ μ' := fun o x hx => by
    show (if o = key then _ else _) = _
    rw [if_neg (fun e => by subst e; rw [hnone] at hx; cases hx)]; exact hx
  have hself : μ' key = some (w.heap.size, sz) := if_pos rfl
  have hne : ∀ k, k ≠ key → μ' k = μ k := fun k h => if_neg h
  have hb : ∀ k o b sz', hget s.heap k = some o → μ k = some (b, sz') → b < w.heap.size := fun k o b sz' ho hm => by
    rcases hr.wf.obj k o ho with ⟨b', cs', h1, h2, _⟩ | ⟨_, h1⟩
    · rw [h1] at hm; injection hm with hm; injection hm with hm _; subst hm
      exact (Array.getElem?_eq_some_iff.1 h2).1
    · rw [h1] at hm; cases hm
  refine ⟨ok, μ', hv μ' hle hself hk, ⟨fun b h => Nat.lt_of_lt_of_le (hr.wf.okb b h) (by simp), ?_, ?_, ?_⟩, hle, ?_, ?_⟩
  · intro k o ho
    simp only [Out.new, hputs_cons, hputs_nil, hget_hput, List.nil_append] at ho ⊢
    split at ho
    · rename_i e; subst e
      injection ho with ho; subst ho
      refine .inl ⟨w.heap.size, cs, hself, heap_push_new _ _, hlen, fun _ h => absurd (hr.wf.okb _ h) (by omega), fun h => absurd h hz, hrows.mono hk ?_⟩
      unfold AObj.mu; dsimp only; split
      · exact MuLe.refl _
      · exact hle
    · rename_i e
      rcases hr.wf.obj k o ho with ⟨b, cs', h1, h2, h3, h4, h5, h6⟩ | ⟨h1, h2⟩
      · exact .inl ⟨b, cs', hle _ _ h1, by rw [heap_push_old _ _ _ (Array.getElem?_eq_some_iff.1 h2).1]; exact h2, h3, h4, h5, h6.mono hk (AObj.mu_le o hle)⟩
      · exact .inr ⟨h1, by rw [hne k (fun h => e h.symm)]; exact h2⟩
  · intro k x hx
    simp only [Out.new, hputs_cons, hputs_nil, hget_hput]
    by_cases e : key = k
    · rw [if_pos e]; exact ⟨_, rfl⟩
    · rw [if_neg e]; exact hr.wf.dom k x (by rw [← hne k (fun h => e h.symm)]; exact hx)
  · intro k k' o o' b s1 s2 ho ho' hm hm'
    simp only [Out.new, hputs_cons, hputs_nil, hget_hput] at ho ho'
    by_cases e : key = k <;> by_cases e' : key = k'
    · exact e.symm.trans e'
    · subst e
      rw [if_neg e'] at ho'
      rw [hself] at hm; injection hm with hm; injection hm with hm _
      rw [hne k' (fun h => e' h.symm)] at hm'
      have := hb k' o' b s2 ho' hm'
      omega
    · subst e'
      rw [if_neg e] at ho
      rw [hself] at hm'; injection hm' with hm'; injection hm' with hm' _
      rw [hne k (fun h => e h.symm)] at hm
      have := hb k o b s1 ho hm
      omega
    · rw [if_neg e] at ho
      rw [if_neg e'] at ho'
      rw [hne k (fun h => e h.symm)] at hm
      rw [hne k' (fun h => e' h.symm)] at hm'
      exact hr.wf.inj k k' o o' b s1 s2 ho ho' hm hm'
  · intro k x hx
    by_cases e : k = key
    · subst e; exact hkey
    · exact hr.top k x (by rw [← hne k e]; exact hx)
  · refine ⟨hk, rfl, rfl, rfl, by simp, fun b h1 h2 => heap_push_old _ _ _ h1, fun b h => .inl h, ?_, fun k x h1 h2 => hle k x h2⟩
    rintro b ⟨k, o, s1, h1, h2, h3⟩
    simp only [Out.new, hputs_cons, hputs_nil, hget_hput, List.nil_append] at h1 h2
    by_cases e : key = k
    · subst e; rw [hself] at h3; injection h3 with h3; injection h3 with h3 _; exact .inr (by omega)
    · rw [if_neg e] at h1
      exact .inl ⟨k, o, s1, h1, h2, by rw [← hne k (fun h => e h.symm)]; exact h3⟩

/-- An object that is turned in its place. -/
theorem Left.turn {s : AS} {a : Act} {w : World} {ok : Nat → Prop} {μ : Mu} (hr : Rel s a w ok μ) {k b : Nat} {o : AObj} {cs cs' : Array Value} {closed : Bool} {rows : List (List AV)}
    (ho : hget s.heap k = some o) (hz : k ∉ s.frz) (hm : μ k = some (b, o.sz)) (hcs : w.heap[b]? = some (.cells cs o.ty (0, 0))) (hsz : cs'.size = cs.size) (hlen : rows.length * o.sz ≤ cs.size)
    (hrows : RowsRel w ok (if closed = true then mu0 else μ) o.sz rows cs') {av : AV} {v : Value} (rd : List Nat)
    (hv : Kept ok ok w (w.setRow b cs') → VRel (w.setRow b cs') ok μ av v) : Left s w ok μ ⟨av, [(k, ⟨o.ty, o.sz, closed, rows⟩)], rd, []⟩ v (w.setRow b cs') := by
  have hnb : ¬ ok b := by
    rcases hr.wf.obj k o ho with ⟨b', cs1, h1, h2, h3, h4, _⟩ | ⟨_, h1⟩
    · rw [hm] at h1; injection h1 with h1; injection h1 with h1 _; subst h1
      exact h4 hz
    · rw [hm] at h1; cases h1
  have hself : (w.setRow b cs').heap[b]? = some (.cells cs' o.ty (0, 0)) := setRow_heap w b cs cs' o.ty (0, 0) hcs
  have hother : ∀ x, x ≠ b → (w.setRow b cs').heap[x]? = w.heap[x]? := fun x h => setRow_other w b x cs' h
  have hk : Kept ok ok w (w.setRow b cs') := ⟨fun _ h => h, fun x h => hother x (fun e => hnb (e ▸ h)), fun x c ty fr h => by
    by_cases e : x = b
    · subst e; rw [hcs] at h; injection h with h; injection h with h1 h2 h3; subst h1 h2 h3; exact ⟨cs', hself, hsz⟩
    · exact ⟨c, by rw [hother x e]; exact h, rfl⟩⟩
  refine ⟨ok, μ, hv hk, ⟨fun b h => by rw [setRow_size]; exact hr.wf.okb b h, ?_, ?_, ?_⟩, .refl _, hr.top, ?_⟩
  · intro k' o' ho'
    simp only [hputs_cons, hputs_nil, hget_hput, List.nil_append] at ho' ⊢
    split at ho'
    · rename_i e; subst e
      injection ho' with ho'; subst ho'
      refine .inl ⟨b, cs', hm, hself, by rw [hsz]; exact hlen, fun _ => hnb, fun h => absurd h hz, hrows.mono hk (MuLe.refl _)⟩
    · rename_i e
      rcases hr.wf.obj k' o' ho' with ⟨b', c, h1, h2, h3, h4, h5, h6⟩ | h1
      · have hbb : b' ≠ b := fun h => e (hr.wf.inj k k' o o' b o.sz o'.sz ho ho' hm (h ▸ h1))
        exact .inl ⟨b', c, h1, by rw [hother b' hbb]; exact h2, h3, h4, h5, h6.mono hk (MuLe.refl _)⟩
      · exact .inr h1
  · intro k' x hx
    simp only [hputs_cons, hputs_nil, hget_hput]
    split
    · exact ⟨_, rfl⟩
    · exact hr.wf.dom k' x hx
  · intro k1 k2 o1 o2 x s1 s2 h1 h2 h3 h4
    simp only [hputs_cons, hputs_nil, hget_hput] at h1 h2
    have g : ∀ k' o', (if k = k' then some (⟨o.ty, o.sz, closed, rows⟩ : AObj) else hget s.heap k') = some o' → ∃ p, hget s.heap k' = some p := by
      intro k' o' h
      split at h
      · rename_i e; subst e; exact ⟨o, ho⟩
      · exact ⟨o', h⟩
    obtain ⟨p1, g1⟩ := g k1 o1 h1
    obtain ⟨p2, g2⟩ := g k2 o2 h2
    exact hr.wf.inj k1 k2 p1 p2 x s1 s2 g1 g2 h3 h4
  · have hown : Own s.heap s.frz μ b := ⟨k, o, o.sz, ho, hz, hm⟩
    refine ⟨hk, rfl, rfl, rfl, by simp, fun x h1 h2 => hother x (fun e => h2 (e ▸ hown)), fun x h => .inl h, ?_, fun _ _ _ h => h⟩
    rintro x ⟨k1, o1, s1, h1, h2, h3⟩
    simp only [hputs_cons, hputs_nil, hget_hput, List.nil_append] at h1 h2
    split at h1
    · rename_i e; subst e; exact .inl ⟨k, o, s1, ho, hz, h3⟩
    · exact .inl ⟨k1, o1, s1, h1, h2, h3⟩
end Go.Qd
set_option linter.unusedVariables false
set_option linter.unusedSimpArgs false
namespace Go.Qd
open Go Go.RowKit
variable {P : Program}

theorem addr_add (b off i : Nat) : (⟨b, off, none⟩ : Addr).add i = ⟨b, off + i, none⟩ := by
  unfold Addr.add; split <;> simp_all

/-! ### Reading through a pointer -/
/-- The cells behind a pointer, and of which object they are. -/
def cellsAt (h : Heap) : AV → Option (List AV × List Nat)
  | .vptr cs => some (cs, [])
  | .ptr k j q => match hget h k with
    | some o => match o.rows[j]? with
      | some row => some (row.drop q, [k])
      | none => none
    | none => none
  | _ => none
theorem cellsAt_rel {s : AS} {a : Act} {w : World} {ok : Nat → Prop} {μ : Mu} (hr : Rel s a w ok μ) {p : AV} {cs : List AV} {rd : List Nat} (h : cellsAt s.heap p = some (cs, rd)) {v : Value} (hv : VRel w ok μ p v) :
    ∃ (b off : Nat) (us : Nat → Value), v = .pointer (some ⟨b, off, none⟩) ∧ ∀ i (hi : i < cs.length), w.cell? ⟨b, off + i, none⟩ = some (us i) ∧ VRel w ok μ cs[i] (us i) := by
  unfold cellsAt at h
  split at h
  · injection h with h; injection h with h _; subst h
    cases hv with
    | vptr _ _ b off us hb hc hr' => exact ⟨b, off, us, rfl, fun i hi => ⟨hc i hi, (hr' i hi).mono (Kept.refl _ _) (mu0_le _)⟩⟩
  · rename_i k j q
    split at h
    · rename_i o ho
      split at h
      · rename_i row hrow
        injection h with h; injection h with h _; subst h
        obtain ⟨hj0, _⟩ := List.getElem?_eq_some_iff.1 hrow
        obtain ⟨b, cs', h1, h2, h3, h4, h5, h6⟩ := (hr.wf.obj k o ho).resolve_right (fun h => by rw [h.1] at hj0; cases hj0)
        cases hv with
        | ptr _ _ _ _ b' sz hm =>
          rw [h1] at hm; injection hm with hm; injection hm with hm hm2; subst hm hm2
          obtain ⟨hj, rfl⟩ := List.getElem?_eq_some_iff.1 hrow
          have hx : ∀ i, i < (o.rows[j].drop q).length → ∃ u, cs'[j * o.sz + (q + i)]? = some u ∧ ∀ h : q + i < o.rows[j].length, VRel w ok μ o.rows[j][q + i] u := by
            intro i hi
            simp only [List.length_drop] at hi
            obtain ⟨u, g1, g2⟩ := h6.at_ j hj (q + i) (by omega)
            exact ⟨u, g1, fun _ => g2.mono (Kept.refl _ _) (AObj.mu_le' o μ)⟩
          refine ⟨b, j * o.sz + q, fun i => (cs'[j * o.sz + (q + i)]?).getD Go.undef, rfl, fun i hi => ?_⟩
          obtain ⟨u, g1, g2⟩ := hx i hi
          simp only [List.length_drop] at hi
          refine ⟨?_, ?_⟩
          · simp only [World.cell?, h2]
            rw [show j * o.sz + q + i = j * o.sz + (q + i) by omega, g1]; rfl
          · show VRel w ok μ _ ((cs'[j * o.sz + (q + i)]?).getD Go.undef)
            rw [g1]; simp only [Option.getD_some, List.getElem_drop]; exact g2 (by omega)
      · cases h
    · cases h
  · cases h

def takeVal (i : TI) (cs : List AV) : Option AV := if i.isAgg = true then (if i.size ≤ cs.length then some (.agg (cs.take i.size)) else none) else cs.head?
theorem loadVar_rel {T : Tab} (hT : TOk P T) {t : Nat} {i : TI} (ht : tget T t = some i) {cs : List AV} {av : AV} (htk : takeVal i cs = some av) {w : World} {ok : Nat → Prop} {μ : Mu} {b off : Nat} {us : Nat → Value}
    (h : ∀ i (hi : i < cs.length), w.cell? ⟨b, off + i, none⟩ = some (us i) ∧ VRel w ok μ cs[i] (us i)) : ∃ v, (loadVar t ⟨b, off, none⟩).run P w = .ok v w ∧ VRel w ok μ av v := by
  have hf := hT.facts ht
  unfold takeVal at htk
  unfold loadVar
  simp only [Sem.run_bind, hf.run_isAgg, Result.andThen_ok]
  split at htk
  · rename_i hag
    split at htk
    · rename_i hle
      injection htk with htk; subst htk
      have hrun := run_loadCells (P := P) w ⟨b, off, none⟩ i.size us (fun j hj => by rw [addr_add]; exact (h j (by omega)).1)
      refine ⟨.agg ((List.range i.size).map us).toArray, ?_, ?_⟩
      · simp only [hag, if_true, Sem.run_bind, hf.run_sizeOf, Result.andThen_ok, hrun, Sem.run_pure]
      · refine .agg _ _ _ (by simp; omega) (fun j h1 h2 => ?_)
        simp only [List.length_take] at h1
        have := (h j (by omega)).2
        simpa using this
    · cases htk
  · rename_i hag
    have hag' : i.isAgg = false := by simpa using hag
    cases cs with
    | nil => cases htk
    | cons c r =>
      simp only [List.head?_cons, Option.some.injEq] at htk; subst htk
      obtain ⟨h1, h2⟩ := h 0 (by simp)
      refine ⟨us 0, ?_, h2⟩
      rw [hag']
      rw [Nat.add_zero] at h1
      simp [load, Sem.run, h1]
def aload (T : Tab) (h : Heap) (t : Nat) (p : AV) : Option Out :=
  match tget T t, cellsAt h p with
  | some i, some (cs, rd) => match takeVal i cs with
    | some v => some ⟨v, [], rd, []⟩
    | none => none
  | _, _ => none
theorem load_ok {T : Tab} (hT : TOk P T) {s : AS} {o : Oper} {t : Nat} {x : Operand} (ho : o.op = .load t x) {p : AV} (hp : aev s.env x = some p) {out : Out} (h : aload T s.heap t p = some out) : RunsTo P s o out := by
  unfold aload at h
  split at h
  · rename_i i cs rd ht hc
    split at h
    · rename_i av htk
      injection h with h; subst h
      refine .pure fun a w ok μ hr => ?_
      obtain ⟨b, off, us, he, hcs⟩ := cellsAt_rel hr hc (aev_rel hr hp)
      obtain ⟨v, h1, h2⟩ := loadVar_rel hT ht htk hcs
      refine ⟨v, ?_, h2⟩
      unfold execOp
      simp only [ho, Instr.loadAt, he, Instr.sureAddr, Sem.run_bind, Sem.run_pure, Result.andThen_ok, h1]
    · cases h
  · cases h

/-! ### Values that are put into cells -/
def AV.one : AV → Bool
  | .undef | .agg _ | .tup _ => false
  | _ => true
theorem VRel.one {w : World} {ok : Nat → Prop} {μ : Mu} {a : AV} {v : Value} (h : VRel w ok μ a v) (ho : a.one = true) : v.oneCell' = true := by
  cases h <;> first | rfl | cases ho
def cellsOf : AV → Option (List AV)
  | .agg cs => if cs.all AV.one = true then some cs else none
  | v => if v.one = true then some [v] else none
theorem cellsOf_rel {w : World} {ok : Nat → Prop} {μ : Mu} {a : AV} {v : Value} (h : VRel w ok μ a v) {cs : List AV} (hc : cellsOf a = some cs) :
    VRels w ok μ cs v.cells.toList ∧ ∀ u ∈ v.cells.toList, u.oneCell' = true := by
  have key : ∀ (l : List AV) (vs : List Value), VRels w ok μ l vs → l.all AV.one = true → ∀ u ∈ vs, u.oneCell' = true := by
    intro l vs hl ha u hu
    obtain ⟨i, hi, rfl⟩ := List.mem_iff_getElem.1 hu
    have h1 : i < l.length := by rw [hl.len]; exact hi
    exact (hl.at_ i h1 hi).one (by rw [List.all_eq_true] at ha; exact ha _ (List.getElem_mem h1))
  by_cases hagg : ∃ l, a = .agg l
  · obtain ⟨l, rfl⟩ := hagg
    simp only [cellsOf] at hc
    split at hc
    · rename_i ha
      injection hc with hc; subst hc
      cases h with
      | agg _ _ us hl hh =>
        have hv : VRels w ok μ l us.toList := ⟨by simpa using hl, fun i h1 h2 => by simpa using hh i h1 (by simpa using h2)⟩
        exact ⟨hv, key _ _ hv ha⟩
    · cases hc
  · have hc' : (if a.one = true then some [a] else none) = some cs := by
      cases a <;> first | exact hc | exact absurd ⟨_, rfl⟩ hagg
    split at hc'
    · rename_i ha
      injection hc' with hc'; subst hc'
      have hcell : v.cells.toList = [v] := by
        have := h.one ha
        cases v <;> first | rfl | cases this
      rw [hcell]
      have hv : VRels w ok μ [a] [v] := .cons h .nil
      exact ⟨hv, key _ _ hv (by simp [ha])⟩
    · cases hc'

/-- One row of a block. -/
theorem RowsRel.single {w : World} {ok : Nat → Prop} {μ : Mu} {cs : List AV} {vs : List Value} (h : VRels w ok μ cs vs) : RowsRel w ok μ cs.length [cs] vs.toArray :=
  ⟨fun j hj => by simp only [List.length_cons, List.length_nil] at hj; obtain rfl : j = 0 := by omega
                  rfl, fun j hj q hq => by
    simp only [List.length_cons, List.length_nil] at hj
    obtain rfl : j = 0 := by omega
    simp only [List.getElem_cons_zero] at hq ⊢
    have hq2 : q < vs.length := by rw [← h.len]; exact hq
    exact ⟨vs[q], by simp [List.getElem?_eq_getElem hq2], h.at_ q hq hq2⟩⟩
theorem RowsRel.shut {w : World} {ok : Nat → Prop} {μ : Mu} {sz : Nat} {rows : List (List AV)} {cs : Array Value} (h : RowsRel w ok μ sz rows cs) (hc : rows.all AV.closedAll = true) {μ' : Mu} : RowsRel w ok μ' sz rows cs :=
  ⟨h.len, fun j hj q hq => by
    obtain ⟨u, h1, h2⟩ := h.at_ j hj q hq
    exact ⟨u, h1, h2.closed (closedAll_get (by rw [List.all_eq_true] at hc; exact hc _ (List.getElem_mem hj)) q hq)⟩⟩
theorem RowsRel.flag {w : World} {ok : Nat → Prop} {μ : Mu} {sz : Nat} {rows : List (List AV)} {cs : Array Value} (h : RowsRel w ok μ sz rows cs) : RowsRel w ok (if rows.all AV.closedAll = true then mu0 else μ) sz rows cs := by
  split
  · rename_i hc; exact h.shut hc
  · exact h

def freeKey (s : AS) (key : Nat) : Bool := (hget s.heap key).isNone && decide (key < s.top) && decide (s.fb ≤ key) && !(s.frz.contains key)
theorem freeKey_spec {s : AS} {key : Nat} (h : freeKey s key = true) : hget s.heap key = none ∧ key < s.top ∧ s.fb ≤ key ∧ key ∉ s.frz := by
  unfold freeKey at h
  simp only [Bool.and_eq_true, Option.isNone_iff_eq_none, decide_eq_true_eq, Bool.not_eq_true', List.contains_eq_mem, decide_eq_false_iff_not] at h
  exact ⟨h.1.1.1, h.1.1.2, h.1.2, h.2⟩

/-! ### A variable of its own -/
def abox (s : AS) (key t : Nat) (v : AV) : Option Out :=
  match cellsOf v with
  | some cs => if freeKey s key = true then some (.new (.ptr key 0 0) key ⟨t, cs.length, AV.closedAll cs, [cs]⟩) else none
  | none => none
theorem box_ok {s : AS} {o : Oper} {t : Nat} {x : Operand} (ho : o.op = .box t x) {av : AV} (hp : aev s.env x = some av) {key : Nat} {out : Out} (h : abox s key t av = some out) : RunsTo P s o out := by
  unfold abox at h
  split at h
  · rename_i cs hcs
    split at h
    · rename_i hk
      injection h with h; subst h
      obtain ⟨k1, k2, k3, k4⟩ := freeKey_spec hk
      intro a w ok μ hr
      obtain ⟨hv, h1⟩ := cellsOf_rel (aev_rel hr hp) hcs
      refine ⟨.pointer (some ⟨w.heap.size, 0, none⟩), w.alloc (.cells (a.eval x).cells t), .inl ?_, ?_⟩
      · unfold execOp
        simp [ho, Instr.box, newVar, newRow]
      · have hrows : RowsRel w ok (if AV.closedAll cs = true then mu0 else μ) cs.length [cs] (a.eval x).cells := by
          have := (RowsRel.single hv).flag
          simpa using this
        refine Left.new hr k1 k2 k3 (by have := hv.len; simp at this; simp [this]) k4 hrows ?_
        intro μ' hle hself hk
        have := VRel.ptr (w := w.alloc (.cells (a.eval x).cells t)) (ok := ok) μ' key 0 0 _ _ hself
        simpa using this
    · cases h
  · cases h
def aalloc (T : Tab) (s : AS) (key t : Nat) : Option Out :=
  match tget T t with
  | some i => if freeKey s key = true then some (.new (.ptr key 0 0) key ⟨t, i.zero.length, true, [i.zero]⟩) else none
  | none => none
theorem sameZs_rel {w : World} {ok : Nat → Prop} {μ : Mu} : ∀ {l : List AV} {vs : List Value}, sameZs l vs = true → VRels w ok μ l vs := by
  intro l
  induction l with
  | nil => intro vs h; cases vs with
    | nil => exact .nil
    | cons => cases h
  | cons a r ih =>
    intro vs h
    cases vs with
    | nil => cases h
    | cons v s =>
      simp only [sameZs, Bool.and_eq_true] at h
      exact .cons (sameZ_rel h.1) (ih h.2)
theorem alloc_ok {T : Tab} (hT : TOk P T) {s : AS} {o : Oper} {t : Nat} (ho : o.op = .alloc t) {key : Nat} {out : Out} (h : aalloc T s key t = some out) : RunsTo P s o out := by
  unfold aalloc at h
  split at h
  · rename_i i ht
    split at h
    · rename_i hk
      injection h with h; subst h
      obtain ⟨k1, k2, k3, k4⟩ := freeKey_spec hk
      obtain ⟨z, hz, hrun⟩ := (hT.facts ht).run_zero
      intro a w ok μ hr
      have hv : VRels w ok mu0 i.zero z.cells.toList := sameZs_rel hz
      refine ⟨.pointer (some ⟨w.heap.size, 0, none⟩), w.alloc (.cells z.cells t), .inl ?_, ?_⟩
      · unfold execOp
        simp [ho, Instr.alloc, hrun, newVar, newRow]
      · refine Left.new hr k1 k2 k3 (by have := hv.len; simp at this; simp [this]) k4 (by rw [if_pos rfl]; simpa using RowsRel.single hv) ?_
        intro μ' hle hself hk
        have := VRel.ptr (w := w.alloc (.cells z.cells t)) (ok := ok) μ' key 0 0 _ _ hself
        simpa using this
    · cases h
  · cases h

/-! ### A store -/
def splice (l : List AV) (q : Nat) (new : List AV) : List AV := l.take q ++ new ++ l.drop (q + new.length)
theorem splice_length {l : List AV} {q : Nat} {new : List AV} (h : q + new.length ≤ l.length) : (splice l q new).length = l.length := by
  simp only [splice, List.length_append, List.length_take, List.length_drop]; omega
theorem splice_get {l : List AV} {q : Nat} {new : List AV} (h : q + new.length ≤ l.length) (i : Nat) (hi : i < (splice l q new).length) :
    (splice l q new)[i] = if h1 : q ≤ i ∧ i < q + new.length then new[i - q]'(by omega) else l[i]'(by rw [splice_length h] at hi; exact hi) := by
  have hl := splice_length h
  have ht : (l.take q).length = q := by simp; omega
  simp only [splice]
  by_cases h1 : q ≤ i ∧ i < q + new.length
  · rw [dif_pos h1, List.getElem_append_left (by simp; omega), List.getElem_append_right (by omega)]
    congr 1; omega
  · rw [dif_neg h1]
    by_cases h2 : i < q
    · rw [List.getElem_append_left (by simp; omega), List.getElem_append_left (by omega)]
      simp
    · rw [List.getElem_append_right (by simp; omega)]
      simp only [List.getElem_drop, List.length_append, List.length_take]
      congr 1; omega
def astore (T : Tab) (s : AS) (t : Nat) (p v : AV) : Option Out :=
  match tget T t, p, cellsOf v with
  | some i, .ptr k j q, some cs => match hget s.heap k with
    | some o => match o.rows[j]? with
      | some row => if cs.length = i.size ∧ q + cs.length ≤ row.length ∧ k ∉ s.frz then
          some ⟨.tup [], [(k, ⟨o.ty, o.sz, o.closed && AV.closedAll cs, o.rows.set j (splice row q cs)⟩)], [k], []⟩ else none
      | none => none
    | none => none
  | _, _, _ => none
theorem store_ok {T : Tab} (hT : TOk P T) {s : AS} {o : Oper} {t : Nat} {x y : Operand} (ho : o.op = .store t x y) {p v : AV} (hp : aev s.env x = some p) (hv : aev s.env y = some v) {out : Out}
    (h : astore T s t p v = some out) : RunsTo P s o out := by
  unfold astore at h
  split at h
  · rename_i i k j q cs ht hcs
    split at h
    · rename_i ob hob
      split at h
      · rename_i row hrow
        split at h
        · rename_i hcond
          obtain ⟨c1, c2, c3⟩ := hcond
          injection h with h; subst h
          obtain ⟨hj, rfl⟩ := List.getElem?_eq_some_iff.1 hrow
          intro a w ok μ hr
          obtain ⟨b, cs', h1, h2, h3, h4, h5, h6⟩ := (hr.wf.obj k ob hob).resolve_right (fun h => by rw [h.1] at hj; cases hj)
          obtain ⟨hcv, hone⟩ := cellsOf_rel (aev_rel hr hv) hcs
          have hpv := aev_rel hr hp
          have hlen : cs.length = (a.eval y).cells.toList.length := hcv.len
          have hrl := h6.len j hj
          have hsz : j * ob.sz + q + (a.eval y).cells.toList.length ≤ cs'.size := by
            have : (j + 1) * ob.sz ≤ ob.rows.length * ob.sz := Nat.mul_le_mul_right _ hj
            have e : (j + 1) * ob.sz = j * ob.sz + ob.sz := Nat.succ_mul _ _
            omega
          have hrun := run_storeCells_at (P := P) b (j * ob.sz + q) ob.ty (a.eval y).cells.toList 0 cs' w h2 (by omega) hone
          rw [Nat.add_zero] at hrun
          obtain ⟨new, hnew⟩ : ∃ new : Array Value, new = (cs'.toList.take (j * ob.sz + q) ++ (a.eval y).cells.toList ++ cs'.toList.drop (j * ob.sz + q + (a.eval y).cells.toList.length)).toArray := ⟨_, rfl⟩
          rw [← hnew] at hrun
          have hnsz : new.size = cs'.size := by
            rw [hnew]; simp only [List.size_toArray, List.length_append, List.length_take, List.length_drop, Array.length_toList] at hsz ⊢; omega
          have hget : ∀ z, z < cs'.size → new[z]? = if j * ob.sz + q ≤ z ∧ z < j * ob.sz + q + cs.length then (a.eval y).cells.toList[z - (j * ob.sz + q)]? else cs'[z]? := by
            intro z hz
            rw [hnew, List.getElem?_toArray]
            have hl1 : (cs'.toList.take (j * ob.sz + q)).length = j * ob.sz + q := by simp; omega
            by_cases c : j * ob.sz + q ≤ z ∧ z < j * ob.sz + q + cs.length
            · rw [if_pos c, List.getElem?_append_left (by rw [List.length_append, hl1]; omega), List.getElem?_append_right (by omega), hl1]
            · rw [if_neg c]
              by_cases c' : z < j * ob.sz + q
              · rw [List.getElem?_append_left (by rw [List.length_append, hl1]; omega), List.getElem?_append_left (by omega), List.getElem?_take_of_lt c']; simp
              · rw [List.getElem?_append_right (by rw [List.length_append, hl1]; omega), List.getElem?_drop]
                simp only [List.length_append, hl1]
                rw [show j * ob.sz + q + (a.eval y).cells.toList.length + (z - (j * ob.sz + q + (a.eval y).cells.toList.length)) = z by omega]; simp
          have hx : a.eval x = .pointer (some ⟨b, j * ob.sz + q, none⟩) := by
            cases hev : a.eval x <;> rw [hev] at hpv <;> cases hpv
            rename_i b' sz hm
            rw [h1] at hm; injection hm with hm; injection hm with e1 e2; subst e1 e2; rfl
          refine ⟨Go.undef, w.setRow b new, .inr ⟨?_, rfl⟩, ?_⟩
          · unfold execOp
            have hs := (hT.facts ht).run_sizeOf w
            simp only [ho, Instr.storeAt, hx, Instr.sureAddr, Sem.run_bind, Sem.run_pure, Result.andThen_ok, storeVar, hs]
            rw [if_neg (by rw [← c1, hlen]; simp)]
            simp only [Sem.run_bind, hrun, Result.andThen_ok, Sem.run_pure]
          · refine Left.turn hr hob c3 h1 h2 hnsz (by rw [List.length_set]; exact h3) ⟨?_, ?_⟩ [k] (fun _ => .tup _ _ _ rfl (fun i h1 _ => by cases h1))
            · intro j' hj'
              rw [List.getElem_set]
              split
              · rename_i e; subst e; rw [splice_length c2]; exact hrl
              · exact h6.len j' (by simpa using hj')
            · intro j' hj' q' hq'
              have hj2 : j' < ob.rows.length := by simpa using hj'
              have hrl' := h6.len j' hj2
              have hle : (if (ob.closed && AV.closedAll cs) = true then mu0 else μ) = (if (ob.closed && AV.closedAll cs) = true then mu0 else μ) := rfl
              have hmu : MuLe (ob.mu μ) (if (ob.closed && AV.closedAll cs) = true then mu0 else μ) ∨ (ob.closed && AV.closedAll cs) = false := by
                cases hcl : (ob.closed && AV.closedAll cs) with
                | false => exact .inr rfl
                | true => left; rw [if_pos rfl]; simp only [Bool.and_eq_true] at hcl; unfold AObj.mu; rw [if_pos hcl.1]; exact MuLe.refl _
              have hmu' : MuLe (ob.mu μ) (if (ob.closed && AV.closedAll cs) = true then mu0 else μ) := by
                rcases hmu with h | h
                · exact h
                · rw [h, if_neg (by simp)]; exact AObj.mu_le' ob μ
              have hzlt : j' * ob.sz + q' < cs'.size := by
                have : (j' + 1) * ob.sz ≤ ob.rows.length * ob.sz := Nat.mul_le_mul_right _ hj2
                have e : (j' + 1) * ob.sz = j' * ob.sz + ob.sz := Nat.succ_mul _ _
                have hq2 : q' < ob.sz := by
                  have hq3 := hq'
                  rw [List.getElem_set] at hq3
                  split at hq3
                  · rw [splice_length c2] at hq3; omega
                  · omega
                omega
              by_cases e : j = j'
              · subst e
                have hr2 : (ob.rows.set j (splice ob.rows[j] q cs))[j] = splice ob.rows[j] q cs := by simp
                have hq2 : q' < ob.rows[j].length := by rw [hr2, splice_length c2] at hq'; exact hq'
                have hval : (ob.rows.set j (splice ob.rows[j] q cs))[j][q'] = (splice ob.rows[j] q cs)[q']'(by rw [splice_length c2]; exact hq2) := by simp
                rw [hval, splice_get c2, hget _ hzlt]
                by_cases c : q ≤ q' ∧ q' < q + cs.length
                · rw [dif_pos c, if_pos (by omega)]
                  have hi : q' - q < (a.eval y).cells.toList.length := by omega
                  refine ⟨(a.eval y).cells.toList[q' - q], by rw [show j * ob.sz + q' - (j * ob.sz + q) = q' - q by omega, List.getElem?_eq_getElem hi], ?_⟩
                  have hb := hcv.at_ (q' - q) (by omega) hi
                  cases hcl : (ob.closed && AV.closedAll cs) with
                  | false => exact hb
                  | true => simp only [Bool.and_eq_true] at hcl; exact hb.closed (closedAll_get hcl.2 _ (by omega))
                · rw [dif_neg c, if_neg (by omega)]
                  obtain ⟨u, g1, g2⟩ := h6.at_ j hj q' hq2
                  exact ⟨u, g1, g2.mono (Kept.refl _ _) hmu'⟩
              · have hr2 : (ob.rows.set j (splice ob.rows[j] q cs))[j'] = ob.rows[j'] := by rw [List.getElem_set, if_neg e]
                have hq2 : q' < ob.rows[j'].length := by rw [hr2] at hq'; exact hq'
                have hval : (ob.rows.set j (splice ob.rows[j] q cs))[j'][q'] = ob.rows[j'][q'] := by simp [List.getElem_set, e]
                rw [hval, hget _ hzlt, if_neg (by
                  intro hh
                  rcases Nat.lt_or_gt_of_ne e with hlt | hlt
                  · have : (j + 1) * ob.sz ≤ j' * ob.sz := Nat.mul_le_mul_right _ hlt
                    have e2 : (j + 1) * ob.sz = j * ob.sz + ob.sz := Nat.succ_mul _ _
                    omega
                  · have : (j' + 1) * ob.sz ≤ j * ob.sz := Nat.mul_le_mul_right _ hlt
                    have e2 : (j' + 1) * ob.sz = j' * ob.sz + ob.sz := Nat.succ_mul _ _
                    omega)]
                obtain ⟨u, g1, g2⟩ := h6.at_ j' hj2 q' hq2
                exact ⟨u, g1, g2.mono (Kept.refl _ _) hmu'⟩
        · cases h
      · cases h
    · cases h
  · cases h
end Go.Qd
set_option linter.unusedVariables false
set_option linter.unusedSimpArgs false
namespace Go.Qd
open Go Go.RowKit
variable {P : Program}

/-! ### Operations that turn nothing -/
theorem eval_bool {w : World} {ok : Nat → Prop} {μ : Mu} {b : Bool} {v : Value} (h : VRel w ok μ (.bool b) v) : v = .bool b := by cases h; rfl
theorem eval_int {w : World} {ok : Nat → Prop} {μ : Mu} {k : IntKind} {n : Int} {v : Value} (h : VRel w ok μ (.int k n) v) : v = .int k n := by cases h; rfl

theorem move_ok {s : AS} {o : Oper} {x : Operand} (ho : o.op = .move x ∨ o.op = .assign x) {av : AV} (hp : aev s.env x = some av) : RunsTo P s o (.pure av) :=
  .pure fun a w ok μ hr => ⟨a.eval x, by unfold execOp; rcases ho with ho | ho <;> simp [ho], aev_rel hr hp⟩
theorem pick_ok {s : AS} {o : Oper} {c x y : Operand} (ho : o.op = .pick c x y) {b : Bool} {av bv : AV} (hc : aev s.env c = some (.bool b)) (hx : aev s.env x = some av) (hy : aev s.env y = some bv) :
    RunsTo P s o (.pure (bif b then av else bv)) :=
  .pure fun a w ok μ hr => ⟨if b = true then a.eval x else a.eval y, by unfold execOp; simp [ho, eval_bool (aev_rel hr hc), asBool], by
    cases b
    · exact aev_rel hr hy
    · exact aev_rel hr hx⟩
def anil : AV → Option AV
  | .ptr k j q => some (.ptr k j q)
  | .vptr cs => some (.vptr cs)
  | .fn f a b => some (.fn f a b)
  | _ => none
theorem nil_ok {s : AS} {o : Oper} {x : Operand} (ho : o.op = .nilCheck x) {av bv : AV} (hx : aev s.env x = some av) (h : anil av = some bv) : RunsTo P s o (.pure bv) :=
  .pure fun a w ok μ hr => by
    have hv := aev_rel hr hx
    have hab : av = bv := by unfold anil at h; split at h <;> first | (cases h; done) | (injection h)
    subst hab
    refine ⟨a.eval x, ?_, hv⟩
    generalize he : a.eval x = u at hv
    unfold execOp
    simp only [ho, he]
    cases av <;> first | (cases h; done) | (cases hv <;> rfl)

def abinI (op : BinOp) (k : IntKind) (a b : Int) : Option AV :=
  match op with
  | .add => some (.int k (k.wrap (a + b)))
  | .sub => some (.int k (k.wrap (a - b)))
  | .mul => some (.int k (k.wrap (a * b)))
  | .quo => if b = 0 then none else some (.int k (k.wrap (a.tdiv b)))
  | .rem => if b = 0 then none else some (.int k (a.tmod b))
  | .eql => some (.bool (a == b))
  | .neq => some (.bool (a != b))
  | .lss => some (.bool (decide (a < b)))
  | .leq => some (.bool (decide (a ≤ b)))
  | .gtr => some (.bool (decide (a > b)))
  | .geq => some (.bool (decide (a ≥ b)))
  | _ => none
theorem binI_run {op : BinOp} {k : IntKind} {a b : Int} {av : AV} (h : abinI op k a b = some av) (t : Nat) (x y : Operand) (w : World) : ∃ v, (do eqGuard op t x y (.int k a) (.int k b); binOp op t (.int k a) (.int k b)).run P w = .ok v w ∧
    ∀ (ok : Nat → Prop) (μ : Mu), VRel w ok μ av v := by
  have hg : (eqGuard op t x y (.int k a) (.int k b)).run P w = .ok () w := by
    unfold eqGuard
    cases op <;> simp
  simp only [Sem.run_bind, hg, Result.andThen_ok]
  unfold abinI at h
  cases op <;> simp only at h
  case add => injection h with h; subst h; exact ⟨.int k (k.wrap (a + b)), by simp [binOp, Op.intArith, Op.intCmp], fun ok μ => .int _ _ _⟩
  case sub => injection h with h; subst h; exact ⟨.int k (k.wrap (a - b)), by simp [binOp, Op.intArith, Op.intCmp], fun ok μ => .int _ _ _⟩
  case mul => injection h with h; subst h; exact ⟨.int k (k.wrap (a * b)), by simp [binOp, Op.intArith, Op.intCmp], fun ok μ => .int _ _ _⟩
  case eql => injection h with h; subst h; exact ⟨.bool (a == b), by simp [binOp, Op.intArith, Op.intCmp], fun ok μ => .bool _ _⟩
  case neq => injection h with h; subst h; exact ⟨.bool (a != b), by simp [binOp, Op.intArith, Op.intCmp], fun ok μ => .bool _ _⟩
  case lss => injection h with h; subst h; exact ⟨.bool (decide (a < b)), by simp [binOp, Op.intArith, Op.intCmp], fun ok μ => .bool _ _⟩
  case leq => injection h with h; subst h; exact ⟨.bool (decide (a ≤ b)), by simp [binOp, Op.intArith, Op.intCmp], fun ok μ => .bool _ _⟩
  case gtr => injection h with h; subst h; exact ⟨.bool (decide (a > b)), by simp [binOp, Op.intArith, Op.intCmp], fun ok μ => .bool _ _⟩
  case geq => injection h with h; subst h; exact ⟨.bool (decide (a ≥ b)), by simp [binOp, Op.intArith, Op.intCmp], fun ok μ => .bool _ _⟩
  case quo =>
    split at h
    · cases h
    · rename_i hb; injection h with h; subst h; exact ⟨.int k (k.wrap (a.tdiv b)), by simp [binOp, Op.intDiv, hb], fun ok μ => .int _ _ _⟩
  case rem =>
    split at h
    · cases h
    · rename_i hb; injection h with h; subst h; exact ⟨.int k (a.tmod b), by simp [binOp, Op.intDiv, hb], fun ok μ => .int _ _ _⟩
  all_goals cases h
theorem binI_ok {s : AS} {o : Oper} {op : BinOp} {t yt : Nat} {x y : Operand} (ho : o.op = .binOp op t x y yt) {k : IntKind} {a b : Int} {av : AV} (hx : aev s.env x = some (.int k a)) (hy : aev s.env y = some (.int k b))
    (h : abinI op k a b = some av) : RunsTo P s o (.pure av) :=
  .pure fun ac w ok μ hr => by
    obtain ⟨v, h1, h2⟩ := binI_run (P := P) h t x y w
    refine ⟨v, ?_, h2 ok μ⟩
    unfold execOp
    simp only [ho, eval_int (aev_rel hr hx), eval_int (aev_rel hr hy)]
    simp only [Sem.run_bind] at h1 ⊢
    rw [h1]; rfl
def abinB (op : BinOp) (a b : Bool) : Option AV :=
  match op with
  | .eql => some (.bool (a == b))
  | .neq => some (.bool (!(a == b)))
  | _ => none
theorem binB_ok {T : Tab} (hT : TOk P T) {s : AS} {o : Oper} {op : BinOp} {t yt : Nat} {x y : Operand} (ho : o.op = .binOp op t x y yt) {i : TI} (ht : tget T t = some i) (hi : i.kind = .bool) {a b : Bool} {av : AV}
    (hx : aev s.env x = some (.bool a)) (hy : aev s.env y = some (.bool b)) (h : abinB op a b = some av) : RunsTo P s o (.pure av) :=
  .pure fun ac w ok μ hr => by
    have hk := (hT.facts ht).kind
    rw [hi] at hk
    have hg : (eqGuard op t x y (.bool a) (.bool b)).run P w = .ok () w := by unfold eqGuard; cases op <;> simp
    unfold abinB at h
    unfold execOp
    cases op <;> simp only at h <;> first | (cases h; done) | skip
    all_goals
      injection h with h; subst h
      have he : (Op.equal t (.bool a) (.bool b)).run P w = .ok (a == b) w := by
        have e : Op.equal t (.bool a) (.bool b) = Op.equalIn (9999 + 1) t (.bool a) (.bool b) := rfl
        rw [e, Op.equalIn]
        simp [run_underlying hk]
      first
        | exact ⟨.bool (a == b), by simp only [ho, eval_bool (aev_rel hr hx), eval_bool (aev_rel hr hy), Sem.run_bind, hg, Result.andThen_ok, binOp, he, Sem.run_pure], .bool _ _⟩
        | exact ⟨.bool (!(a == b)), by simp only [ho, eval_bool (aev_rel hr hx), eval_bool (aev_rel hr hy), Sem.run_bind, hg, Result.andThen_ok, binOp, he, Sem.run_pure], .bool _ _⟩
def eqA : List (Option IntKind) → List AV → List AV → Option Bool
  | [], [], [] => some true
  | some k :: L, .int k1 a :: r, .int k2 b :: s => if k1 = k ∧ k2 = k then (eqA L r s).map ((a == b) && ·) else none
  | none :: L, .bool a :: r, .bool b :: s => (eqA L r s).map ((a == b) && ·)
  | _, _, _ => none
theorem eqA_rel {w : World} {ok : Nat → Prop} {μ : Mu} : ∀ {L : List (Option IntKind)} {xs ys : List AV} {b : Bool} {X Y : List Value}, eqA L xs ys = some b → VRels w ok μ xs X → VRels w ok μ ys Y → eqV L X Y = some b := by
  intro L
  induction L with
  | nil =>
    intro xs ys b X Y h hx hy
    cases xs with
    | nil =>
      cases ys with
      | nil =>
        obtain rfl := hx.unnil
        obtain rfl := hy.unnil
        exact h
      | cons => cases h
    | cons => cases h
  | cons k L ih =>
    intro xs ys b X Y h hx hy
    unfold eqA at h
    split at h
    · simp_all
    · rename_i hL
      injection hL with h1 h2; subst h1 h2
      split at h
      · rename_i hk
        obtain ⟨b', hb, rfl⟩ := Option.map_eq_some_iff.1 h
        obtain ⟨v, r, rfl, q1, q2⟩ := hx.uncons
        obtain ⟨v', r', rfl, q3, q4⟩ := hy.uncons
        cases q1; cases q3
        simp only [eqV]
        rw [if_pos hk, ih hb q2 q4]; rfl
      · cases h
    · rename_i hL
      injection hL with h1 h2; subst h1 h2
      obtain ⟨b', hb, rfl⟩ := Option.map_eq_some_iff.1 h
      obtain ⟨v, r, rfl, q1, q2⟩ := hx.uncons
      obtain ⟨v', r', rfl, q3, q4⟩ := hy.uncons
      cases q1; cases q3
      simp only [eqV]
      rw [ih hb q2 q4]; rfl
    · cases h
def abinA (op : BinOp) (L : List (Option IntKind)) (xs ys : List AV) : Option AV :=
  match eqA L xs ys with
  | some b => match op with
    | .eql => some (.bool b)
    | .neq => some (.bool (!b))
    | _ => none
  | none => none
theorem binA_ok {T : Tab} (hT : TOk P T) {s : AS} {o : Oper} {op : BinOp} {t yt : Nat} {x y : Operand} (ho : o.op = .binOp op t x y yt) {i : TI} (ht : tget T t = some i) (hag : i.isAgg = true) {L : List (Option IntKind)} (hL : i.eqk = some L)
    {xs ys : List AV} {av : AV} (hx : aev s.env x = some (.agg xs)) (hy : aev s.env y = some (.agg ys)) (h : abinA op L xs ys = some av) : RunsTo P s o (.pure av) :=
  .pure fun a w ok μ hr => by
    obtain ⟨c1, c2, c3⟩ := (hT.facts ht).cmp L hL
    obtain ⟨d, hd1, hd2⟩ := (hT.facts ht).agg
    rw [hag] at hd2
    have hxv := aev_rel hr hx
    have hyv := aev_rel hr hy
    generalize hxe : a.eval x = xv at hxv
    generalize hye : a.eval y = yv at hyv
    unfold abinA at h
    split at h
    case h_2 => cases h
    rename_i b hb
    cases hxv with
    | agg _ _ X l1 h1 =>
      cases hyv with
      | agg _ _ Y l2 h2 =>
        have hX : VRels w ok μ xs X.toList := ⟨by simpa using l1, fun i g1 g2 => by simpa using h1 i g1 (by simpa using g2)⟩
        have hY : VRels w ok μ ys Y.toList := ⟨by simpa using l2, fun i g1 g2 => by simpa using h2 i g1 (by simpa using g2)⟩
        have hrun := eqPlan_run 10000 t L c1 c2 X.toList Y.toList b (eqA_rel hb hX hY) w
        have hval : ∀ Z : Array Value, valOf P t Z.toList = .agg Z := fun Z => by
          unfold valOf; rw [hd1]; cases d <;> first | (simp; done) | (cases hd2; done)
        rw [hval, hval] at hrun
        have he : (Op.equal t (.agg X) (.agg Y)).run P w = .ok b w := hrun
        have hg : (eqGuard op t x y (.agg X) (.agg Y)).run P w = .ok () w := by
          unfold eqGuard
          cases op <;> simp [program, Sem.run, c3]
        unfold execOp
        cases op <;> simp only at h <;> first | (cases h; done) | skip
        · injection h with h; subst h
          exact ⟨.bool b, by simp only [ho, hxe, hye, Sem.run_bind, hg, Result.andThen_ok, binOp, he, Sem.run_pure], .bool _ _⟩
        · injection h with h; subst h
          exact ⟨.bool (!b), by simp only [ho, hxe, hye, Sem.run_bind, hg, Result.andThen_ok, binOp, he, Sem.run_pure], .bool _ _⟩
def aun (op : UnOp) : AV → Option AV
  | .bool b => match op with | .not => some (.bool (!b)) | _ => none
  | .int k n => match op with | .neg => some (.int k (k.wrap (0 - n))) | _ => none
  | _ => none
theorem un_ok {s : AS} {o : Oper} {op : UnOp} {t : Nat} {x : Operand} (ho : o.op = .unOp op t x) {xv av : AV} (hx : aev s.env x = some xv) (h : aun op xv = some av) : RunsTo P s o (.pure av) :=
  .pure fun a w ok μ hr => by
    have hv := aev_rel hr hx
    unfold aun at h
    unfold execOp
    split at h
    · cases op <;> simp only at h <;> first | (cases h; done) | skip
      injection h with h; subst h
      exact ⟨_, by simp [ho, eval_bool hv, Op.unary], .bool _ _⟩
    · cases op <;> simp only at h <;> first | (cases h; done) | skip
      injection h with h; subst h
      exact ⟨_, by simp [ho, eval_int hv, Op.unary, Op.intArith], .int _ _ _⟩
    · cases h
theorem fn_ok {s : AS} {o : Oper} {f : FuncId} {fs cs : Array Operand} (ho : o.op = .makeFunc (.func f) fs cs) {l m : List AV} (hf : aevs s.env fs.toList = some l) (hc : aevs s.env cs.toList = some m) : RunsTo P s o (.pure (.fn f l m)) :=
  .pure fun a w ok μ hr => ⟨.func (.func f) (fs.map a.eval) (cs.map a.eval), by unfold execOp; simp [ho, Instr.makeFunc], by
    have h1 := aevs_rel hr hf
    have h2 := aevs_rel hr hc
    refine .fn _ _ _ _ _ _ (by have := h1.len; simpa using this) (by have := h2.len; simpa using this) (fun i g1 g2 => ?_) (fun i g1 g2 => ?_)
    · have := h1.at_ i g1 (by simpa using g2)
      simpa using this
    · have := h2.at_ i g1 (by simpa using g2)
      simpa using this⟩
theorem iface_ok {T : Tab} (hT : TOk P T) {s : AS} {o : Oper} {t : Nat} {x : Operand} (ho : o.op = .makeInterface t x) {i : TI} (ht : tget T t = some i) (hi : (match i.kind with | .other => false | _ => true) = true) {av : AV}
    (hx : aev s.env x = some av) : RunsTo P s o (.pure (.iface t av)) :=
  .pure fun a w ok μ hr => ⟨.iface t (a.eval x), by
    obtain ⟨_, hk, _⟩ := hT.facts ht
    unfold execOp
    obtain ⟨kind, size, bytes, zero, eqk⟩ := i
    cases kind with
    | other => cases hi
    | struct fs => obtain ⟨f, h1, _⟩ := hk; simp [ho, Instr.makeInterface, run_underlying h1]
    | func => obtain ⟨_, _, _, h1⟩ := hk; simp [ho, Instr.makeInterface, run_underlying h1]
    | _ => simp [ho, Instr.makeInterface, run_underlying hk], .iface _ _ _ _ (aev_rel hr hx)⟩
theorem extract_ok {s : AS} {o : Oper} {x : Operand} {i : Nat} (ho : o.op = .extract x i) {vs : List AV} {av : AV} (hx : aev s.env x = some (.tup vs)) (h : vs[i]? = some av) : RunsTo P s o (.pure av) :=
  .pure fun a w ok μ hr => by
    have hv := aev_rel hr hx
    obtain ⟨hi, rfl⟩ := List.getElem?_eq_some_iff.1 h
    generalize he : a.eval x = u at hv
    cases hv with
    | tup _ _ us hl hh =>
      refine ⟨us[i]'(by omega), ?_, hh i hi (by omega)⟩
      unfold execOp
      simp [ho, he, Instr.extract, Array.getElem?_eq_getElem (show i < us.size by omega)]

/-! ### Places -/
theorem checkFields_get : ∀ {fs' : List (Nat × Nat × Bool)} {fs : List Field}, checkFields P fs' fs = true → ∀ {f : Nat} {x : Nat × Nat × Bool}, fs'[f]? = some x →
    ∃ g, fs[f]? = some g ∧ g.offset = x.1 ∧ (P.info? g.type).map (·.size) = some x.2.1 ∧ 0 < x.2.1 ∧ ∃ d, P.underlying g.type = some d ∧ (match d with | .struct _ | .array _ _ => true | _ => false) = x.2.2 := by
  intro fs'
  induction fs' with
  | nil => intro fs h f x hx; cases hx
  | cons y r ih =>
    intro fs h f x hx
    obtain ⟨off, size, ag⟩ := y
    cases fs with
    | nil => cases h
    | cons g s =>
      simp only [checkFields, Bool.and_eq_true, decide_eq_true_eq] at h
      obtain ⟨⟨⟨⟨h1, h2⟩, h3⟩, h4⟩, h5⟩ := h
      cases f with
      | zero =>
        simp only [List.getElem?_cons_zero, Option.some.injEq] at hx
        subst hx
        refine ⟨g, rfl, h1, h2, h3, ?_⟩
        cases hu : P.underlying g.type with
        | none => rw [hu] at h4; cases h4
        | some d => rw [hu] at h4; exact ⟨d, rfl, by cases d <;> simp_all⟩
      | succ f => exact ih h5 hx
def afield (T : Tab) (t : Nat) (f : Nat) : Option (Nat × Nat × Bool) :=
  match tget T t with
  | some i => match i.kind with
    | .struct fs => fs[f]?
    | _ => none
  | none => none
theorem afield_spec {T : Tab} (hT : TOk P T) {t f : Nat} {x : Nat × Nat × Bool} (h : afield T t f = some x) : ∃ (fs : Array Field) (g : Field), P.underlying t = some (.struct fs) ∧ fs[f]? = some g ∧ g.offset = x.1 ∧
    (P.info? g.type).map (·.size) = some x.2.1 ∧ 0 < x.2.1 ∧ ∃ d, P.underlying g.type = some d ∧ (match d with | .struct _ | .array _ _ => true | _ => false) = x.2.2 := by
  unfold afield at h
  split at h
  · rename_i i ht
    have hk := (hT.facts ht).kind
    split at h
    · rename_i fs' hi
      rw [hi] at hk
      obtain ⟨fs, h1, h2⟩ := hk
      obtain ⟨g, g1, g2⟩ := checkFields_get h2 h
      exact ⟨fs, g, h1, by rw [← Array.getElem?_toList]; exact g1, g2⟩
    · cases h
  · cases h
/-- A part of what a pointer leads to. -/
def pstep (off size : Nat) : AV → Option AV
  | .ptr k j q => some (.ptr k j (q + off))
  | .vptr cs => if off + size ≤ cs.length then some (.vptr ((cs.drop off).take size)) else none
  | _ => none
theorem pstep_rel {w : World} {ok : Nat → Prop} {μ : Mu} {off size : Nat} {p p' : AV} (h : pstep off size p = some p') {v : Value} (hv : VRel w ok μ p v) :
    ∃ b x, v = .pointer (some ⟨b, x, none⟩) ∧ VRel w ok μ p' (.pointer (some ⟨b, x + off, none⟩)) := by
  unfold pstep at h
  split at h
  · injection h with h; subst h
    cases hv with
    | ptr _ _ j q b sz hm => exact ⟨b, _, rfl, by rw [Nat.add_assoc]; exact .ptr _ _ _ _ _ _ hm⟩
  · split at h
    · rename_i hle
      injection h with h; subst h
      cases hv with
      | vptr _ _ b x us hb hc hr =>
        refine ⟨b, x, rfl, .vptr _ _ b (x + off) (fun i => us (off + i)) hb (fun i hi => ?_) (fun i hi => ?_)⟩
        · simp only [List.length_take, List.length_drop] at hi
          rw [Nat.add_assoc]; exact hc (off + i) (by omega)
        · simp only [List.length_take, List.length_drop] at hi
          have := hr (off + i) (by omega)
          simpa using this
    · cases h
  · cases h
theorem fieldAddr_ok {T : Tab} (hT : TOk P T) {s : AS} {o : Oper} {t f : Nat} {x : Operand} (ho : o.op = .fieldAddr t x f) {p p' : AV} (hx : aev s.env x = some p) {fo : Nat × Nat × Bool} (hf : afield T t f = some fo)
    (h : pstep fo.1 fo.2.1 p = some p') : RunsTo P s o (.pure p') :=
  .pure fun a w ok μ hr => by
    obtain ⟨b, y, h1, h2⟩ := pstep_rel h (aev_rel hr hx)
    obtain ⟨fs, g, g1, g2, g3, g4, g5, _⟩ := afield_spec hT hf
    refine ⟨_, ?_, h2⟩
    unfold execOp
    obtain ⟨ti, e1, e2⟩ := Option.map_eq_some_iff.1 g4
    have hs : (sizeOf g.type).run P w = .ok fo.2.1 w := by simp [sizeOf, typeInfo, e1, e2]
    simp only [ho, h1, Instr.fieldAt, Sem.run_bind, run_underlying g1, Result.andThen_ok, g2, Instr.sureAddr, Sem.run_pure, fieldPlace, hs]
    rw [if_neg (by omega)]
    simp [g3, addr_add]
def apart_ (fo : Nat × Nat × Bool) (cs : List AV) : Option AV :=
  if fo.2.2 = true then (if fo.1 + fo.2.1 ≤ cs.length then some (.agg ((cs.drop fo.1).take fo.2.1)) else none) else cs[fo.1]?
theorem field_ok {T : Tab} (hT : TOk P T) {s : AS} {o : Oper} {t f : Nat} {x : Operand} (ho : o.op = .field t x f) {cs : List AV} {av : AV} (hx : aev s.env x = some (.agg cs)) {fo : Nat × Nat × Bool} (hf : afield T t f = some fo)
    (h : apart_ fo cs = some av) : RunsTo P s o (.pure av) :=
  .pure fun a w ok μ hr => by
    have hv := aev_rel hr hx
    obtain ⟨fs, g, g1, g2, g3, g4, g5, d, g6, g7⟩ := afield_spec hT hf
    obtain ⟨ti, e1, e2⟩ := Option.map_eq_some_iff.1 g4
    have hs : (sizeOf g.type).run P w = .ok fo.2.1 w := by simp [sizeOf, typeInfo, e1, e2]
    have hag : (isAgg g.type).run P w = .ok fo.2.2 w := by
      unfold Go.isAgg
      simp only [Sem.run_bind, run_underlying g6, Result.andThen_ok]
      rw [← g7]; cases d <;> rfl
    generalize he : a.eval x = u at hv
    cases hv with
    | agg _ _ us hl hh =>
      unfold apart_ at h
      unfold execOp
      split at h
      · rename_i hb
        split at h
        · rename_i hle
          injection h with h; subst h
          refine ⟨.agg (us.extract fo.1 (fo.1 + fo.2.1)), ?_, .agg _ _ _ (by simp; omega) (fun i h1 h2 => ?_)⟩
          · simp only [ho, he, Instr.field, Sem.run_bind, run_underlying g1, Result.andThen_ok, g2, asAgg, Sem.run_pure, part, hag, hb, if_true, hs, g3]
          · simp only [List.length_take, List.length_drop] at h1
            have := hh (fo.1 + i) (by omega) (by omega)
            simpa using this
        · cases h
      · rename_i hb
        obtain ⟨hi, rfl⟩ := List.getElem?_eq_some_iff.1 h
        refine ⟨us[fo.1]'(by omega), ?_, hh _ hi (by omega)⟩
        have hb' : fo.2.2 = false := by simpa using hb
        rw [hb'] at hag
        simp [ho, he, Instr.field, run_underlying g1, g2, asAgg, part, hag, g3, Array.getElem?_eq_getElem (show fo.1 < us.size by omega)]
/-- The place of an element. -/
def aindexAddr (T : Tab) (t : Nat) (p : AV) (n : Int) : Option AV :=
  match tget T t with
  | some i => match i.kind with
    | .array len e => match tget T e with
      | some ei => if 0 ≤ n ∧ n < len then pstep (n.toNat * ei.size) ei.size p else none
      | none => none
    | .slice e => match tget T e with
      | some ei => match p with
        | .lst rows => match rows[n.toNat]? with
          | some r => if 0 ≤ n ∧ r.length = ei.size then some (.vptr r) else none
          | none => none
        | .osl k j len => if 0 ≤ n ∧ n < len then some (.ptr k (j + n.toNat) 0) else none
        | _ => none
      | none => none
    | _ => none
  | none => none
/-- The row size of an object that an address is reckoned by. -/
def keySize (h : Heap) (p : AV) (sz : Nat) : Bool :=
  match p with
  | .osl k _ _ => match hget h k with
    | some o => decide (o.sz = sz)
    | none => false
  | _ => true
def aindexAddr' (T : Tab) (h : Heap) (t : Nat) (p : AV) (n : Int) : Option AV :=
  match aindexAddr T t p n with
  | some r => match tget T t with
    | some i => match i.kind with
      | .slice e => match tget T e with
        | some ei => if keySize h p ei.size = true then some r else none
        | none => none
      | _ => some r
    | none => none
  | none => none
theorem indexAddr_ok {T : Tab} (hT : TOk P T) {s : AS} {o : Oper} {t : Nat} {x y : Operand} (ho : o.op = .indexAddr t x y) {p p' : AV} {k : IntKind} {n : Int} (hx : aev s.env x = some p) (hy : aev s.env y = some (.int k n))
    (h : aindexAddr' T s.heap t p n = some p') : RunsTo P s o (.pure p') :=
  .pure fun a w ok μ hr => by
    have hv := aev_rel hr hx
    have hn := eval_int (aev_rel hr hy)
    unfold aindexAddr' at h
    split at h
    case h_2 => cases h
    rename_i r hr0
    unfold aindexAddr at hr0
    split at hr0
    case h_2 => cases hr0
    rename_i i ht
    rw [ht] at h
    simp only at h
    have hk := (hT.facts ht).kind
    split at hr0
    · rename_i len e hi
      rw [hi] at hk h
      simp only at h hk
      injection h with h; subst h
      split at hr0
      · rename_i ei hei
        split at hr0
        · rename_i hb
          obtain ⟨b, z, h1, h2⟩ := pstep_rel hr0 hv
          refine ⟨_, ?_, h2⟩
          unfold execOp
          simp only [ho, hn, h1, Instr.indexAt, asIntOf, Sem.run_bind, Sem.run_pure, Result.andThen_ok, run_underlying hk, Instr.sureAddr, (hT.facts hei).run_sizeOf]
          rw [if_pos hb]
          simp [addr_add, (hT.facts hei).run_sizeOf]
        · cases hr0
      · cases hr0
    · rename_i e hi
      rw [hi] at hk h
      simp only at h hk
      split at hr0
      · rename_i ei hei
        rw [hei] at h
        simp only at h
        split at h
        · rename_i hks
          injection h with h; subst h
          split at hr0
          · rename_i rows
            split at hr0
            · rename_i r' hrow
              split at hr0
              · rename_i hb
                injection hr0 with hr0; subst hr0
                obtain ⟨hj, rfl⟩ := List.getElem?_eq_some_iff.1 hrow
                generalize he : a.eval x = u at hv
                cases hv with
                | lst _ _ A cap sz us h1 h2 hs hc hrr =>
                  obtain ⟨b, off, rfl, hb1, hcs⟩ := hc (by omega)
                  have hsz : sz = ei.size := by rw [← hb.2, hs _ hj]
                  refine ⟨.pointer (some ⟨b, off + n.toNat * ei.size, none⟩), ?_, ?_⟩
                  · unfold execOp
                    simp only [ho, hn, he, Instr.indexAt, asIntOf, Sem.run_bind, Sem.run_pure, Result.andThen_ok, run_underlying hk, (hT.facts hei).run_sizeOf]
                    rw [if_pos ⟨hb.1, by omega⟩]
                    simp [addr_add, (hT.facts hei).run_sizeOf]
                  · refine .vptr _ _ b _ (us n.toNat) hb1 (fun q hq => ?_) (fun q hq => hrr _ hj q hq)
                    rw [hs _ hj] at hq
                    have := hcs n.toNat hj q hq
                    rw [hsz] at this
                    rw [Nat.add_assoc]; exact this
              · cases hr0
            · cases hr0
          · rename_i k' j len
            split at hr0
            · rename_i hb
              injection hr0 with hr0; subst hr0
              simp only [keySize] at hks
              split at hks
              · rename_i ob hob
                have hsz : ob.sz = ei.size := by simpa using hks
                generalize he : a.eval x = u at hv
                cases hv with
                | osl _ _ _ _ b sz cap hm h1 h2 hs =>
                  have hsz' : sz = ob.sz := by
                    rcases hr.wf.obj k' ob hob with ⟨b', cs, g1, _⟩ | ⟨_, g1⟩
                    · rw [hm] at g1; injection g1 with g1; injection g1
                    · rw [hm] at g1; cases g1
                  refine ⟨.pointer (some ⟨b, (j + n.toNat) * sz + 0, none⟩), ?_, .ptr _ _ _ _ _ _ hm⟩
                  unfold execOp
                  simp only [ho, hn, he, Instr.indexAt, asIntOf, Sem.run_bind, Sem.run_pure, Result.andThen_ok, run_underlying hk, (hT.facts hei).run_sizeOf]
                  rw [if_pos hb]
                  simp only [addr_add, (hT.facts hei).run_sizeOf, Sem.run_bind, Result.andThen_ok, Sem.run_pure]
                  rw [← hsz, ← hsz', Nat.add_mul, Nat.add_zero]
                | osl0 => omega
              · cases hks
            · cases hr0
          · cases hr0
        · cases h
      · cases hr0
    · cases hr0

/-! ### len, min -/
def alen : AV → Option Int
  | .lst rows => some rows.length
  | .osl _ _ len => some len
  | .esl => some 0
  | _ => none
theorem alen_rel {w : World} {ok : Nat → Prop} {μ : Mu} {p : AV} {n : Int} (h : alen p = some n) {v : Value} (hv : VRel w ok μ p v) : ∃ (A : Option Addr) (len cap : Nat), v = .slice A len cap ∧ (len : Int) = n := by
  cases hv with
  | lst _ rows A cap => injection h with h; exact ⟨A, _, cap, rfl, h⟩
  | osl => injection h with h; exact ⟨_, _, _, rfl, h⟩
  | osl0 => injection h with h; exact ⟨_, _, _, rfl, h⟩
  | esl => injection h with h; exact ⟨_, _, _, rfl, by simpa using h⟩
  | _ => cases h
theorem len_ok {T : Tab} (hT : TOk P T) {s : AS} {o : Oper} {t : Nat} {x : Operand} (ho : o.op = .call { callee := .builtin .len, args := #[x], argTypes := #[t] }) {i : TI} {e : Nat} (ht : tget T t = some i) (hi : i.kind = .slice e) {p : AV} {n : Int}
    (hx : aev s.env x = some p) (h : alen p = some n) : RunsTo P s o (.pure (.int .i64 n)) :=
  .pure fun a w ok μ hr => by
    obtain ⟨A, len, cap, h1, h2⟩ := alen_rel h (aev_rel hr hx)
    have hk := (hT.facts ht).kind
    rw [hi] at hk
    refine ⟨.int .i64 len, ?_, by rw [h2]; exact .int _ _ _⟩
    unfold execOp
    simp [ho, resolve, invoke, builtin, Builtin.len_, h1, run_underlying hk, goInt]
theorem min_ok {s : AS} {o : Oper} {ts : Array TypeId} {x y : Operand} (ho : o.op = .call { callee := .builtin .min, args := #[x, y], argTypes := ts }) {k : IntKind} {a b : Int}
    (hx : aev s.env x = some (.int k a)) (hy : aev s.env y = some (.int k b)) : RunsTo P s o (.pure (.int k (if b < a then b else a))) :=
  .pure fun ac w ok μ hr => ⟨_, by
    unfold execOp
    simp [ho, resolve, invoke, builtin, Builtin.min_, Builtin.min2, eval_int (aev_rel hr hx), eval_int (aev_rel hr hy)], .int _ _ _⟩
end Go.Qd
set_option linter.unusedVariables false
set_option linter.unusedSimpArgs false
namespace Go.Qd
open Go Go.RowKit
variable {P : Program}

/-! ### A piece of a slice -/
def inB (l h m n : Int) : Bool := decide (0 ≤ l) && decide (l ≤ h) && decide (h ≤ m) && decide (m ≤ n)
def aslice (h : Heap) (sz : Nat) (p : AV) (lo hi mx : Option Int) : Option AV :=
  match alen p with
  | some n => if inB (lo.getD 0) (hi.getD n) (mx.getD n) n = true && (mx.isNone || hi.isSome) then
      match p with
      | .esl => some .esl
      | .lst rows => if mx = some (lo.getD 0) then some .esl else if rows.all (fun r => r.length == sz) = true then some (.lst ((rows.drop (lo.getD 0).toNat).take ((hi.getD n).toNat - (lo.getD 0).toNat))) else none
      | .osl k j len => if mx = some (lo.getD 0) then some .esl else if hi.getD n = lo.getD 0 then some (.lst []) else
          if keySize h p sz = true then some (.osl k (j + (lo.getD 0).toNat) ((hi.getD n).toNat - (lo.getD 0).toNat)) else none
      | _ => none
    else none
  | none => none
theorem lst_nil {w : World} {ok : Nat → Prop} {μ : Mu} {A : Option Addr} {cap : Nat} (h : cap ≤ maxLen) : VRel w ok μ (.lst []) (.slice A 0 cap) :=
  .lst _ _ _ _ 0 (fun _ _ => Go.undef) (Nat.zero_le _) h (fun j hj => by cases hj) (fun h => by cases h) (fun j hj => by cases hj)
theorem bound_run {k : IntKind} {i : Int} {y : Nat} {c : BoundsCode} (h0 : 0 ≤ i) (h1 : i ≤ y) (w : World) : (Instr.sliceBound (.int k i) y c).run P w = .ok i.toNat w := by
  unfold Instr.sliceBound
  simp only [asIntOf, Sem.run_bind, Sem.run_pure, Result.andThen_ok]
  rw [if_pos ⟨h0, h1⟩]; rfl
/-- An index that may be missing. -/
def aopt (env : Env) : Option Operand → Option (Option Int)
  | none => some none
  | some x => match aev env x with
    | some (.int _ n) => some (some n)
    | _ => none
theorem aopt_spec {s : AS} {a : Act} {w : World} {ok : Nat → Prop} {μ : Mu} (hr : Rel s a w ok μ) {x : Option Operand} {n : Option Int} (h : aopt s.env x = some n) :
    (x = none ∧ n = none) ∨ ∃ y k i, x = some y ∧ n = some i ∧ a.eval y = .int k i := by
  cases x with
  | none => simp only [aopt, Option.some.injEq] at h; exact .inl ⟨rfl, h.symm⟩
  | some y =>
    simp only [aopt] at h
    split at h
    · rename_i k i he
      injection h with h
      exact .inr ⟨y, k, i, rfl, h.symm, eval_int (aev_rel hr he)⟩
    · cases h
theorem bounds_run {lo hi mx : Option Value} {l h : Int} {m : Option Int} {len cap : Nat} (hl : (lo = none ∧ l = 0) ∨ ∃ k, lo = some (.int k l)) (hh : (hi = none ∧ h = len ∧ mx = none) ∨ ∃ k, hi = some (.int k h))
    (hm : (mx = none ∧ m = none) ∨ ∃ k i, mx = some (.int k i) ∧ m = some i) (hb : inB l h (m.getD len) len = true) (hc : len ≤ cap) (w : World) :
    (Instr.sliceBounds true len cap lo hi mx).run P w = .ok (l.toNat, h.toNat, (m.map Int.toNat).getD cap) w := by
  unfold inB at hb
  simp only [Bool.and_eq_true, decide_eq_true_eq] at hb
  obtain ⟨⟨⟨h1, h2⟩, h3⟩, h4⟩ := hb
  unfold Instr.sliceBounds
  rcases hm with ⟨rfl, rfl⟩ | ⟨k, i, rfl, rfl⟩
  · simp only [Option.getD_none] at h3 h4
    rcases hh with ⟨rfl, rfl, _⟩ | ⟨kh, rfl⟩
    · rcases hl with ⟨rfl, rfl⟩ | ⟨kl, rfl⟩
      · simp
      · simp only [Sem.run_bind, Sem.run_pure, Result.andThen_ok, bound_run h1 h2]; simp
    · rcases hl with ⟨rfl, rfl⟩ | ⟨kl, rfl⟩
      · simp only [Sem.run_bind, Sem.run_pure, Result.andThen_ok, bound_run (show 0 ≤ h by omega) (show h ≤ (cap : Int) by omega)]; simp
      · simp only [Sem.run_bind, Sem.run_pure, Result.andThen_ok, bound_run (show 0 ≤ h by omega) (show h ≤ (cap : Int) by omega), bound_run h1 (show l ≤ (h.toNat : Int) by omega)]; rfl
  · simp only [Option.getD_some] at h3 h4
    rcases hh with ⟨_, _, h⟩ | ⟨kh, rfl⟩
    · cases h
    · rcases hl with ⟨rfl, rfl⟩ | ⟨kl, rfl⟩
      · simp only [Sem.run_bind, Sem.run_pure, Result.andThen_ok, bound_run (show 0 ≤ i by omega) (show i ≤ (cap : Int) by omega), bound_run (show 0 ≤ h by omega) (show h ≤ (i.toNat : Int) by omega)]; simp
      · simp only [Sem.run_bind, Sem.run_pure, Result.andThen_ok, bound_run (show 0 ≤ i by omega) (show i ≤ (cap : Int) by omega), bound_run (show 0 ≤ h by omega) (show h ≤ (i.toNat : Int) by omega), bound_run h1 (show l ≤ (h.toNat : Int) by omega)]; rfl
theorem slice_ok {T : Tab} (hT : TOk P T) {s : AS} {o : Oper} {t : Nat} {x : Operand} {lo hi mx : Option Operand} (ho : o.op = .slice t x lo hi mx) {i ei : TI} {e : Nat} (ht : tget T t = some i) (hi' : i.kind = .slice e) (he : tget T e = some ei)
    {p p' : AV} {l h m : Option Int} (hx : aev s.env x = some p) (hl : aopt s.env lo = some l) (hh : aopt s.env hi = some h) (hm : aopt s.env mx = some m) (hs : aslice s.heap ei.size p l h m = some p') : RunsTo P s o (.pure p') :=
  .pure fun a w ok μ hr => by
    have hv := aev_rel hr hx
    have hk := (hT.facts ht).kind
    rw [hi'] at hk
    unfold aslice at hs
    split at hs
    case h_2 => cases hs
    rename_i n hn
    split at hs
    case isFalse => cases hs
    rename_i hcond
    simp only [Bool.and_eq_true, Bool.or_eq_true, decide_eq_true_eq] at hcond
    obtain ⟨hin, hmh⟩ := hcond
    obtain ⟨A, len, cap, e1, e2⟩ := alen_rel hn hv
    subst e2
    have hcap : len ≤ cap ∧ cap ≤ maxLen := by
      rw [e1] at hv
      cases hv with
      | lst _ rows _ _ sz us h1 h2 => exact ⟨h1, h2⟩
      | osl _ _ _ _ b sz _ hm' h1 h2 hs' => exact ⟨h1, h2⟩
      | osl0 => exact ⟨Nat.le_refl _, Nat.zero_le _⟩
      | esl => exact ⟨Nat.le_refl _, Nat.zero_le _⟩
      | undef => cases hn
      | osc => cases hn
    have hbr := bounds_run (P := P) (lo := lo.map a.eval) (hi := hi.map a.eval) (mx := mx.map a.eval) (l := l.getD 0) (h := h.getD len) (m := m) (len := len) (cap := cap)
      (by rcases aopt_spec hr hl with ⟨rfl, rfl⟩ | ⟨y, k, j, rfl, rfl, h3⟩
          · exact .inl ⟨rfl, rfl⟩
          · exact .inr ⟨k, by simp [h3]⟩)
      (by rcases aopt_spec hr hh with ⟨rfl, rfl⟩ | ⟨y, k, j, rfl, rfl, h3⟩
          · refine .inl ⟨rfl, rfl, ?_⟩
            rcases hmh with h4 | h4
            · rcases aopt_spec hr hm with ⟨rfl, rfl⟩ | ⟨y, k, j, rfl, rfl, h3⟩
              · rfl
              · cases h4
            · cases h4
          · exact .inr ⟨k, by simp [h3]⟩)
      (by rcases aopt_spec hr hm with ⟨rfl, rfl⟩ | ⟨y, k, j, rfl, rfl, h3⟩
          · exact .inl ⟨rfl, rfl⟩
          · exact .inr ⟨k, j, by simp [h3], rfl⟩) hin hcap.1 w
    obtain ⟨mc, hmc⟩ : ∃ mc : Nat, mc = (m.map Int.toNat).getD cap := ⟨_, rfl⟩
    rw [← hmc] at hbr
    obtain ⟨L, hL⟩ : ∃ L, L = l.getD 0 := ⟨_, rfl⟩
    obtain ⟨H, hH⟩ : ∃ H, H = h.getD (len : Int) := ⟨_, rfl⟩
    rw [← hL, ← hH] at hbr hs hin
    have hnum : 0 ≤ L ∧ L ≤ H ∧ H.toNat ≤ mc ∧ mc ≤ cap ∧ H ≤ len := by
      unfold inB at hin
      simp only [Bool.and_eq_true, decide_eq_true_eq] at hin
      obtain ⟨⟨⟨h1, h2⟩, h3⟩, h4⟩ := hin
      cases m with
      | none => simp only [Option.getD_none, Option.map_none] at h3 h4 hmc; omega
      | some i => simp only [Option.getD_some, Option.map_some] at h3 h4 hmc; omega
    obtain ⟨n1, n2, n3, n4, n5⟩ := hnum
    refine ⟨.slice (if mc = L.toNat then A else A.map (·.add (L.toNat * ei.size))) (H.toNat - L.toNat) (mc - L.toNat), ?_, ?_⟩
    · unfold execOp
      simp only [ho, e1, Instr.sliceAt, Instr.slice, Sem.run_bind, run_underlying hk, Result.andThen_ok, hbr, (hT.facts he).run_sizeOf, Sem.run_pure]
    · rw [e1] at hv
      have hml : m = some L → mc = L.toNat ∧ H.toNat = L.toNat := by
        intro e
        subst e
        simp only [Option.getD_some, Option.map_some] at hmc
        omega
      cases hv with
      | undef => cases hn
      | osc => cases hn
      | esl =>
        simp only at hs
        injection hs with hs; subst hs
        have : mc - L.toNat = 0 := by omega
        have h2 : H.toNat - L.toNat = 0 := by omega
        rw [this, h2]; exact .esl _ _
      | osl0 _ k j =>
        simp only at hs
        have hz : mc - L.toNat = 0 ∧ H.toNat - L.toNat = 0 := by omega
        rw [hz.1, hz.2]
        split at hs
        · injection hs with hs; subst hs; exact .esl _ _
        · split at hs
          · injection hs with hs; subst hs; exact lst_nil (Nat.zero_le _)
          · omega
      | lst _ rows _ _ sz us h1 h2 hsz hc hrr =>
        simp only at hs
        split at hs
        · rename_i e
          injection hs with hs; subst hs
          obtain ⟨g1, g2⟩ := hml e
          rw [g1, g2, Nat.sub_self]; exact .esl _ _
        · split at hs
          · rename_i hall
            injection hs with hs; subst hs
            have hlen : ((rows.drop L.toNat).take (H.toNat - L.toNat)).length = H.toNat - L.toNat := by simp; omega
            have hsz' : ∀ j (hj : j < rows.length), sz = ei.size := fun j hj => by
              rw [List.all_eq_true] at hall
              have := hall _ (List.getElem_mem hj)
              rw [hsz j hj] at this; simpa using this
            have hv := VRel.lst (w := w) (ok := ok) μ ((rows.drop L.toNat).take (H.toNat - L.toNat)) (if mc = L.toNat then A else A.map (·.add (L.toNat * ei.size))) (mc - L.toNat) sz (fun j q => us (L.toNat + j) q)
              (by rw [hlen]; omega) (by omega) (fun j hj => by
                rw [hlen] at hj
                have := hsz (L.toNat + j) (by omega)
                simpa using this) (fun hp => by
                rw [hlen] at hp
                obtain ⟨b, off, rfl, hb, hcs⟩ := hc (by omega)
                rw [if_neg (by omega)]
                refine ⟨b, off + L.toNat * ei.size, by simp [addr_add], hb, fun j hj q hq => ?_⟩
                rw [hlen] at hj
                have := hcs (L.toNat + j) (by omega) q hq
                rw [← this, ← hsz' (L.toNat + j) (by omega), Nat.add_mul]
                congr 2; omega) (fun j hj q hq => by
                have hj2 := hj
                rw [hlen] at hj2
                have := hrr (L.toNat + j) (by omega) q (by simpa using hq)
                simpa using this)
            rw [hlen] at hv
            exact hv
          · cases hs
      | osl _ k j _ b sz _ hm' h1 h2 hs' =>
        simp only at hs
        split at hs
        · rename_i e
          injection hs with hs; subst hs
          obtain ⟨g1, g2⟩ := hml e
          rw [g1, g2, Nat.sub_self]; exact .esl _ _
        · split at hs
          · rename_i e
            injection hs with hs; subst hs
            rw [e, Nat.sub_self]; exact lst_nil (by omega)
          · rename_i e
            split at hs
            · rename_i hks
              injection hs with hs; subst hs
              simp only [keySize] at hks
              split at hks
              · rename_i ob hob
                have hsz : ob.sz = ei.size := by simpa using hks
                have hsz' : sz = ob.sz := by
                  rcases hr.wf.obj k ob hob with ⟨b', cs, g1, _⟩ | ⟨_, g1⟩
                  · rw [hm'] at g1; injection g1 with g1; injection g1
                  · rw [hm'] at g1; cases g1
                rw [if_neg (by omega)]
                simp only [Option.map_some, addr_add]
                rw [← hsz, ← hsz', ← Nat.add_mul]
                refine .osl _ _ _ _ _ _ _ hm' (by omega) (by omega) ?_
                obtain ⟨cs, ty, g1, g2⟩ := hs'
                refine ⟨cs, ty, g1, Nat.le_trans (Nat.mul_le_mul_right _ ?_) g2⟩
                omega
              · cases hks
            · cases hs
end Go.Qd
set_option linter.unusedVariables false
set_option linter.unusedSimpArgs false
namespace Go.Qd
open Go Go.RowKit
variable {P : Program}

/-! ### Putting values together -/
theorem fold_set (vs : List Value) : ∀ (n off : Nat) (cs : Array Value) (z : Nat), ((vs.zipIdx n).foldl (fun (cs : Array Value) (x : Value × Nat) => cs.setIfInBounds (off + x.2) x.1) cs)[z]? =
    if off + n ≤ z ∧ z < off + n + vs.length ∧ z < cs.size then vs[z - (off + n)]? else cs[z]? := by
  induction vs with
  | nil => intro n off cs z; rw [if_neg (by simp; omega)]; rfl
  | cons v r ih =>
    intro n off cs z
    simp only [List.zipIdx_cons, List.foldl_cons]
    rw [ih]
    simp only [Array.size_setIfInBounds, List.length_cons]
    by_cases h1 : off + (n + 1) ≤ z ∧ z < off + (n + 1) + r.length ∧ z < cs.size
    · rw [if_pos h1, if_pos (by omega)]
      rw [show z - (off + n) = (z - (off + (n + 1))) + 1 by omega, List.getElem?_cons_succ]
    · rw [if_neg h1]
      by_cases h2 : z = off + n
      · subst h2
        by_cases h3 : off + n < cs.size
        · rw [if_pos (by omega)]; simp [h3]
        · rw [if_neg (by omega)]; simp [h3]
      · rw [if_neg (by omega), Array.getElem?_setIfInBounds_ne (by omega)]
theorem fold_size (vs : List Value) : ∀ (n off : Nat) (cs : Array Value), ((vs.zipIdx n).foldl (fun (cs : Array Value) (x : Value × Nat) => cs.setIfInBounds (off + x.2) x.1) cs).size = cs.size := by
  induction vs with
  | nil => intros; rfl
  | cons v r ih => intro n off cs; simp only [List.zipIdx_cons, List.foldl_cons]; rw [ih]; simp
def afill (place : Nat → Option (Nat × Nat)) : List AV → List (Nat × AV) → Option (List AV)
  | cells, [] => some cells
  | cells, (i, v) :: r => match place i, cellsOf v with
    | some (off, size), some cs => if cs.length = size ∧ off + size ≤ cells.length then afill place (splice cells off cs) r else none
    | _, _ => none
structure PartsRel (w : World) (ok : Nat → Prop) (μ : Mu) (l : List (Nat × AV)) (vs : List (Nat × Value)) : Prop where
  len : l.length = vs.length
  at_ : ∀ i (h1 : i < l.length) (h2 : i < vs.length), l[i].1 = vs[i].1 ∧ VRel w ok μ l[i].2 vs[i].2
theorem fill_rel {w : World} {ok : Nat → Prop} {μ : Mu} {place place' : Nat → Option (Nat × Nat)} (hp : ∀ i x, place i = some x → place' i = some x) :
    ∀ {parts : List (Nat × AV)} {vs : List (Nat × Value)} {cells res : List AV} {cs : Array Value}, PartsRel w ok μ parts vs → VRels w ok μ cells cs.toList → afill place cells parts = some res →
    ∃ cs', Instr.fill place' cs vs = some cs' ∧ VRels w ok μ res cs'.toList := by
  intro parts
  induction parts with
  | nil =>
    intro vs cells res cs hpr hc h
    cases vs with
    | nil => simp only [afill, Option.some.injEq] at h; subst h; exact ⟨cs, rfl, hc⟩
    | cons => have := hpr.len; simp at this
  | cons p r ih =>
    intro vs cells res cs hpr hc h
    obtain ⟨i, v⟩ := p
    cases vs with
    | nil => have := hpr.len; simp at this
    | cons u s =>
      obtain ⟨j, u⟩ := u
      obtain ⟨h1, h2⟩ := hpr.at_ 0 (by simp) (by simp)
      simp only [List.getElem_cons_zero] at h1 h2
      subst h1
      simp only [afill] at h
      split at h
      · rename_i off size new hpl hnew
        split at h
        · rename_i hcond
          obtain ⟨c1, c2⟩ := hcond
          obtain ⟨hv, _⟩ := cellsOf_rel h2 hnew
          have hlen : new.length = u.cells.size := by have := hv.len; simpa using this
          have hcl : cells.length = cs.size := by have := hc.len; simpa using this
          obtain ⟨cs1, hcs1⟩ : ∃ cs1, cs1 = (u.cells.toList.zipIdx).foldl (fun (cs : Array Value) (x : Value × Nat) => cs.setIfInBounds (off + x.2) x.1) cs := ⟨_, rfl⟩
          have hcs1' : u.cells.zipIdx.foldl (fun cs (c, j) => cs.setIfInBounds (off + j) c) cs = cs1 := by
            rw [hcs1, ← Array.foldl_toList, Array.toList_zipIdx]
          have hrel : VRels w ok μ (splice cells off new) cs1.toList := by
            have hsz : cs1.size = cs.size := by rw [hcs1]; exact fold_size _ _ _ _
            refine ⟨by rw [splice_length (by omega)]; simp; omega, fun z g1 g2 => ?_⟩
            have hzl : z < cells.length := by rw [splice_length (by omega)] at g1; exact g1
            have hz : cs1[z]? = if off + 0 ≤ z ∧ z < off + 0 + u.cells.toList.length ∧ z < cs.size then u.cells.toList[z - (off + 0)]? else cs[z]? := by rw [hcs1]; exact fold_set _ 0 off cs z
            have hz' : cs1.toList[z]? = some cs1.toList[z] := List.getElem?_eq_getElem g2
            rw [Array.getElem?_toList] at hz'
            rw [splice_get (by omega)]
            rw [hz'] at hz
            by_cases c : off ≤ z ∧ z < off + new.length
            · rw [dif_pos c]
              rw [if_pos (by simp; omega), Nat.add_zero] at hz
              have hi : z - off < u.cells.toList.length := by simp; omega
              rw [List.getElem?_eq_getElem hi] at hz
              injection hz with hz; rw [hz]
              exact hv.at_ _ (by omega) hi
            · rw [dif_neg c]
              rw [if_neg (by simp; omega)] at hz
              have hi : z < cs.toList.length := by simp; omega
              rw [← Array.getElem?_toList, List.getElem?_eq_getElem hi] at hz
              injection hz with hz; rw [hz]
              exact hc.at_ z hzl hi
          obtain ⟨cs', g1, g2⟩ := ih (vs := s) (cs := cs1) ⟨by have := hpr.len; simpa using this, fun i a1 a2 => hpr.at_ (i + 1) (by simpa using a1) (by simpa using a2)⟩ hrel h
          refine ⟨cs', ?_, g2⟩
          simp only [Instr.fill, hp _ _ hpl]
          rw [if_neg (by simp; omega), hcs1']
          exact g1
        · cases h
      · cases h
def aparts (env : Env) : List (Nat × Operand) → Option (List (Nat × AV))
  | [] => some []
  | (i, x) :: r => match aev env x, aparts env r with
    | some v, some l => some ((i, v) :: l)
    | _, _ => none
theorem aparts_rel {s : AS} {a : Act} {w : World} {ok : Nat → Prop} {μ : Mu} (hr : Rel s a w ok μ) {xs : List (Nat × Operand)} {l : List (Nat × AV)} (h : aparts s.env xs = some l) :
    PartsRel w ok μ l (xs.map fun (i, x) => (i, a.eval x)) := by
  induction xs generalizing l with
  | nil => simp only [aparts, Option.some.injEq] at h; subst h; exact ⟨rfl, fun i h1 => by cases h1⟩
  | cons x r ih =>
    obtain ⟨i, x⟩ := x
    simp only [aparts] at h
    split at h
    · rename_i v l' h1 h2
      injection h with h; subst h
      have := ih h2
      refine ⟨by have := this.len; simpa using this, fun j g1 g2 => ?_⟩
      cases j with
      | zero => exact ⟨rfl, aev_rel hr h1⟩
      | succ j =>
        have := this.at_ j (by simpa using g1) (by simpa using g2)
        simpa using this
    · cases h
def aplace (T : Tab) (i : TI) : Nat → Option (Nat × Nat) := fun n =>
  match i.kind with
  | .struct fs => (fs[n]?).map fun x => (x.1, x.2.1)
  | .array _ e => match tget T e with
    | some ei => some (n * ei.size, ei.size)
    | none => none
  | _ => none
def abuild (T : Tab) (t : Nat) (parts : List (Nat × AV)) : Option AV :=
  match tget T t with
  | some i => match i.kind with
    | .struct _ => (afill (aplace T i) i.zero parts).map .agg
    | .array _ e => match tget T e with
      | some _ => (afill (aplace T i) i.zero parts).map .agg
      | none => none
    | _ => none
  | none => none
theorem checkFields_places : ∀ {fs' : List (Nat × Nat × Bool)} {fs : List Field}, checkFields P fs' fs = true → fs.mapM (fun f => (P.info? f.type).map fun i => (f.offset, i.size)) = some (fs'.map fun x => (x.1, x.2.1)) := by
  intro fs'
  induction fs' with
  | nil => intro fs h; cases fs with
    | nil => rfl
    | cons => cases h
  | cons y r ih =>
    intro fs h
    obtain ⟨off, size, ag⟩ := y
    cases fs with
    | nil => cases h
    | cons g s =>
      simp only [checkFields, Bool.and_eq_true, decide_eq_true_eq] at h
      obtain ⟨⟨⟨⟨h1, h2⟩, h3⟩, h4⟩, h5⟩ := h
      obtain ⟨ti, e1, e2⟩ := Option.map_eq_some_iff.1 h2
      simp [List.mapM_cons, e1, ih h5, h1, e2]
theorem build_ok {T : Tab} (hT : TOk P T) {s : AS} {o : Oper} {t : Nat} {ps : Array (Nat × Operand)} (ho : o.op = .build t ps) {l : List (Nat × AV)} (hx : aparts s.env ps.toList = some l) {av : AV} (h : abuild T t l = some av) : RunsTo P s o (.pure av) :=
  .pure fun a w ok μ hr => by
    unfold abuild at h
    split at h
    case h_2 => cases h
    rename_i i ht
    have hf := hT.facts ht
    obtain ⟨⟨j, z, hj, hjs, hjb, hjz, hzz⟩, hk, _⟩ := hf
    have hpr := aparts_rel hr hx
    have hmap : (ps.map fun (i, x) => (i, a.eval x)).toList = ps.toList.map fun (i, x) => (i, a.eval x) := by simp
    have hz : VRels w ok μ i.zero z.cells.toList := sameZs_rel hzz
    have fin : ∀ place', (∀ n x, aplace T i n = some x → place' n = some x) → ∀ res, afill (aplace T i) i.zero l = some res → (∀ cs', Instr.fill place' z.cells (ps.map fun (i, x) => (i, a.eval x)).toList = some cs' → P.built t (ps.map fun (i, x) => (i, a.eval x)).toList = some cs') →
        ∃ v, (execOp a.eval o).run P w = .ok (.value v) w ∧ VRel w ok μ (.agg res) v := by
      intro place' hp res hres hb
      obtain ⟨cs', g1, g2⟩ := fill_rel hp (cs := z.cells) hpr hz hres
      rw [← hmap] at g1
      refine ⟨.agg cs', ?_, .agg _ _ _ (by have := g2.len; simpa using this) (fun q h1 h2 => by have := g2.at_ q h1 (by simpa using h2); simpa using this)⟩
      unfold execOp
      simp only [ho, Sem.run_bind, run_build (P := P) w t _ cs' (hb cs' g1), Result.andThen_ok, Sem.run_pure]
    split at h
    · rename_i fs hi
      obtain ⟨res, hres, rfl⟩ := Option.map_eq_some_iff.1 h
      rw [hi] at hk
      obtain ⟨fields, hu, hcf⟩ := hk
      refine fin ((fs.map fun x => (x.1, x.2.1)).toArray[·]?) (fun n x hn => ?_) res hres (fun cs' hcs => ?_)
      · simp only [aplace, hi] at hn
        simpa using hn
      · simp only [Program.built, hj, hu, hjz, checkFields_places hcf]
        exact hcs
    · rename_i n e hi
      split at h
      · rename_i ei hei
        obtain ⟨res, hres, rfl⟩ := Option.map_eq_some_iff.1 h
        rw [hi] at hk
        obtain ⟨⟨je, ze, hje, hjse, _⟩, _, _⟩ := hT.facts hei
        refine fin (fun n => some (n * je.size, je.size)) (fun n x hn => ?_) res hres (fun cs' hcs => ?_)
        · simp only [aplace, hi, hei] at hn
          rw [hjse]; exact hn
        · simp only [Program.built, hj, hk, hjz, hje]
          exact hcs
      · cases h
    · cases h
end Go.Qd
set_option linter.unusedVariables false
set_option linter.unusedSimpArgs false
namespace Go.Qd
open Go Go.RowKit
variable {P : Program}

theorem div_row {sz : Nat} (hs : 0 < sz) (j q : Nat) (hq : q < sz) : (j * sz + q) / sz = j ∧ (j * sz + q) % sz = q := by
  constructor
  · rw [Nat.add_comm, Nat.add_mul_div_right _ _ hs, Nat.div_eq_of_lt hq, Nat.zero_add]
  · rw [Nat.add_comm, Nat.add_mul_mod_self_right, Nat.mod_eq_of_lt hq]
theorem row_lt {sz n j q : Nat} (hj : j < n) (hq : q < sz) : j * sz + q < n * sz := by
  have : (j + 1) * sz ≤ n * sz := Nat.mul_le_mul_right _ hj
  have e : (j + 1) * sz = j * sz + sz := Nat.succ_mul _ _
  omega
theorem row_apart {sz i j q : Nat} (h : i ≠ j) (hq : q < sz) : ¬ (i * sz ≤ j * sz + q ∧ j * sz + q < i * sz + sz) := by
  rcases Nat.lt_or_gt_of_ne h with hlt | hlt
  · have : (i + 1) * sz ≤ j * sz := Nat.mul_le_mul_right _ hlt
    have e : (i + 1) * sz = i * sz + sz := Nat.succ_mul _ _
    omega
  · have : (j + 1) * sz ≤ i * sz := Nat.mul_le_mul_right _ hlt
    have e : (j + 1) * sz = j * sz + sz := Nat.succ_mul _ _
    omega
theorem RowsRel.set {w : World} {ok : Nat → Prop} {μ : Mu} {sz : Nat} {rows : List (List AV)} {cs : Array Value} (h : RowsRel w ok μ sz rows cs) {i : Nat} {new : List AV} {vs : List Value} (hv : VRels w ok μ new vs) (hn : new.length = sz)
    {cs' : Array Value} (hget : ∀ z, z < rows.length * sz → cs'[z]? = if i * sz ≤ z ∧ z < i * sz + sz then vs[z - i * sz]? else cs[z]?) : RowsRel w ok μ sz (rows.set i new) cs' := by
  refine ⟨fun j hj => ?_, fun j hj q hq => ?_⟩
  · rw [List.getElem_set]
    split
    · exact hn
    · exact h.len j (by simpa using hj)
  · have hj2 : j < rows.length := by simpa using hj
    by_cases e : i = j
    · subst e
      have hval : (rows.set i new)[i] = new := by simp
      have hq2 : q < new.length := by rw [hval] at hq; exact hq
      rw [hget _ (row_lt hj2 (by omega)), if_pos (by omega), show i * sz + q - i * sz = q by omega]
      have hq3 : q < vs.length := by rw [← hv.len]; exact hq2
      refine ⟨vs[q], List.getElem?_eq_getElem hq3, ?_⟩
      have : (rows.set i new)[i][q] = new[q] := by simp
      rw [this]; exact hv.at_ q hq2 hq3
    · have hval : (rows.set i new)[j] = rows[j] := by rw [List.getElem_set, if_neg e]
      have hq2 : q < rows[j].length := by rw [hval] at hq; exact hq
      have hq3 : q < sz := by rw [← h.len j hj2]; exact hq2
      rw [hget _ (row_lt hj2 hq3), if_neg (row_apart e hq3)]
      have : (rows.set i new)[j][q] = rows[j][q] := by simp [e]
      rw [this]; exact h.at_ j hj2 q hq2
/-- Rows of zeros. -/
theorem RowsRel.zeros {w : World} {ok : Nat → Prop} {μ : Mu} {zero : List AV} {z : Array Value} (hz : VRels w ok μ zero z.toList) (n : Nat) (hs : 0 < zero.length) :
    RowsRel w ok μ zero.length (List.replicate n zero) ((Array.range (n * zero.length)).map (z[· % z.size]!)) := by
  have hsz : z.size = zero.length := by have := hz.len; simp at this; exact this.symm
  refine ⟨fun j hj => by simp, fun j hj q hq => ?_⟩
  have hj2 : j < n := by simpa using hj
  have hq2 : q < zero.length := by simpa using hq
  have hlt := row_lt (sz := zero.length) hj2 hq2
  refine ⟨z[q]'(by omega), ?_, ?_⟩
  · simp only [Array.getElem?_map, Array.getElem?_range, hlt, if_true, Option.map_some]
    have hmod : (j * zero.length + q) % z.size = q := by rw [hsz]; exact (div_row hs j q hq2).2
    rw [hmod]
    simp [getElem!_def, Array.getElem?_eq_getElem (show q < z.size by omega)]
  · have := hz.at_ q hq2 (by simp; omega)
    simpa using this

/-! ### The rows of a slice, read -/
def arows (h : Heap) (sz : Nat) : AV → Option (List (List AV) × List Nat × Bool)
  | .lst rows => if rows.all (fun r => r.length == sz) = true then some (rows, [], true) else none
  | .osl k j len => match hget h k with
    | some o => if o.sz = sz ∧ j + len ≤ o.rows.length then some ((o.rows.drop j).take len, [k], o.closed) else none
    | none => none
  | .esl => some ([], [], true)
  | _ => none
theorem arows_rel {s : AS} {a : Act} {w : World} {ok : Nat → Prop} {μ : Mu} (hr : Rel s a w ok μ) {sz : Nat} (hs : 0 < sz) {x : AV} {rows : List (List AV)} {rd : List Nat} {cl : Bool} (h : arows s.heap sz x = some (rows, rd, cl)) {v : Value}
    (hv : VRel w ok μ x v) : ∃ (A : Option Addr) (cap : Nat) (news : Array Value), v = .slice A rows.length cap ∧ rows.length ≤ cap ∧ cap ≤ maxLen ∧ (∀ w' : World, w'.heap = w.heap → ∀ m, m ≤ rows.length → (Builtin.firstCells sz m v).run P w' = .ok (news.extract 0 (m * sz)) w') ∧
      news.size = rows.length * sz ∧ RowsRel w ok (if cl = true then mu0 else μ) sz rows news := by
  have fin : ∀ (b off : Nat) (f : Nat → Value) (n cap : Nat), (∀ z, z < n * sz → w.cell? ⟨b, off + z, none⟩ = some (f z)) → ∀ w' : World, w'.heap = w.heap → ∀ m, m ≤ n →
      (Builtin.firstCells sz m (.slice (some ⟨b, off, none⟩) n cap)).run P w' = .ok ((((List.range (n * sz)).map f).toArray).extract 0 (m * sz)) w' := by
    intro b off f n cap hf w' hw' m hm
    have hmn : m * sz ≤ n * sz := Nat.mul_le_mul_right _ hm
    have := run_loadCells (P := P) w' ⟨b, off, none⟩ (m * sz) f (fun z hz => by rw [addr_add, ← hf z (by omega)]; simp only [World.cell?, hw'])
    simp only [Builtin.firstCells]
    rw [this]
    congr 1
    apply Array.ext
    · simp [Nat.min_eq_left hm]
    · intro i h1 h2; simp at h1; simp
  unfold arows at h
  split at h
  · split at h
    · rename_i rows' hall
      injection h with h; injection h with h1 h2; injection h2 with h2 h3; subst h1 h2 h3
      cases hv with
      | lst _ _ A cap sz' us h1 h2 hsz hc hrr =>
        have hsz' : ∀ j (hj : j < rows'.length), rows'[j].length = sz := fun j hj => by
          rw [List.all_eq_true] at hall
          have := hall _ (List.getElem_mem hj)
          simpa using this
        by_cases hp : 0 < rows'.length
        · obtain ⟨b, off, rfl, hb, hcs⟩ := hc hp
          have e : sz' = sz := by rw [← hsz 0 hp, hsz' 0 hp]
          subst e
          refine ⟨_, cap, ((List.range (rows'.length * sz')).map fun z => us (z / sz') (z % sz')).toArray, rfl, h1, h2, fin b off _ _ cap (fun z hz => ?_), by simp, ⟨hsz, fun j hj q hq => ?_⟩⟩
          · have := hcs (z / sz') (by rw [Nat.div_lt_iff_lt_mul hs]; exact hz) (z % sz') (Nat.mod_lt _ hs)
            rw [Nat.mul_comm, Nat.div_add_mod] at this
            exact this
          · have hq2 : q < sz' := by rw [← hsz j hj]; exact hq
            have hlt := row_lt (sz := sz') hj hq2
            refine ⟨us j q, ?_, hrr j hj q hq⟩
            have hd := div_row hs j q hq2
            simp [hlt, hd.1, hd.2]
        · obtain rfl : rows' = [] := List.eq_nil_of_length_eq_zero (by omega)
          refine ⟨A, cap, #[], rfl, h1, h2, fun w' hw' m hm => ?_, by simp, ⟨fun j hj => (by cases hj), fun j hj => (by cases hj)⟩⟩
          simp only [List.length_nil, Nat.le_zero_eq] at hm
          subst hm
          cases A with
          | none => simp [Builtin.firstCells]
          | some ad => simp [Builtin.firstCells, loadCells, loadCellsFrom]
    · cases h
  · rename_i k j len
    split at h
    · rename_i o ho
      split at h
      · rename_i hcond
        obtain ⟨c1, c2⟩ := hcond
        injection h with h; injection h with h1 h2; injection h2 with h2 h3; subst h1 h2 h3
        have hlen : ((o.rows.drop j).take len).length = len := by simp; omega
        cases hv with
        | osl0 =>
          rename_i A
          refine ⟨A, 0, #[], by simp, by simp, by simp [maxLen], fun w' hw' m hm => ?_, by simp, ⟨fun j hj => (by simp at hj), fun j hj => (by simp at hj)⟩⟩
          simp only [List.take_zero, List.length_nil, Nat.le_zero_eq] at hm
          subst hm
          cases A with
          | none => simp [Builtin.firstCells]
          | some ad => simp [Builtin.firstCells, loadCells, loadCellsFrom]
        | osl _ _ _ _ b sz' cap hm h1 h2 hs' =>
          rcases hr.wf.obj k o ho with ⟨b', cs, g1, g2, g3, g4, g5, g6⟩ | ⟨_, g1⟩
          · rw [hm] at g1; injection g1 with g1; injection g1 with e1 e2; subst e1
            rw [c1] at e2 g3 g6; subst e2
            have hcell : ∀ z, z < len * sz' → ∃ u, cs[j * sz' + z]? = some u ∧ ∀ jj q, jj * sz' + q = z → q < sz' → ∀ hj : j + jj < o.rows.length, ∀ hq : q < o.rows[j + jj].length, VRel w ok (o.mu μ) o.rows[j + jj][q] u := by
              intro z hz
              have hj : z / sz' < len := by rw [Nat.div_lt_iff_lt_mul hs]; exact hz
              have hj2 : j + z / sz' < o.rows.length := by omega
              have hq : z % sz' < o.rows[j + z / sz'].length := by rw [g6.len _ hj2]; exact Nat.mod_lt _ hs
              obtain ⟨u, a1, a2⟩ := g6.at_ (j + z / sz') hj2 (z % sz') hq
              refine ⟨u, ?_, fun jj q e hq3 hj3 hq4 => ?_⟩
              · rw [← a1, Nat.add_mul, Nat.add_assoc, Nat.mul_comm (z / sz'), Nat.div_add_mod]
              · subst e
                have hd := div_row hs jj q hq3
                simp only [hd.1, hd.2] at a2
                exact a2
            have hf := fin b (j * sz') (fun z => (cs[j * sz' + z]?).getD Go.undef) len cap (fun z hz => by
              obtain ⟨u, a1, _⟩ := hcell z hz
              simp only [World.cell?, g2]
              rw [a1]; rfl)
            refine ⟨_, cap, ((List.range (len * sz')).map fun z => (cs[j * sz' + z]?).getD Go.undef).toArray, by rw [hlen], by rw [hlen]; exact h1, h2, by rw [hlen]; exact hf, by rw [hlen]; simp, ⟨fun jj hj => ?_, fun jj hj q hq => ?_⟩⟩
            · rw [hlen] at hj
              have := g6.len (j + jj) (by omega)
              simpa using this
            · rw [hlen] at hj
              have hjj : j + jj < o.rows.length := by omega
              have hval : ((o.rows.drop j).take len)[jj] = o.rows[j + jj] := by simp
              have hq2 : q < o.rows[j + jj].length := by rw [hval] at hq; exact hq
              have hq3 : q < sz' := by rw [← g6.len _ hjj]; exact hq2
              have hlt := row_lt (sz := sz') hj hq3
              obtain ⟨u, a1, a2⟩ := hcell _ hlt
              refine ⟨u, by simp [hlt, a1], ?_⟩
              have hval2 : ((o.rows.drop j).take len)[jj][q] = o.rows[j + jj][q] := by simp
              rw [hval2]
              exact a2 jj q rfl hq3 hjj hq2
          · rw [hm] at g1; cases g1
      · cases h
    · cases h
  · injection h with h; injection h with h1 h2; injection h2 with h2 h3; subst h1 h2 h3
    cases hv with
    | esl _ A =>
      refine ⟨A, 0, #[], rfl, Nat.le_refl _, Nat.zero_le _, fun w' hw' m hm => ?_, by simp, ⟨fun j hj => (by cases hj), fun j hj => (by cases hj)⟩⟩
      simp only [List.length_nil, Nat.le_zero_eq] at hm
      subst hm
      cases A with
      | none => simp [Builtin.firstCells]
      | some ad => simp [Builtin.firstCells, loadCells, loadCellsFrom]
  · cases h
end Go.Qd
