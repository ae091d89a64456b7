/- A part of the library of this claim: rules of an abstract machine (values in place of addresses), proved against the model, and contracts of the functions. -/
import Derived.Test.YtkenbgmadkelcaaQaA
import Derived.Laws.Append
import Derived.Laws.AppendOwn
import Derived.Laws.NewFold
import Derived.Laws.MakeOwn
import Derived.Laws.BitsLemmas
set_option linter.unusedVariables false
set_option linter.unusedSimpArgs false
namespace Go.Qd
open Go Go.RowKit
variable {P : Program}

/-! ### Rows that are stored behind one another -/
def putRows (rows : List (List AV)) (j : Nat) (new : List (List AV)) : List (List AV) := rows.take j ++ new ++ rows.drop (j + new.length)
theorem putRows_len {rows : List (List AV)} {j : Nat} {new : List (List AV)} (h : j ≤ rows.length) : (putRows rows j new).length = max rows.length (j + new.length) := by
  unfold putRows; simp only [List.length_append, List.length_take, List.length_drop]; omega
theorem putRows_get {rows : List (List AV)} {j : Nat} {new : List (List AV)} (h : j ≤ rows.length) (i : Nat) (hi : i < (putRows rows j new).length) :
    (∃ (h1 : j ≤ i) (h2 : i - j < new.length), (putRows rows j new)[i] = new[i - j]) ∨ (∃ h1 : i < rows.length, (i < j ∨ j + new.length ≤ i) ∧ (putRows rows j new)[i] = rows[i]) := by
  have hl : (rows.take j).length = j := by simp; omega
  have hlen := putRows_len (new := new) h
  unfold putRows at hi ⊢
  by_cases h1 : i < j
  · right
    refine ⟨by omega, .inl h1, ?_⟩
    rw [List.getElem_append_left (by rw [List.length_append, hl]; omega), List.getElem_append_left (by omega)]
    simp
  · by_cases h2 : i - j < new.length
    · left
      refine ⟨by omega, h2, ?_⟩
      rw [List.getElem_append_left (by rw [List.length_append, hl]; omega), List.getElem_append_right (by omega)]
      simp [hl]
    · right
      have h3 : i < rows.length := by
        simp only [List.length_append, List.length_drop, hl] at hi; omega
      refine ⟨h3, .inr (by omega), ?_⟩
      rw [List.getElem_append_right (by rw [List.length_append, hl]; omega)]
      simp only [List.getElem_drop, List.length_append, hl]
      congr 1; omega
theorem store_rows {s : AS} {a : Act} {w : World} {ok : Nat → Prop} {μ : Mu} (hr : Rel s a w ok μ) {k b j : Nat} {o : AObj} {cs news : Array Value} {cl : Bool} {new : List (List AV)}
    (ho : hget s.heap k = some o) (hm : μ k = some (b, o.sz)) (hcs : w.heap[b]? = some (.cells cs o.ty (0, 0))) (hrows : RowsRel w ok (o.mu μ) o.sz o.rows cs)
    (hj : j ≤ o.rows.length) (hfit : (j + new.length) * o.sz ≤ cs.size) (hn : news.size = new.length * o.sz) (hnew : RowsRel w ok (if cl = true then mu0 else μ) o.sz new news) (hone : ∀ v ∈ news.toList, v.oneCell' = true) :
    ∃ cs', (storeCells ⟨b, j * o.sz, none⟩ news.toList).run P w = .ok () (w.setRow b cs') ∧ cs'.size = cs.size ∧ RowsRel w ok (if (o.closed && cl) = true then mu0 else μ) o.sz (putRows o.rows j new) cs' := by
  have e : (j + new.length) * o.sz = j * o.sz + new.length * o.sz := Nat.add_mul _ _ _
  have hlen : news.toList.length = new.length * o.sz := by simpa using hn
  have hrun := run_storeCells_at (P := P) b (j * o.sz) o.ty news.toList 0 cs w hcs (by omega) hone
  rw [Nat.add_zero] at hrun
  obtain ⟨cs', hcs'⟩ : ∃ cs' : Array Value, cs' = (cs.toList.take (j * o.sz) ++ news.toList ++ cs.toList.drop (j * o.sz + news.toList.length)).toArray := ⟨_, rfl⟩
  rw [← hcs'] at hrun
  have hl1 : (cs.toList.take (j * o.sz)).length = j * o.sz := by simp; omega
  have hget : ∀ z, z < cs.size → cs'[z]? = if j * o.sz ≤ z ∧ z < j * o.sz + new.length * o.sz then news[z - j * o.sz]? else cs[z]? := by
    intro z hz
    rw [hcs', List.getElem?_toArray]
    by_cases c : j * o.sz ≤ z ∧ z < j * o.sz + new.length * o.sz
    · rw [if_pos c, List.getElem?_append_left (by rw [List.length_append, hl1]; omega), List.getElem?_append_right (by omega), hl1]; simp
    · rw [if_neg c]
      by_cases c' : z < j * o.sz
      · rw [List.getElem?_append_left (by rw [List.length_append, hl1]; omega), List.getElem?_append_left (by omega), List.getElem?_take_of_lt c']; simp
      · rw [List.getElem?_append_right (by rw [List.length_append, hl1]; omega), List.getElem?_drop]
        simp only [List.length_append, hl1]
        rw [show j * o.sz + news.toList.length + (z - (j * o.sz + news.toList.length)) = z by omega]; simp
  refine ⟨cs', hrun, by rw [hcs']; simp only [List.size_toArray, List.length_append, hl1, List.length_drop, Array.length_toList] at hlen ⊢; omega, ⟨fun i hi => ?_, fun i hi q hq => ?_⟩⟩
  · rcases putRows_get hj i hi with ⟨h1, h2, h3⟩ | ⟨h1, h2, h3⟩
    · rw [h3]; exact hnew.len _ h2
    · rw [h3]; exact hrows.len _ h1
  · have hmu1 : MuLe (o.mu μ) (if (o.closed && cl) = true then mu0 else μ) := by
      unfold AObj.mu
      cases o.closed <;> cases cl <;> first | exact MuLe.refl _ | exact mu0_le _
    have hmu2 : MuLe (if cl = true then mu0 else μ) (if (o.closed && cl) = true then mu0 else μ) := by
      cases o.closed <;> cases cl <;> first | exact MuLe.refl _ | exact mu0_le _
    rcases putRows_get hj i hi with ⟨h1, h2, h3⟩ | ⟨h1, h2, h3⟩
    · have hq2 : q < new[i - j].length := by rw [h3] at hq; exact hq
      obtain ⟨u, g1, g2⟩ := hnew.at_ _ h2 q hq2
      have hq3 : q < o.sz := by rw [← hnew.len _ h2]; exact hq2
      have hlt := row_lt (sz := o.sz) h2 hq3
      have ei : i * o.sz = j * o.sz + (i - j) * o.sz := by rw [← Nat.add_mul]; congr 1; omega
      refine ⟨u, ?_, ?_⟩
      · rw [hget _ (by omega), if_pos (by omega), ← g1]; congr 1; omega
      · have hv : (putRows o.rows j new)[i][q] = new[i - j][q] := by simp only [h3]
        rw [hv]; exact g2.mono (Kept.refl _ _) hmu2
    · have hq2 : q < o.rows[i].length := by rw [h3] at hq; exact hq
      obtain ⟨u, g1, g2⟩ := hrows.at_ _ h1 q hq2
      have hq3 : q < o.sz := by rw [← hrows.len _ h1]; exact hq2
      refine ⟨u, ?_, ?_⟩
      · have hz : i * o.sz + q < cs.size := (Array.getElem?_eq_some_iff.1 g1).1
        have hno : ¬ (j * o.sz ≤ i * o.sz + q ∧ i * o.sz + q < j * o.sz + new.length * o.sz) := by
          rcases h2 with h2 | h2
          · have := row_lt (sz := o.sz) h2 hq3; omega
          · have : (j + new.length) * o.sz ≤ i * o.sz := Nat.mul_le_mul_right _ h2
            omega
        rw [hget _ hz, if_neg hno]; exact g1
      · have hv : (putRows o.rows j new)[i][q] = o.rows[i][q] := by simp only [h3]
        rw [hv]; exact g2.mono (Kept.refl _ _) hmu1

/-! ### Forgetting an object -/
mutual
def killA (k : Nat) : AV → AV
  | .ptr o j q => if o = k then .undef else .ptr o j q
  | .osl o j n => if o = k then .undef else .osl o j n
  | .osc .. => .undef
  | .fn f a b => .fn f (killL k a) (killL k b)
  | .iface t v => .iface t (killA k v)
  | .agg l => .agg (killL k l)
  | .tup l => .tup (killL k l)
  | .undef => .undef
  | .bool b => .bool b
  | .int i n => .int i n
  | .nilp => .nilp
  | .nilf => .nilf
  | .esl => .esl
  | .vptr c => .vptr c
  | .lst r => .lst r
def killL (k : Nat) : List AV → List AV
  | [] => []
  | a :: r => killA k a :: killL k r
end
theorem killL_len (k : Nat) (l : List AV) : (killL k l).length = l.length := by
  induction l with
  | nil => rfl
  | cons a r ih => simp [killL, ih]
theorem killL_get (k : Nat) {l : List AV} (i : Nat) (h : i < (killL k l).length) : (killL k l)[i] = killA k (l[i]'(by rw [killL_len] at h; exact h)) := by
  induction l generalizing i with
  | nil => simp [killL] at h
  | cons a r ih =>
    cases i with
    | zero => rfl
    | succ i =>
      simp only [killL, List.getElem_cons_succ]
      exact ih i (by simpa [killL] using h)
theorem VRel.kill {w : World} {ok : Nat → Prop} {μ : Mu} {a : AV} {v : Value} (h : VRel w ok μ a v) (k : Nat) : ∀ {μ' : Mu}, (∀ o x, o ≠ k → μ o = some x → μ' o = some x) → VRel w ok μ' (killA k a) v := by
  induction h with
  | undef μ v => exact fun _ => .undef _ _
  | bool => exact fun _ => .bool _ _
  | int => exact fun _ => .int _ _ _
  | nilp => exact fun _ => .nilp _
  | nilf => exact fun _ => .nilf _
  | esl => exact fun _ => .esl _ _
  | ptr μ o j q b sz h =>
    intro μ' hm
    simp only [killA]
    split
    · exact .undef _ _
    · rename_i e; exact .ptr _ _ _ _ _ _ (hm _ _ e h)
  | vptr μ cs b off us hb hc hr ih => exact fun _ => .vptr _ _ _ _ us hb hc hr
  | lst μ rows A cap sz us h1 h2 hs hc hr ih => exact fun _ => .lst _ _ _ _ sz us h1 h2 hs hc hr
  | osl μ o j len b sz cap h h1 h2 hs =>
    intro μ' hm
    simp only [killA]
    split
    · exact .undef _ _
    · rename_i e; exact .osl _ _ _ _ _ _ _ (hm _ _ e h) h1 h2 hs
  | osl0 μ o j A =>
    intro μ' hm
    simp only [killA]
    split
    · exact .undef _ _
    · exact .osl0 _ _ _ _
  | osc => exact fun _ => .undef _ _
  | fn μ f first cap fs cs hl hm' h h' ih ih' =>
    intro μ' hm
    exact .fn _ _ _ _ _ _ (by rw [killL_len]; exact hl) (by rw [killL_len]; exact hm') (fun i h1 h2 => by rw [killL_get]; exact ih i _ h2 hm) (fun i h1 h2 => by rw [killL_get]; exact ih' i _ h2 hm)
  | iface μ t v u h ih => exact fun hm => .iface _ _ _ _ (ih hm)
  | agg μ cs us hl h ih => exact fun hm => .agg _ _ _ (by rw [killL_len]; exact hl) (fun i h1 h2 => by rw [killL_get]; exact ih i _ h2 hm)
  | tup μ cs us hl h ih => exact fun hm => .tup _ _ _ (by rw [killL_len]; exact hl) (fun i h1 h2 => by rw [killL_get]; exact ih i _ h2 hm)
def killE (k : Nat) : Env → Env
  | [] => []
  | (t, v) :: r => (t, killA k v) :: killE k r
theorem eget_killE (k : Nat) (e : Env) (t : Nat) : eget (killE k e) t = (eget e t).map (killA k) := by
  induction e with
  | nil => rfl
  | cons x r ih =>
    obtain ⟨u, v⟩ := x
    simp only [killE, eget]
    split
    · rfl
    · exact ih
def killO (k : Nat) (o : AObj) : AObj := if o.closed = true then o else { o with rows := o.rows.map (killL k) }
/-- The heap without an object, and without what leads to it. -/
def killH (k : Nat) : Heap → Heap
  | [] => []
  | (j, o) :: r => if j = k then killH k r else (j, killO k o) :: killH k r
theorem hget_killH (k : Nat) (h : Heap) (j : Nat) : hget (killH k h) j = if j = k then none else (hget h j).map (killO k) := by
  induction h with
  | nil => simp [killH, hget]
  | cons x r ih =>
    obtain ⟨i, o⟩ := x
    simp only [killH]
    by_cases e : i = k
    · rw [if_pos e, ih]
      by_cases e2 : j = k
      · rw [if_pos e2, if_pos e2]
      · rw [if_neg e2, if_neg e2]; simp only [hget]; rw [if_neg (fun h => e2 (h.symm.trans e))]
    · rw [if_neg e]; simp only [hget]
      by_cases e2 : i = j
      · rw [if_pos e2, if_pos e2, if_neg (fun h => e (e2.trans h))]; rfl
      · rw [if_neg e2, if_neg e2, ih]
theorem killO_facts (k : Nat) (o : AObj) : (killO k o).ty = o.ty ∧ (killO k o).sz = o.sz ∧ (killO k o).closed = o.closed ∧ (killO k o).rows.length = o.rows.length := by
  unfold killO; split <;> simp
theorem RowsRel.kill {w : World} {ok : Nat → Prop} {μ μ' : Mu} {k : Nat} {o : AObj} {cs : Array Value} (hm : ∀ o x, o ≠ k → μ o = some x → μ' o = some x) (h : RowsRel w ok (o.mu μ) o.sz o.rows cs) :
    RowsRel w ok ((killO k o).mu μ') (killO k o).sz (killO k o).rows cs := by
  unfold killO
  by_cases hc : o.closed = true
  · rw [if_pos hc]
    unfold AObj.mu at h ⊢
    rw [if_pos hc] at h ⊢; exact h
  · rw [if_neg hc]
    unfold AObj.mu at h ⊢
    rw [if_neg hc] at h
    simp only [if_neg hc]
    refine ⟨fun j hj => ?_, fun j hj q hq => ?_⟩
    · simp only [List.getElem_map, killL_len]; exact h.len j (by simpa using hj)
    · simp only [List.getElem_map, killL_len] at hq
      obtain ⟨u, g1, g2⟩ := h.at_ j (by simpa using hj) q hq
      refine ⟨u, g1, ?_⟩
      simp only [List.getElem_map]
      rw [killL_get]
      exact g2.kill k hm
def AS.forget (s : AS) (k : Nat) : AS := { s with env := killE k s.env, heap := killH k s.heap }
theorem Rel.forget {s : AS} {a : Act} {w : World} {ok : Nat → Prop} {μ : Mu} (hr : Rel s a w ok μ) (k : Nat) (hk : s.fb ≤ k) :
    ∃ μ' : Mu, μ' k = none ∧ (∀ o, o ≠ k → μ' o = μ o) ∧ Rel (s.forget k) a w ok μ' ∧ Step s.fb s.heap s.frz w ok μ (s.forget k).heap (s.forget k).frz w ok μ' := by
  let μ' : Mu := fun o => if o = k then none else μ o
  have h0 : μ' k = none := if_pos rfl
  have h1 : ∀ o, o ≠ k → μ' o = μ o := fun o h => if_neg h
  have hm : ∀ o x, o ≠ k → μ o = some x → μ' o = some x := fun o x e h => (h1 o e).trans h
  refine ⟨μ', h0, h1, ⟨hr.dfr, hr.nt, fun t v ht => ?_, ⟨hr.wf.okb, fun j o ho => ?_, fun j x hx => ?_, fun j j' o o' b s1 s2 ho ho' hm1 hm2 => ?_⟩, fun j x hx => ?_⟩, ?_⟩
  · simp only [AS.forget, eget_killE] at ht
    obtain ⟨v', hv', rfl⟩ := Option.map_eq_some_iff.1 ht
    exact (hr.env t v' hv').kill k hm
  · simp only [AS.forget, hget_killH] at ho ⊢
    split at ho
    · cases ho
    · rename_i e
      obtain ⟨p, hp, rfl⟩ := Option.map_eq_some_iff.1 ho
      obtain ⟨f1, f2, f3, f4⟩ := killO_facts k p
      rcases hr.wf.obj j p hp with ⟨b, cs, g1, g2, g3, g4, g5, g6⟩ | ⟨g1, g2⟩
      · exact .inl ⟨b, cs, by rw [f2]; exact hm _ _ e g1, by rw [f1]; exact g2, by rw [f2, f4]; exact g3, g4, g5, g6.kill hm⟩
      · refine .inr ⟨?_, by rw [h1 j e]; exact g2⟩
        exact List.eq_nil_of_length_eq_zero (by rw [f4, g1]; rfl)
  · by_cases e : j = k
    · subst e; rw [h0] at hx; cases hx
    · rw [h1 j e] at hx
      obtain ⟨o, ho⟩ := hr.wf.dom j x hx
      exact ⟨killO k o, by simp only [AS.forget, hget_killH, if_neg e, ho, Option.map_some]⟩
  · simp only [AS.forget, hget_killH] at ho ho'
    split at ho
    · cases ho
    · rename_i e
      split at ho'
      · cases ho'
      · rename_i e'
        obtain ⟨p, hp, _⟩ := Option.map_eq_some_iff.1 ho
        obtain ⟨p', hp', _⟩ := Option.map_eq_some_iff.1 ho'
        rw [h1 j e] at hm1
        rw [h1 j' e'] at hm2
        exact hr.wf.inj j j' p p' b s1 s2 hp hp' hm1 hm2
  · by_cases e : j = k
    · subst e; rw [h0] at hx; cases hx
    · rw [h1 j e] at hx; exact hr.top j x hx
  · refine ⟨.refl _ _, rfl, rfl, rfl, Nat.le_refl _, fun _ _ _ => rfl, fun _ h => .inl h, ?_, fun j x hj hx => hm j x (by omega) hx⟩
    rintro b ⟨j, o, s1, g1, g2, g3⟩
    simp only [AS.forget, hget_killH] at g1 g2
    split at g1
    · cases g1
    · rename_i e
      obtain ⟨p, hp, _⟩ := Option.map_eq_some_iff.1 g1
      rw [h1 j e] at g3
      exact .inl ⟨j, p, s1, hp, g2, g3⟩
/-- A part of the run in which the machine forgets. -/
theorem AWP.forget {c : Code} {s : AS} {K : Exit → AS → Prop} (k : Nat) (hk : s.fb ≤ k) (h : AWP P c (s.forget k) K) : AWP P c s K := by
  intro a w ok μ hr
  obtain ⟨μ', _, _, h1, h2⟩ := hr.forget k hk
  exact cwp_mono (h a w ok μ' h1) fun e a' w' hp => Post.step (s := s) (s1 := s.forget k) rfl rfl h2 hp
theorem AOps.forget {ops : Array Oper} {l : List Oper} {s : AS} {N : AS → Prop} (k : Nat) (hk : s.fb ≤ k) (h : AOps P ops l (s.forget k) N) : AOps P ops l s N := by
  intro a w ok μ hr
  obtain ⟨μ', _, _, h1, h2⟩ := hr.forget k hk
  exact h.after (s := s) rfl rfl h1 h2
end Go.Qd
set_option linter.unusedVariables false
set_option linter.unusedSimpArgs false
namespace Go.Qd
open Go Go.RowKit
variable {P : Program}

/-! ### append -/
theorem TFacts.slice {t e : Nat} {i : TI} (h : TFacts P t i) (hi : i.kind = .slice e) : P.underlying t = some (.slice e) := by
  have hk := h.kind
  rw [hi] at hk; exact hk
theorem run_append_grow' {t e : Nat} {ei : TI} (hu : P.underlying t = some (.slice e)) (hf : TFacts P e ei) {ty sLen sCap n : Nat} {base : Option Addr} {x : Value} (w : World) (hx : (Builtin.lenOf x).run P w = .ok n w)
    (hgt : ¬ sLen + n ≤ sCap) (hcap : sLen ≤ sCap) (hb : (sLen + n) * ei.bytes ≤ 140737488355328) (hb0 : 0 < ei.bytes) (hz0 : ei.zero.length = ei.size) {old new : Array Value} (h1 : (Builtin.firstCells ei.size sLen (.slice base sLen sCap)).run P w.drew = .ok old w.drew)
    (h2 : (Builtin.firstCells ei.size n x).run P w.drew = .ok new w.drew) :
    ∃ (newCap : Nat) (rest : Array Value), (Builtin.append_ #[t, t] ty #[.slice base sLen sCap, x]).run P w = .ok (.slice (some ⟨w.heap.size, 0, none⟩) (sLen + n) newCap) (w.drew.alloc (.cells (old ++ new ++ rest) e)) ∧ sLen + n ≤ newCap ∧ newCap ≤ maxLen ∧
      rest.size = (newCap - (sLen + n)) * ei.size := by
  obtain ⟨⟨j, z, hj, hjs, hjb, hjz, hzz⟩, _, _⟩ := hf
  have hzs : z.cells.size = ei.size := by
    have := (sameZs_rel (w := w) (ok := fun _ => False) (μ := mu0) hzz).len
    simp at this; omega
  have hneed : sLen + n ≤ 140737488355328 := Nat.le_trans (Nat.le_mul_of_pos_right _ hb0) hb
  refine ⟨grownCap w (sLen + n) sCap e, Builtin.zeroCells z.cells (grownCap w (sLen + n) sCap e - (sLen + n)), ?_, grownCap_ge _ _ _ _, grownCap_le_maxLen _ _ _ _ (by simp only [maxLen]; omega), by rw [size_zeroCells, hzs]⟩
  have hfit := growslice_fits (need := sLen + n) (old := sCap) (bytes := ei.bytes) (by omega) hb
  have h63' : ¬ (9223372036854775807 < ((sLen : Int) + (n : Int))) := by omega
  have h48' : ¬ (281474976710656 < Builtin.nextslicecap (sLen + n) sCap * ei.bytes) := by omega
  simp [Builtin.append_, run_underlying hu, sizeOf, typeInfo, zeroValue, hj, hjz, hx, hgt, h63', h48', Question.forced, h1, h2, newRow, grownCap, hjs, hjb]
theorem Rel.drew {s : AS} {a : Act} {w : World} {ok : Nat → Prop} {μ : Mu} (hr : Rel s a w ok μ) : Rel s a w.drew ok μ ∧ Step s.fb s.heap s.frz w ok μ s.heap s.frz w.drew ok μ := by
  have hk : Kept ok ok w w.drew := ⟨fun _ h => h, fun _ _ => rfl, fun _ cs _ _ h => ⟨cs, h, rfl⟩⟩
  refine ⟨⟨hr.dfr, hr.nt, fun t v h => (hr.env t v h).mono hk (MuLe.refl _), ⟨hr.wf.okb, fun k o ho => ?_, hr.wf.dom, hr.wf.inj⟩, hr.top⟩, ⟨hk, rfl, rfl, rfl, Nat.le_refl _, fun _ _ _ => rfl, fun _ h => .inl h, fun _ h => .inl h, fun _ _ _ h => h⟩⟩
  rcases hr.wf.obj k o ho with ⟨b, cs, g1, g2, g3, g4, g5, g6⟩ | h
  · exact .inl ⟨b, cs, g1, g2, g3, g4, g5, g6.mono hk (MuLe.refl _)⟩
  · exact .inr h
theorem Left.after {s : AS} {w w1 : World} {ok : Nat → Prop} {μ : Mu} (hs : Step s.fb s.heap s.frz w ok μ s.heap s.frz w1 ok μ) {o : Out} {v : Value} {w' : World} (h : Left s w1 ok μ o v w') : Left s w ok μ o v w' := by
  obtain ⟨ok', μ', h1, h2, h3, h4, h5⟩ := h.ex
  exact ⟨ok', μ', h1, h2, h3, h4, hs.trans h5⟩
/-- A new object without rows: there need be no block. -/
theorem Left.phantom {s : AS} {a : Act} {w : World} {ok : Nat → Prop} {μ : Mu} (hr : Rel s a w ok μ) {key sz ty : Nat} {closed : Bool} (hfree : hget s.heap key = none) {av : AV} {v : Value} (hv : VRel w ok μ av v) :
    Left s w ok μ (.new av key ⟨ty, sz, closed, []⟩) v w := by
  have hnone : μ key = none := by
    cases hm : μ key with
    | none => rfl
    | some x => obtain ⟨o, ho⟩ := hr.wf.dom key x hm; rw [hfree] at ho; cases ho
  refine ⟨ok, μ, hv, ⟨hr.wf.okb, fun k o ho => ?_, fun k x hx => ?_, fun k k' o o' b s1 s2 ho ho' h1 h2 => ?_⟩, .refl _, hr.top, ⟨.refl _ _, rfl, rfl, rfl, Nat.le_refl _, fun _ _ _ => rfl, fun _ h => .inl h, ?_, fun _ _ _ h => h⟩⟩
  · simp only [Out.new, hputs_cons, hputs_nil, hget_hput, List.nil_append] at ho ⊢
    split at ho
    · rename_i e; injection ho with ho; subst ho; subst e; exact .inr ⟨rfl, hnone⟩
    · exact hr.wf.obj k o ho
  · simp only [Out.new, hputs_cons, hputs_nil, hget_hput]
    split
    · exact ⟨_, rfl⟩
    · exact hr.wf.dom k x hx
  · simp only [Out.new, hputs_cons, hputs_nil, hget_hput] at ho ho'
    have e : key ≠ k := fun e => by subst e; rw [hnone] at h1; cases h1
    have e' : key ≠ k' := fun e => by subst e; rw [hnone] at h2; cases h2
    rw [if_neg e] at ho
    rw [if_neg e'] at ho'
    exact hr.wf.inj k k' o o' b s1 s2 ho ho' h1 h2
  · rintro b ⟨k, o, s1, h1, h2, h3⟩
    simp only [Out.new, hputs_cons, hputs_nil, hget_hput, List.nil_append] at h1 h2
    have e : key ≠ k := fun e => by subst e; rw [hnone] at h3; cases h3
    rw [if_neg e] at h1
    exact .inl ⟨k, o, s1, h1, h2, h3⟩
theorem firstCells_drew {s : AS} {a : Act} {w : World} {ok : Nat → Prop} {μ : Mu} (hr : Rel s a w ok μ) {sz : Nat} (hs : 0 < sz) {x : AV} {rows : List (List AV)} {rd : List Nat} {cl : Bool} (h : arows s.heap sz x = some (rows, rd, cl)) {v : Value}
    (hv : VRel w ok μ x v) : ∃ (A : Option Addr) (cap : Nat) (news : Array Value), v = .slice A rows.length cap ∧ (Builtin.firstCells sz rows.length v).run P w = .ok news w ∧ (Builtin.firstCells sz rows.length v).run P w.drew = .ok news w.drew ∧
      news.size = rows.length * sz ∧ RowsRel w ok (if cl = true then mu0 else μ) sz rows news := by
  obtain ⟨A, cap, news, e1, e2, e3, e4, e5, e6⟩ := arows_rel (P := P) hr hs h hv
  have hx := e4 w rfl rows.length (Nat.le_refl _)
  have hx' := e4 w.drew rfl rows.length (Nat.le_refl _)
  rw [← e5, Array.extract_size] at hx hx'
  exact ⟨A, cap, news, e1, hx, hx', e5, e6⟩

/-- What an append onto a slice without room makes. -/
def aappend (T : Tab) (s : AS) (key t : Nat) (x : AV) : Option Out :=
  match tget T t with
  | some i => match i.kind with
    | .slice e => match tget T e with
      | some ei => match arows s.heap ei.size x with
        | some (rows, rd, cl) => if freeKey s key = true ∧ 0 < ei.size ∧ 0 < ei.bytes ∧ ei.zero.length = ei.size ∧ rows.length * ei.bytes ≤ 140737488355328 then
            some ⟨.osl key 0 rows.length, [(key, ⟨e, ei.size, cl, rows⟩)], rd, []⟩ else none
        | none => none
      | none => none
    | _ => none
  | none => none
theorem append_ok {T : Tab} (hT : TOk P T) {s : AS} {o : Oper} {t : Nat} {x y : Operand} (ho : o.op = .call { callee := .builtin .append, args := #[x, y], argTypes := #[t, t] }) {yv : AV} (hx : aev s.env x = some .esl) (hy : aev s.env y = some yv)
    {key : Nat} {out : Out} (h : aappend T s key t yv = some out) : RunsTo P s o out := by
  unfold aappend at h
  split at h
  case h_2 => cases h
  rename_i i ht
  split at h
  case h_2 => cases h
  rename_i e hi
  split at h
  case h_2 => cases h
  rename_i ei he
  split at h
  case h_2 => cases h
  rename_i rows rd cl hrows
  split at h
  case isFalse => cases h
  rename_i hcond
  obtain ⟨hfree, hs, hb0, hz0, hb⟩ := hcond
  injection h with h; subst h
  obtain ⟨k1, k2, k3, k4⟩ := freeKey_spec hfree
  have hu := (hT.facts ht).slice hi
  intro a w ok μ hr
  have hxv := aev_rel hr hx
  have hyv := aev_rel hr hy
  generalize hxe : a.eval x = xv at hxv
  cases hxv with
  | esl _ A =>
    obtain ⟨B, cap, news, e1, e2, e3, e4, e5⟩ := firstCells_drew (P := P) hr hs hrows hyv
    have hlen : (Builtin.lenOf (a.eval y)).run P w = .ok rows.length w := by rw [e1]; rfl
    have hexec : ∀ v w', (Builtin.append_ #[t, t] o.type #[.slice A 0 0, a.eval y]).run P w = .ok v w' → (execOp a.eval o).run P w = .ok (.value v) w' := by
      intro v w' hv
      unfold execOp
      simp [ho, resolve, invoke, builtin, hxe, hv]
    by_cases hn : rows.length = 0
    · have hnil : rows = [] := List.eq_nil_of_length_eq_zero hn
      subst hnil
      have hnews : news = #[] := Array.eq_empty_of_size_eq_zero (by rw [e4]; simp)
      subst hnews
      refine ⟨.slice A 0 0, w, .inl (hexec _ _ ?_), ?_⟩
      · have hsz := (hT.facts he).run_sizeOf w
        obtain ⟨⟨j, z, hj, hjs, hjb, hjz, hzz⟩, _, _⟩ := hT.facts he
        simp only [List.length_nil] at hlen e2
        cases A with
        | none => simp [Builtin.append_, run_underlying hu, sizeOf, typeInfo, hj, hlen, hjs, e2]
        | some ad => simp [Builtin.append_, run_underlying hu, sizeOf, typeInfo, hj, hlen, hjs, e2, storeCells]
      · exact ⟨(Left.phantom hr k1 (ty := e) (sz := ei.size) (closed := cl) (.osl0 _ key 0 A)).ex⟩
    · have hold : (Builtin.firstCells ei.size 0 (.slice A 0 0)).run P w.drew = .ok #[] w.drew := by
        cases A with
        | none => simp [Builtin.firstCells]
        | some ad => simp [Builtin.firstCells, loadCells, loadCellsFrom]
      obtain ⟨nc, rest, g1, g2, g3, g4⟩ := run_append_grow' (ty := o.type) hu (hT.facts he) w hlen (sLen := 0) (sCap := 0) (base := A) (by omega) (Nat.le_refl _) (by rw [Nat.zero_add]; exact hb) hb0 hz0 hold e3
      rw [Nat.zero_add] at g1 g2 g4
      obtain ⟨hrd, hsd⟩ := hr.drew
      refine ⟨_, _, .inl (hexec _ _ g1), Left.after hsd ?_⟩
      have hcell : RowsRel w.drew ok (if cl = true then mu0 else μ) ei.size rows (#[] ++ news ++ rest) := by
        have e5' := e5.mono hsd.kept (MuLe.refl _)
        refine ⟨e5'.len, fun j hj q hq => ?_⟩
        obtain ⟨u, a1, a2⟩ := e5'.at_ j hj q hq
        refine ⟨u, ?_, a2⟩
        rw [Array.empty_append, Array.getElem?_append_left (Array.getElem?_eq_some_iff.1 a1).1]; exact a1
      have hfull : (#[] ++ news ++ rest).size = nc * ei.size := by
        simp only [Array.size_append, List.size_toArray, List.length_nil, e4, g4]
        rw [Nat.zero_add, ← Nat.add_mul]; congr 1; omega
      refine ⟨(Left.new (av := .osl key 0 rows.length) (v := .slice (some ⟨w.heap.size, 0, none⟩) rows.length nc) hrd k1 k2 k3 (by rw [hfull]; exact Nat.mul_le_mul_right _ g2) k4 hcell (fun μ' hle hself hk => ?_)).ex⟩
      have := VRel.osl (w := w.drew.alloc (.cells (#[] ++ news ++ rest) e)) (ok := ok) μ' key 0 rows.length w.heap.size ei.size nc hself g2 g3 ⟨_, e, heap_push_new _ _, by rw [Nat.zero_add, hfull]; exact Nat.le_refl _⟩
      rw [Nat.zero_mul] at this
      exact this
end Go.Qd
set_option linter.unusedVariables false
set_option linter.unusedSimpArgs false
namespace Go.Qd
open Go Go.RowKit
variable {P : Program}

/-- The state with less known: nothing that led to object k. -/
theorem Rel.thin {s : AS} {a : Act} {w : World} {ok : Nat → Prop} {μ : Mu} (hr : Rel s a w ok μ) (k : Nat) {e' : Env} {h' : Heap} (he : ∀ t v, eget e' t = some v → ∃ v0, eget s.env t = some v0 ∧ (v = v0 ∨ v = killA k v0))
    (hh : ∀ j, hget h' j = hget s.heap j ∨ hget h' j = (hget s.heap j).map (killO k)) : Rel { s with env := e', heap := h' } a w ok μ ∧ Step s.fb s.heap s.frz w ok μ h' s.frz w ok μ := by
  have hm : ∀ o x, o ≠ k → μ o = some x → μ o = some x := fun _ _ _ h => h
  have hsome : ∀ j o, hget h' j = some o → ∃ p, hget s.heap j = some p := by
    intro j o ho
    rcases hh j with h | h <;> rw [h] at ho
    · exact ⟨o, ho⟩
    · obtain ⟨p, hp, _⟩ := Option.map_eq_some_iff.1 ho; exact ⟨p, hp⟩
  refine ⟨⟨hr.dfr, hr.nt, fun t v ht => ?_, ⟨hr.wf.okb, fun j o ho => ?_, fun j x hx => ?_, fun j j' o o' b s1 s2 ho ho' hm1 hm2 => ?_⟩, hr.top⟩, ⟨.refl _ _, rfl, rfl, rfl, Nat.le_refl _, fun _ _ _ => rfl, fun _ h => .inl h, ?_, fun _ _ _ h => h⟩⟩
  · obtain ⟨v0, h1, h2⟩ := he t v ht
    rcases h2 with rfl | rfl
    · exact hr.env t _ h1
    · exact (hr.env t v0 h1).kill k hm
  · rcases hh j with h | h
    · rw [h] at ho; exact hr.wf.obj j o ho
    · rw [h] at ho
      obtain ⟨p, hp, rfl⟩ := Option.map_eq_some_iff.1 ho
      obtain ⟨f1, f2, f3, f4⟩ := killO_facts k p
      rcases hr.wf.obj j p hp with ⟨b, cs, g1, g2, g3, g4, g5, g6⟩ | ⟨g1, g2⟩
      · exact .inl ⟨b, cs, by rw [f2]; exact g1, by rw [f1]; exact g2, by rw [f2, f4]; exact g3, g4, g5, g6.kill hm⟩
      · exact .inr ⟨List.eq_nil_of_length_eq_zero (by rw [f4, g1]; rfl), g2⟩
  · obtain ⟨o, ho⟩ := hr.wf.dom j x hx
    rcases hh j with h | h
    · exact ⟨o, h.trans ho⟩
    · exact ⟨killO k o, by simp only [h, ho, Option.map_some]⟩
  · obtain ⟨p, hp⟩ := hsome j o ho
    obtain ⟨p', hp'⟩ := hsome j' o' ho'
    exact hr.wf.inj j j' p p' b s1 s2 hp hp' hm1 hm2
  · rintro b ⟨j, o, s1, g1, g2, g3⟩
    obtain ⟨p, hp⟩ := hsome j o g1
    exact .inl ⟨j, p, s1, hp, g2, g3⟩

/-- An append onto a slice of the call's own: what led to it is forgotten, but for the new slice. -/
def AS.grown (s : AS) (d k n : Nat) (o : AObj) : AS := { s with env := eput (killE k s.env) d (.osl k 0 n), heap := hput (killH k s.heap) k o }
theorem AOps.grow {T : Tab} (hT : TOk P T) {ops : Array Oper} {o : Oper} {rest : List Oper} {s : AS} {N : AS → Prop} (hg : o.guard = none) {d : Nat} (hd : o.dst = some d) (hdn : d < s.nt) {t : Nat} {x y : Operand}
    (ho : o.op = .call { callee := .builtin .append, args := #[x, y], argTypes := #[t, t] }) {i ei : TI} {e k n : Nat} (ht : tget T t = some i) (hi : i.kind = .slice e) (he : tget T e = some ei) {yv : AV} (hx : aev s.env x = some (.osl k 0 n))
    (hy : aev s.env y = some yv) {ob : AObj} (hob : hget s.heap k = some ob) {rows : List (List AV)} {rd : List Nat} (hrows : arows s.heap ei.size yv = some (rows, rd, true)) (hcl : ob.closed = true) (hty : ob.ty = e) (hsz : ob.sz = ei.size)
    (hlen : ob.rows.length = n) (hone : rows.all (fun r => r.all AV.one) = true) (hs : 0 < ei.size) (hb0 : 0 < ei.bytes) (hz0 : ei.zero.length = ei.size) (hb : (n + rows.length) * ei.bytes ≤ 140737488355328) (hk : s.fb ≤ k) (hkt : k < s.top) (hz : k ∉ s.frz)
    (hn : AOps P ops rest (s.grown d k (n + rows.length) ⟨e, ei.size, true, ob.rows ++ rows⟩) N) : AOps P ops (o :: rest) s N := by
  intro a w ok μ hr
  have hu := (hT.facts ht).slice hi
  have hxv := aev_rel hr hx
  have hyv := aev_rel hr hy
  obtain ⟨B, capy, news, e1, e2, e3, e4, e5⟩ := firstCells_drew (P := P) hr hs hrows hyv
  rw [if_pos rfl] at e5
  have hlenY : (Builtin.lenOf (a.eval y)).run P w = .ok rows.length w := by rw [e1]; rfl
  have honeN : ∀ v ∈ news.toList, v.oneCell' = true := by
    intro v hv
    obtain ⟨z, hz1, rfl⟩ := List.mem_iff_getElem.1 hv
    simp only [Array.length_toList] at hz1
    have hj : z / ei.size < rows.length := by rw [Nat.div_lt_iff_lt_mul hs, ← e4]; exact hz1
    have hq : z % ei.size < rows[z / ei.size].length := by rw [e5.len _ hj]; exact Nat.mod_lt _ hs
    obtain ⟨u, g1, g2⟩ := e5.at_ _ hj _ hq
    rw [Nat.mul_comm, Nat.div_add_mod, Array.getElem?_eq_getElem hz1] at g1
    injection g1 with g1
    rw [Array.getElem_toList, g1]
    refine g2.one ?_
    rw [List.all_eq_true] at hone
    have := hone _ (List.getElem_mem hj)
    rw [List.all_eq_true] at this
    exact this _ (List.getElem_mem hq)
  -- what is left to show, from the run and the state behind it
  have fin : ∀ v w' ok' μ', (Builtin.append_ #[t, t] o.type #[a.eval x, a.eval y]).run P w = .ok v w' → Rel (s.grown d k (n + rows.length) ⟨e, ei.size, true, ob.rows ++ rows⟩) (a.put (some d) v) w' ok' μ' →
      Step s.fb s.heap s.frz w ok μ (s.grown d k (n + rows.length) ⟨e, ei.size, true, ob.rows ++ rows⟩).heap s.frz w' ok' μ' → oList P ops (Post s w ok μ (Then N (fun _ _ => False))) (o :: rest) a w := by
    intro v w' ok' μ' hrun hrel hstep
    refine oList_plain hg fun K hK => ?_
    unfold oOp execOp
    simp only [ho, resolve, invoke, builtin, Sem.run_bind, Sem.run_pure, Result.andThen_ok, List.map_toArray, List.map_cons, List.map_nil, hrun, oupon]
    rw [hd]
    exact hK _ _ (hn.after (s := s) rfl rfl hrel hstep)
  -- the old slice
  obtain ⟨A, cap, hxe, hcap, hcm, hblk⟩ : ∃ (A : Option Addr) (cap : Nat), a.eval x = .slice A n cap ∧ n ≤ cap ∧ cap ≤ maxLen ∧ ((n = 0 ∧ cap = 0) ∨ ∃ (b : Nat) (cs : Array Value), A = some ⟨b, 0, none⟩ ∧ μ k = some (b, ei.size) ∧ w.heap[b]? = some (.cells cs e (0, 0)) ∧ cap * ei.size ≤ cs.size ∧
      RowsRel w ok mu0 ei.size ob.rows cs) := by
    generalize a.eval x = u at hxv
    cases hxv with
    | osl0 _ _ _ A => exact ⟨A, 0, rfl, Nat.le_refl _, Nat.zero_le _, .inl ⟨rfl, rfl⟩⟩
    | osl _ _ _ _ b sz cap hm h1 h2 hs' =>
      rcases hr.wf.obj k ob hob with ⟨b', cs, g1, g2, g3, g4, g5, g6⟩ | ⟨_, g1⟩
      · rw [hm] at g1; injection g1 with g1; injection g1 with e1 e2'; subst e1
        rw [hsz] at e2' g6; subst e2'
        rw [hty] at g2
        unfold AObj.mu at g6
        rw [if_pos hcl] at g6
        obtain ⟨cs2, ty2, q1, q2⟩ := hs'
        rw [g2] at q1; injection q1 with q1; injection q1 with q1 _ _; subst q1
        rw [Nat.zero_add] at q2
        exact ⟨_, cap, by rw [Nat.zero_mul], h1, h2, .inr ⟨b, cs, rfl, hm, g2, q2, g6⟩⟩
      · rw [hm] at g1; cases g1
  by_cases hroom : n + rows.length ≤ cap
  · -- there is room
    rcases hblk with ⟨h0, hc0⟩ | ⟨b, cs, rfl, hm, hcs, hfit, hrr⟩
    · -- nothing is appended to nothing
      have hr0 : rows.length = 0 := by omega
      have hnil : rows = [] := List.eq_nil_of_length_eq_zero hr0
      have honil : ob.rows = [] := List.eq_nil_of_length_eq_zero (by omega)
      subst hnil
      have hnews : news = #[] := Array.eq_empty_of_size_eq_zero (by rw [e4]; simp)
      subst hnews
      subst h0 hc0
      have hrun : (Builtin.append_ #[t, t] o.type #[a.eval x, a.eval y]).run P w = .ok (.slice A 0 0) w := by
        obtain ⟨⟨j, z, hj, hjs, hjb, hjz, hzz⟩, _, _⟩ := hT.facts he
        simp only [List.length_nil] at hlenY e2
        rw [hxe]
        cases A with
        | none => simp [Builtin.append_, run_underlying hu, sizeOf, typeInfo, hj, hlenY, hjs, e2]
        | some ad => simp [Builtin.append_, run_underlying hu, sizeOf, typeInfo, hj, hlenY, hjs, e2, storeCells]
      obtain ⟨ob1, ob2, ob3, ob4⟩ := ob
      simp only at hcl hty hsz honil
      subst hcl hty hsz honil
      have hthin := hr.thin k (e' := killE k s.env) (h' := hput (killH k s.heap) k ⟨ob1, ei.size, true, []⟩) (fun t v ht => by
          rw [eget_killE] at ht
          obtain ⟨v0, h1, h2⟩ := Option.map_eq_some_iff.1 ht
          exact ⟨v0, h1, .inr h2.symm⟩) (fun j => by
          rw [hget_hput, hget_killH]
          by_cases ej : k = j
          · subst ej; rw [if_pos rfl]; exact .inl hob.symm
          · rw [if_neg ej, if_neg (fun h => ej h.symm)]; exact .inr rfl)
      have hl : Left { s with env := killE k s.env, heap := hput (killH k s.heap) k ⟨ob1, ei.size, true, []⟩ } w ok μ (.pure (.osl k 0 0)) (.slice A 0 0) w := Left.same hthin.1 [] (.osl0 _ _ _ _)
      obtain ⟨ok', μ', hrel, hst⟩ := hthin.1.apply hl (some d) (fun d' hd' => by injection hd' with hd'; subst hd'; exact hdn)
      exact fin _ _ ok' μ' hrun hrel (hthin.2.trans hst)
    · -- in place
      have hjn : n ≤ ob.rows.length := by omega
      obtain ⟨cs', s1, s2, s3⟩ := store_rows (P := P) (cl := true) hr (j := n) (cs := cs) (news := news) (new := rows) hob (by rw [hsz]; exact hm) (by rw [hty]; exact hcs) (by unfold AObj.mu; rw [if_pos hcl, hsz]; exact hrr) hjn
        (by rw [hsz]; exact Nat.le_trans (Nat.mul_le_mul_right _ hroom) hfit) (by rw [hsz]; exact e4) (by rw [if_pos rfl, hsz]; exact e5) honeN
      have hpr : putRows ob.rows n rows = ob.rows ++ rows := by
        unfold putRows; rw [List.take_of_length_le (by omega), List.drop_eq_nil_of_le (by omega), List.append_nil]
      rw [hpr, hcl] at s3
      simp only [Bool.and_self, if_true] at s3
      have hrun : (Builtin.append_ #[t, t] o.type #[a.eval x, a.eval y]).run P w = .ok (.slice (some ⟨b, 0, none⟩) (n + rows.length) cap) (w.setRow b cs') := by
        obtain ⟨⟨j, z, hj, hjs, hjb, hjz, hzz⟩, _, _⟩ := hT.facts he
        rw [hxe]
        rw [hsz] at s1
        simp [Builtin.append_, run_underlying hu, sizeOf, typeInfo, hj, hlenY, hjs, e2, hroom, addr_add, s1]
      have hl : Left s w ok μ ⟨.osl k 0 (n + rows.length), [(k, ⟨ob.ty, ob.sz, true, ob.rows ++ rows⟩)], [], []⟩ (.slice (some ⟨b, 0, none⟩) (n + rows.length) cap) (w.setRow b cs') := by
        refine Left.turn hr hob hz (by rw [hsz]; exact hm) (by rw [hty]; exact hcs) s2 ?_ (by rw [if_pos rfl]; exact s3) [] (fun hkp => ?_)
        · rw [List.length_append, hlen, hsz]; exact Nat.le_trans (Nat.mul_le_mul_right _ hroom) hfit
        · have := VRel.osl (w := w.setRow b cs') (ok := ok) μ k 0 (n + rows.length) b ei.size cap hm hroom hcm ⟨cs', e, by rw [setRow_heap w b cs cs' e (0, 0) hcs], by rw [Nat.zero_add, s2]; exact hfit⟩
          rw [Nat.zero_mul] at this; exact this
      obtain ⟨ok', μ', hrel, hst⟩ := hr.apply hl (some d) (fun d' hd' => by injection hd' with hd'; subst hd'; exact hdn)
      have hthin := hrel.thin k (e' := eput (killE k s.env) d (.osl k 0 (n + rows.length))) (h' := hput (killH k s.heap) k ⟨e, ei.size, true, ob.rows ++ rows⟩) (fun t v ht => by
          simp only [AS.apply, eget_eput] at ht ⊢
          split at ht
          · rename_i ed; rw [if_pos ed]; exact ⟨_, rfl, .inl (by injection ht with ht; exact ht.symm)⟩
          · rename_i ed; rw [if_neg ed]
            rw [eget_killE] at ht
            obtain ⟨v0, h1, h2⟩ := Option.map_eq_some_iff.1 ht
            exact ⟨v0, h1, .inr h2.symm⟩) (fun j => by
          simp only [AS.apply, hputs_cons, hputs_nil, hget_hput, hget_killH]
          by_cases ej : k = j
          · rw [if_pos ej, if_pos ej, hty, hsz]; exact .inl rfl
          · rw [if_neg ej, if_neg ej, if_neg (fun h => ej h.symm)]; exact .inr rfl)
      exact fin _ _ ok' μ' hrun hthin.1 (hst.trans hthin.2)
  · -- a new array
    have hold : ∃ old, (Builtin.firstCells ei.size n (.slice A n cap)).run P w.drew = .ok old w.drew ∧ old.size = n * ei.size ∧ RowsRel w ok mu0 ei.size ob.rows old := by
      have ha : arows s.heap ei.size (.osl k 0 n) = some ((ob.rows.drop 0).take n, [k], ob.closed) := by
        simp only [arows, hob]; rw [if_pos ⟨hsz, by omega⟩]
      obtain ⟨B', cap', old, q1, q2, q3, q4, q5⟩ := firstCells_drew (P := P) hr hs ha hxv
      rw [List.drop_zero, List.take_of_length_le (by omega)] at q1 q2 q3 q4 q5
      rw [hcl, if_pos rfl] at q5
      rw [hxe, hlen] at q3
      exact ⟨old, q3, by rw [q4, hlen], q5⟩
    obtain ⟨old, q1, q2, q3⟩ := hold
    obtain ⟨nc, rst, g1, g2, g3, g4⟩ := run_append_grow' (ty := o.type) hu (hT.facts he) w hlenY (sLen := n) (sCap := cap) (base := A) hroom hcap hb hb0 hz0 q1 e3
    obtain ⟨μ1, m0, m1, hr1, hs1⟩ := hr.forget k hk
    obtain ⟨hrd, hsd⟩ := hr1.drew
    have hfull : (old ++ news ++ rst).size = nc * ei.size := by
      simp only [Array.size_append, q2, e4, g4]
      rw [← Nat.add_mul, ← Nat.add_mul]; congr 1; omega
    have hcell : RowsRel w.drew ok mu0 ei.size (ob.rows ++ rows) (old ++ news ++ rst) := by
      have q3' := q3.mono hsd.kept (MuLe.refl mu0)
      have e5' := e5.mono hsd.kept (MuLe.refl mu0)
      refine ⟨fun j hj => ?_, fun j hj q hq => ?_⟩
      · rw [List.getElem_append]
        split
        · exact q3'.len _ _
        · exact e5'.len _ _
      · rw [List.length_append, hlen] at hj
        by_cases hjn : j < n
        · have hval : (ob.rows ++ rows)[j] = ob.rows[j] := List.getElem_append_left _
          have hq2 : q < ob.rows[j].length := by rw [hval] at hq; exact hq
          obtain ⟨u, a1, a2⟩ := q3'.at_ j (by omega) q hq2
          refine ⟨u, ?_, ?_⟩
          · have hlt := (Array.getElem?_eq_some_iff.1 a1).1
            rw [Array.getElem?_append_left (by rw [Array.size_append]; omega), Array.getElem?_append_left hlt]; exact a1
          · have : (ob.rows ++ rows)[j][q] = ob.rows[j][q] := by simp only [hval]
            rw [this]; exact a2
        · have hval : (ob.rows ++ rows)[j] = rows[j - n] := by rw [List.getElem_append_right (by omega)]; congr 1; omega
          have hj2 : j - n < rows.length := by omega
          have hq2 : q < rows[j - n].length := by rw [hval] at hq; exact hq
          obtain ⟨u, a1, a2⟩ := e5'.at_ _ hj2 q hq2
          have hlt := (Array.getElem?_eq_some_iff.1 a1).1
          have ej : j * ei.size = n * ei.size + (j - n) * ei.size := by rw [← Nat.add_mul]; congr 1; omega
          refine ⟨u, ?_, ?_⟩
          · rw [Array.getElem?_append_left (by rw [Array.size_append]; omega), Array.getElem?_append_right (by omega), q2, ← a1]; congr 1; omega
          · have : (ob.rows ++ rows)[j][q] = rows[j - n][q] := by simp only [hval]
            rw [this]; exact a2
    have hl : Left (s.forget k) w.drew ok μ1 (.new (.osl k 0 (n + rows.length)) k ⟨e, ei.size, true, ob.rows ++ rows⟩) (.slice (some ⟨w.heap.size, 0, none⟩) (n + rows.length) nc) (w.drew.alloc (.cells (old ++ news ++ rst) e)) := by
      refine Left.new hrd (by simp [AS.forget, hget_killH]) hkt hk ?_ hz (by rw [if_pos rfl]; exact hcell) (fun μ' hle hself hkp => ?_)
      · rw [hfull, List.length_append, hlen]; exact Nat.mul_le_mul_right _ g2
      · have := VRel.osl (w := w.drew.alloc (.cells (old ++ news ++ rst) e)) (ok := ok) μ' k 0 (n + rows.length) w.heap.size ei.size nc hself g2 g3 ⟨_, e, heap_push_new _ _, by rw [Nat.zero_add, hfull]; exact Nat.le_refl _⟩
        rw [Nat.zero_mul] at this; exact this
    obtain ⟨ok', μ', hrel, hst⟩ := hrd.apply hl (some d) (fun d' hd' => by injection hd' with hd'; subst hd'; exact hdn)
    have hall : Step s.fb s.heap s.frz w ok μ (s.grown d k (n + rows.length) ⟨e, ei.size, true, ob.rows ++ rows⟩).heap s.frz (w.drew.alloc (.cells (old ++ news ++ rst) e)) ok' μ' := (hs1.trans hsd).trans hst
    rw [← hxe] at g1
    exact fin _ _ ok' μ' g1 hrel hall
end Go.Qd
set_option linter.unusedVariables false
set_option linter.unusedSimpArgs false
namespace Go.Qd
open Go Go.RowKit
variable {P : Program}

/-! ### What a call hands back: objects that are kept get new names, the others are read for good -/
mutual
def convA (ρ : Nat → Option Nat) (h : Heap) : AV → AV
  | .ptr k j q => match ρ k with
    | some k' => .ptr k' j q
    | none => match hget h k with
      | some o => if o.closed = true ∧ j < o.rows.length then .vptr ((o.rows.getD j []).drop q) else .undef
      | none => .undef
  | .osl k j n => match ρ k with
    | some k' => .osl k' j n
    | none => match hget h k with
      | some o => if o.closed = true ∧ j + n ≤ o.rows.length then .lst ((o.rows.drop j).take n) else .undef
      | none => .undef
  | .osc k j n _ => match ρ k with
    | some k' => .osl k' j n
    | none => match hget h k with
      | some o => if o.closed = true ∧ j + n ≤ o.rows.length then .lst ((o.rows.drop j).take n) else .undef
      | none => .undef
  | .fn f a b => .fn f (convL ρ h a) (convL ρ h b)
  | .iface t v => .iface t (convA ρ h v)
  | .agg l => .agg (convL ρ h l)
  | .tup l => .tup (convL ρ h l)
  | .undef => .undef
  | .bool b => .bool b
  | .int i n => .int i n
  | .nilp => .nilp
  | .nilf => .nilf
  | .esl => .esl
  | .vptr c => .vptr c
  | .lst r => .lst r
def convL (ρ : Nat → Option Nat) (h : Heap) : List AV → List AV
  | [] => []
  | a :: r => convA ρ h a :: convL ρ h r
end
theorem convL_len (ρ : Nat → Option Nat) (h : Heap) (l : List AV) : (convL ρ h l).length = l.length := by
  induction l with
  | nil => rfl
  | cons a r ih => simp [convL, ih]
theorem convL_get (ρ : Nat → Option Nat) (h : Heap) {l : List AV} (i : Nat) (hi : i < (convL ρ h l).length) : (convL ρ h l)[i] = convA ρ h (l[i]'(by rw [convL_len] at hi; exact hi)) := by
  induction l generalizing i with
  | nil => simp [convL] at hi
  | cons a r ih =>
    cases i with
    | zero => rfl
    | succ i =>
      simp only [convL, List.getElem_cons_succ]
      exact ih i (by simpa [convL] using hi)
/-- How names before and behind stand to each other. -/
structure Ren (ρ σ : Nat → Option Nat) : Prop where
  iff : ∀ k k', ρ k = some k' ↔ σ k' = some k
def muC (σ : Nat → Option Nat) (μ : Mu) : Mu := fun k' => (σ k').bind μ
theorem muC_of {ρ σ : Nat → Option Nat} (hr : Ren ρ σ) {μ : Mu} {k k' : Nat} (h : ρ k = some k') : muC σ μ k' = μ k := by
  unfold muC; rw [(hr.iff k k').1 h]; rfl
def okC (ρ : Nat → Option Nat) (h : Heap) (ok : Nat → Prop) (μ : Mu) : Nat → Prop := fun b => ok b ∨ ∃ k o sz, ρ k = none ∧ hget h k = some o ∧ μ k = some (b, sz)
theorem Wf.lst_of {h : Heap} {frz : List Nat} {w : World} {ok : Nat → Prop} {μ : Mu} (hw : Wf h frz w ok μ) {ok' : Nat → Prop} (hkp : Kept ok ok' w w) {k j n : Nat} {o : AObj} (ho : hget h k = some o) (hc : o.closed = true) (hn : j + n ≤ o.rows.length)
    (hok : ∀ b sz, μ k = some (b, sz) → ok' b) {v : Value} (hv : VRel w ok μ (.osl k j n) v) {μ' : Mu} : VRel w ok' μ' (.lst ((o.rows.drop j).take n)) v := by
  have hlen : ((o.rows.drop j).take n).length = n := by simp; omega
  cases hv with
  | osl0 =>
    rw [List.take_zero]; exact lst_nil (Nat.zero_le _)
  | osl _ _ _ _ b sz cap hm h1 h2 hs =>
    rcases hw.obj k o ho with ⟨b', cs, g1, g2, g3, g4, g5, g6⟩ | ⟨_, g1⟩
    · rw [hm] at g1; injection g1 with g1; injection g1 with e1 e2; subst e1
      unfold AObj.mu at g6
      rw [if_pos hc] at g6
      have hx : ∀ jj q, jj < n → q < o.sz → ∃ u, cs[(j + jj) * o.sz + q]? = some u ∧ ∀ (h1 : j + jj < o.rows.length) (h2 : q < o.rows[j + jj].length), VRel w ok mu0 o.rows[j + jj][q] u := by
        intro jj q hj hq
        have hjj : j + jj < o.rows.length := by omega
        obtain ⟨u, a1, a2⟩ := g6.at_ (j + jj) hjj q (by rw [g6.len _ hjj]; exact hq)
        exact ⟨u, a1, fun _ _ => a2⟩
      have hv := VRel.lst (w := w) (ok := ok') μ' ((o.rows.drop j).take n) (some ⟨b, j * sz, none⟩) cap o.sz (fun jj q => (cs[(j + jj) * o.sz + q]?).getD Go.undef) (by rw [hlen]; exact h1) h2 (fun jj hj => by
          rw [hlen] at hj
          have := g6.len (j + jj) (by omega)
          simpa using this) (fun hp => by
          refine ⟨b, j * sz, rfl, hok b sz hm, fun jj hj q hq => ?_⟩
          rw [hlen] at hj
          obtain ⟨u, a1, _⟩ := hx jj q hj hq
          simp only [World.cell?, g2]
          rw [e2, ← Nat.add_assoc, ← Nat.add_mul, a1]; rfl) (fun jj hj q hq => by
          rw [hlen] at hj
          have hjj : j + jj < o.rows.length := by omega
          have hval : ((o.rows.drop j).take n)[jj] = o.rows[j + jj] := by simp
          have hq2 : q < o.rows[j + jj].length := by rw [hval] at hq; exact hq
          obtain ⟨u, a1, a2⟩ := hx jj q hj (by rw [← g6.len _ hjj]; exact hq2)
          have hval2 : ((o.rows.drop j).take n)[jj][q] = o.rows[j + jj][q] := by simp
          rw [hval2]
          show VRel w ok' mu0 _ ((cs[(j + jj) * o.sz + q]?).getD Go.undef)
          rw [a1]
          exact (a2 hjj hq2).mono hkp (MuLe.refl _))
      rw [hlen] at hv
      exact hv
    · rw [hm] at g1; cases g1
theorem VRel.conv {ρ σ : Nat → Option Nat} (hr : Ren ρ σ) {h : Heap} {frz : List Nat} {w : World} {ok : Nat → Prop} {μ : Mu} (hw : Wf h frz w ok μ) {a : AV} {v : Value} :
    VRel w ok μ a v → VRel w (okC ρ h ok μ) (muC σ μ) (convA ρ h a) v := by
  have hkp : Kept ok (okC ρ h ok μ) w w := ⟨fun b hb => .inl hb, fun _ _ => rfl, fun _ cs _ _ hb => ⟨cs, hb, rfl⟩⟩
  intro hv
  have key : ∀ {μ0 : Mu} {a : AV} {v : Value}, VRel w ok μ0 a v → μ0 = μ → VRel w (okC ρ h ok μ) (muC σ μ) (convA ρ h a) v := by
    intro μ0 a v hv
    induction hv with
    | undef μ v => exact fun _ => .undef _ _
    | bool => exact fun _ => .bool _ _
    | int => exact fun _ => .int _ _ _
    | nilp => exact fun _ => .nilp _
    | nilf => exact fun _ => .nilf _
    | esl => exact fun _ => .esl _ _
    | ptr μ1 o j q b sz hm =>
      intro e; subst e
      simp only [convA]
      cases hρ : ρ o with
      | none =>
        simp only
        cases ho : hget h o with
        | none => exact .undef _ _
        | some ob =>
          simp only
          split
          · rename_i hc
            obtain ⟨hc1, hc2⟩ := hc
            have hgd : ob.rows.getD j [] = ob.rows[j] := by simp [List.getD, hc2]
            rw [hgd]
            rcases hw.obj o ob ho with ⟨b', cs, g1, g2, g3, g4, g5, g6⟩ | ⟨_, g1⟩
            · rw [hm] at g1; injection g1 with g1; injection g1 with e1 e2; subst e1
              unfold AObj.mu at g6
              rw [if_pos hc1] at g6
              refine .vptr _ _ _ _ (fun i => (cs[j * ob.sz + (q + i)]?).getD Go.undef) (.inr ⟨o, ob, sz, hρ, ho, hm⟩) (fun i hi => ?_) (fun i hi => ?_)
              · simp only [List.length_drop] at hi
                obtain ⟨u, a1, a2⟩ := g6.at_ j hc2 (q + i) (by omega)
                simp only [World.cell?, g2]
                rw [e2, Nat.add_assoc, a1]; rfl
              · simp only [List.length_drop] at hi
                obtain ⟨u, a1, a2⟩ := g6.at_ j hc2 (q + i) (by omega)
                rw [a1]
                simp only [List.getElem_drop]
                exact a2.mono hkp (MuLe.refl _)
            · rw [hm] at g1; cases g1
          · exact .undef _ _
      | some k' => exact .ptr _ _ _ _ _ _ ((muC_of hr hρ).trans hm)
    | vptr μ1 cs b off us hb hc hr' ih => exact fun _ => .vptr _ _ _ _ us (.inl hb) hc (fun i hi => (hr' i hi).mono hkp (MuLe.refl _))
    | lst μ1 rows A cap sz us h1 h2 hs hc hr' ih =>
      exact fun _ => .lst _ _ _ _ sz us h1 h2 hs (fun hp => by
        obtain ⟨b, off, e, hb, hcs⟩ := hc hp
        exact ⟨b, off, e, .inl hb, hcs⟩) (fun j hj q hq => (hr' j hj q hq).mono hkp (MuLe.refl _))
    | osl μ1 o j len b sz cap hm h1 h2 hs =>
      intro e; subst e
      simp only [convA]
      cases hρ : ρ o with
      | none =>
        simp only
        cases ho : hget h o with
        | none => exact .undef _ _
        | some ob =>
          simp only
          split
          · rename_i hc
            exact hw.lst_of hkp ho hc.1 hc.2 (fun b sz hb => .inr ⟨o, ob, sz, hρ, ho, hb⟩) (.osl _ _ _ _ _ _ _ hm h1 h2 hs)
          · exact .undef _ _
      | some k' => exact .osl _ _ _ _ _ _ _ ((muC_of hr hρ).trans hm) h1 h2 hs
    | osc μ1 o j len b sz cap hm h1 h2 hs =>
      intro e; subst e
      simp only [convA]
      cases hρ : ρ o with
      | none =>
        simp only
        cases ho : hget h o with
        | none => exact .undef _ _
        | some ob =>
          simp only
          split
          · rename_i hc
            exact hw.lst_of hkp ho hc.1 hc.2 (fun b sz hb => .inr ⟨o, ob, sz, hρ, ho, hb⟩) (.osl _ _ _ _ _ _ _ hm h1 h2 hs)
          · exact .undef _ _
      | some k' => exact .osl _ _ _ _ _ _ _ ((muC_of hr hρ).trans hm) h1 h2 hs
    | osl0 μ1 o j A =>
      intro e; subst e
      simp only [convA]
      cases hρ : ρ o with
      | none =>
        simp only
        cases ho : hget h o with
        | none => exact .undef _ _
        | some ob =>
          simp only
          split
          · rw [List.take_zero]; exact lst_nil (Nat.zero_le _)
          · exact .undef _ _
      | some k' => exact .osl0 _ _ _ _
    | fn μ1 f first cap fs cs hl hm' h1 h2 ih ih' =>
      intro e
      exact .fn _ _ _ _ _ _ (by rw [convL_len]; exact hl) (by rw [convL_len]; exact hm') (fun i g1 g2 => by rw [convL_get]; exact ih i _ g2 e) (fun i g1 g2 => by rw [convL_get]; exact ih' i _ g2 e)
    | iface μ1 t v u h1 ih => exact fun e => .iface _ _ _ _ (ih e)
    | agg μ1 cs us hl h1 ih => exact fun e => .agg _ _ _ (by rw [convL_len]; exact hl) (fun i g1 g2 => by rw [convL_get]; exact ih i _ g2 e)
    | tup μ1 cs us hl h1 ih => exact fun e => .tup _ _ _ (by rw [convL_len]; exact hl) (fun i g1 g2 => by rw [convL_get]; exact ih i _ g2 e)
  exact key hv rfl
def convO (ρ : Nat → Option Nat) (h : Heap) (o : AObj) : AObj := if o.closed = true then o else { o with rows := o.rows.map (convL ρ h) }
def convH (ρ : Nat → Option Nat) (h0 : Heap) : Heap → Heap
  | [] => []
  | (k, o) :: r => match ρ k with
    | some k' => (k', convO ρ h0 o) :: convH ρ h0 r
    | none => convH ρ h0 r
theorem hget_convH {ρ σ : Nat → Option Nat} (hr : Ren ρ σ) (h0 h : Heap) (k' : Nat) : hget (convH ρ h0 h) k' = (σ k').bind fun k => (hget h k).map (convO ρ h0) := by
  induction h with
  | nil => cases hσ : σ k' <;> simp [convH, hget, hσ]
  | cons x r ih =>
    obtain ⟨k, o⟩ := x
    simp only [convH]
    cases hρ : ρ k with
    | none =>
      simp only
      rw [ih]
      cases hσ : σ k' with
      | none => rfl
      | some k2 =>
        simp only [Option.bind_some, hget]
        rw [if_neg (fun e => by subst e; rw [(hr.iff _ _).2 hσ] at hρ; cases hρ)]
    | some k1 =>
      simp only [hget]
      by_cases e : k1 = k'
      · subst e
        rw [if_pos rfl, (hr.iff _ _).1 hρ]
        simp
      · rw [if_neg e, ih]
        cases hσ : σ k' with
        | none => rfl
        | some k2 =>
          simp only [Option.bind_some]
          rw [if_neg (fun e2 => by
            subst e2
            have := (hr.iff _ _).2 hσ
            rw [hρ] at this; injection this with this; exact e this)]
theorem convO_facts (ρ : Nat → Option Nat) (h : Heap) (o : AObj) : (convO ρ h o).ty = o.ty ∧ (convO ρ h o).sz = o.sz ∧ (convO ρ h o).closed = o.closed ∧ (convO ρ h o).rows.length = o.rows.length := by
  unfold convO; split <;> simp
theorem Wf.conv {ρ σ : Nat → Option Nat} (hr : Ren ρ σ) {h : Heap} {frz frz' : List Nat} {w : World} {ok : Nat → Prop} {μ : Mu} (hw : Wf h frz w ok μ) (hf : ∀ k k', ρ k = some k' → (k' ∈ frz' ↔ k ∈ frz)) :
    Wf (convH ρ h h) frz' w (okC ρ h ok μ) (muC σ μ) := by
  have hkp : Kept ok (okC ρ h ok μ) w w := ⟨fun b hb => .inl hb, fun _ _ => rfl, fun _ cs _ _ hb => ⟨cs, hb, rfl⟩⟩
  have hblk : ∀ k o b sz, hget h k = some o → μ k = some (b, sz) → b < w.heap.size := fun k o b sz ho hm => by
    rcases hw.obj k o ho with ⟨b', cs', h1, h2, _⟩ | ⟨_, h1⟩
    · rw [h1] at hm; injection hm with hm; injection hm with hm _; subst hm
      exact (Array.getElem?_eq_some_iff.1 h2).1
    · rw [h1] at hm; cases hm
  refine ⟨fun b hb => ?_, fun k' o' ho => ?_, fun k' x hx => ?_, fun k1 k2 o1 o2 b s1 s2 h1 h2 h3 h4 => ?_⟩
  · rcases hb with hb | ⟨k, o, sz, _, ho, hm⟩
    · exact hw.okb b hb
    · exact hblk k o b sz ho hm
  · rw [hget_convH hr] at ho
    cases hσ : σ k' with
    | none => rw [hσ] at ho; cases ho
    | some k =>
      rw [hσ] at ho
      simp only [Option.bind_some] at ho
      obtain ⟨o, hko, rfl⟩ := Option.map_eq_some_iff.1 ho
      have hρ := (hr.iff _ _).2 hσ
      obtain ⟨f1, f2, f3, f4⟩ := convO_facts ρ h o
      rcases hw.obj k o hko with ⟨b, cs, g1, g2, g3, g4, g5, g6⟩ | ⟨g1, g2⟩
      · refine .inl ⟨b, cs, by rw [f2, muC_of hr hρ]; exact g1, by rw [f1]; exact g2, by rw [f2, f4]; exact g3, fun hz => ?_, fun hz => .inl (g5 ((hf k k' hρ).1 hz)), ?_⟩
        · rintro (hb | ⟨k2, o2, sz2, hρ2, ho2, hm2⟩)
          · exact g4 (fun hz2 => hz ((hf k k' hρ).2 hz2)) hb
          · have := hw.inj k k2 o o2 b o.sz sz2 hko ho2 g1 hm2
            subst this; rw [hρ] at hρ2; cases hρ2
        · unfold convO
          by_cases hc : o.closed = true
          · rw [if_pos hc]
            unfold AObj.mu at g6 ⊢
            rw [if_pos hc] at g6 ⊢
            exact g6.mono hkp (MuLe.refl _)
          · rw [if_neg hc]
            unfold AObj.mu at g6 ⊢
            rw [if_neg hc] at g6
            simp only [if_neg hc]
            refine ⟨fun j hj => ?_, fun j hj q hq => ?_⟩
            · simp only [List.getElem_map, convL_len]; exact g6.len j (by simpa using hj)
            · simp only [List.getElem_map, convL_len] at hq
              obtain ⟨u, a1, a2⟩ := g6.at_ j (by simpa using hj) q hq
              refine ⟨u, a1, ?_⟩
              simp only [List.getElem_map]
              rw [convL_get]
              exact a2.conv hr hw
      · exact .inr ⟨List.eq_nil_of_length_eq_zero (by rw [f4, g1]; rfl), by rw [muC_of hr hρ]; exact g2⟩
  · unfold muC at hx
    cases hσ : σ k' with
    | none => rw [hσ] at hx; cases hx
    | some k =>
      rw [hσ] at hx
      obtain ⟨o, ho⟩ := hw.dom k x hx
      exact ⟨convO ρ h o, by rw [hget_convH hr, hσ]; simp [ho]⟩
  · rw [hget_convH hr] at h1 h2
    unfold muC at h3 h4
    cases hσ1 : σ k1 with
    | none => rw [hσ1] at h1; cases h1
    | some j1 =>
      cases hσ2 : σ k2 with
      | none => rw [hσ2] at h2; cases h2
      | some j2 =>
        rw [hσ1] at h1 h3
        rw [hσ2] at h2 h4
        obtain ⟨p1, hp1, _⟩ := Option.map_eq_some_iff.1 h1
        obtain ⟨p2, hp2, _⟩ := Option.map_eq_some_iff.1 h2
        have := hw.inj j1 j2 p1 p2 b s1 s2 hp1 hp2 h3 h4
        subst this
        have e1 := (hr.iff _ _).2 hσ1
        have e2 := (hr.iff _ _).2 hσ2
        rw [e1] at e2; injection e2
theorem Step.conv {ρ σ : Nat → Option Nat} (hr : Ren ρ σ) {fb : Nat} (hfb : ∀ k, k < fb → ρ k = some k) {h : Heap} {frz frz' : List Nat} {w : World} {ok : Nat → Prop} {μ : Mu} (hw : Wf h frz w ok μ) (hf : ∀ k k', ρ k = some k' → (k' ∈ frz' ↔ k ∈ frz)) :
    Step fb h frz w ok μ (convH ρ h h) frz' w (okC ρ h ok μ) (muC σ μ) := by
  refine ⟨⟨fun b hb => .inl hb, fun _ _ => rfl, fun _ cs _ _ hb => ⟨cs, hb, rfl⟩⟩, rfl, rfl, rfl, Nat.le_refl _, fun _ _ _ => rfl, ?_, ?_, fun k x hk hx => by rw [muC_of hr (hfb k hk)]; exact hx⟩
  · rintro b (hb | ⟨k, o, sz, hρ, ho, hm⟩)
    · exact .inl hb
    · by_cases hz : k ∈ frz
      · left
        rcases hw.obj k o ho with ⟨b', cs, g1, g2, g3, g4, g5, g6⟩ | ⟨_, g1⟩
        · rw [hm] at g1; injection g1 with g1; injection g1 with e1 _; subst e1; exact g5 hz
        · rw [hm] at g1; cases g1
      · exact .inr (.inl ⟨k, o, sz, ho, hz, hm⟩)
  · rintro b ⟨k', o', s1, h1, h2, h3⟩
    rw [hget_convH hr] at h1
    unfold muC at h3
    cases hσ : σ k' with
    | none => rw [hσ] at h1; cases h1
    | some k =>
      rw [hσ] at h1 h3
      obtain ⟨p, hp, _⟩ := Option.map_eq_some_iff.1 h1
      exact .inl ⟨k, p, s1, hp, fun hz => h2 ((hf k k' ((hr.iff _ _).2 hσ)).2 hz), h3⟩
end Go.Qd
set_option linter.unusedVariables false
set_option linter.unusedSimpArgs false
namespace Go.Qd
open Go Go.RowKit
variable {P : Program}

/-! ### Functions -/
structure FnIs (P : Program) (f : FuncId) (fn : Func) (c : Code) : Prop where
  get : P.funcs[f]? = some fn
  body : fn.body = some c
  name : (fn.name == "runtime.NumGoroutine") = false

def entryEnv : Nat → List AV → Env
  | _, [] => []
  | n, a :: r => (n, a) :: entryEnv (n + 1) r
theorem eget_entry : ∀ (l : List AV) (n t : Nat) (v : AV), eget (entryEnv n l) t = some v → n ≤ t ∧ l[t - n]? = some v := by
  intro l
  induction l with
  | nil => intro n t v h; cases h
  | cons a r ih =>
    intro n t v h
    simp only [entryEnv, eget] at h
    split at h
    · rename_i e; subst e; injection h with h; subst h; simp
    · obtain ⟨h1, h2⟩ := ih (n + 1) t v h
      refine ⟨by omega, ?_⟩
      rw [show t - n = (t - (n + 1)) + 1 by omega, List.getElem?_cons_succ]; exact h2
/-- The machine of a callee that is handed our own objects. -/
def AS.enter (s : AS) (nt : Nat) (args : List AV) : AS := ⟨s.top, nt, entryEnv 0 args, s.heap, s.frz⟩

theorem enter_rel {fb nt : Nat} {h : Heap} {frz : List Nat} {w : World} {ok : Nat → Prop} {μ : Mu} (hw : Wf h frz w ok μ) (htop : ∀ k x, μ k = some x → k < fb) {args : List AV} {vals : Array Value} (hv : VRels w ok μ args vals.toList) (hn : args.length ≤ nt) :
    Rel ⟨fb, nt, entryEnv 0 args, h, frz⟩ { tmps := vals ++ Array.replicate (nt - vals.size) Go.undef, defers := [] } w ok μ := by
  have hlen : args.length = vals.size := by have := hv.len; simpa using this
  refine ⟨rfl, by simp; omega, fun t v ht => ?_, hw, fun k x hx => Nat.lt_of_lt_of_le (htop k x hx) (by simp [AS.top])⟩
  obtain ⟨_, h2⟩ := eget_entry _ _ _ _ ht
  rw [Nat.sub_zero] at h2
  obtain ⟨hi, rfl⟩ := List.getElem?_eq_some_iff.1 h2
  have := hv.at_ t hi (by simp; omega)
  have hg : (vals ++ Array.replicate (nt - vals.size) Go.undef).getD t Go.undef = vals[t]'(by omega) := by
    rw [Array.getD_eq_getD_getElem?, Array.getElem?_append_left (by omega), Array.getElem?_eq_getElem (by omega)]; rfl
  show VRel w ok μ _ ((vals ++ Array.replicate (nt - vals.size) Go.undef).getD t Go.undef)
  rw [hg]; simpa using this

/-! ### Results -/
def ares1 (T : Tab) (s : AS) : ResultVar → Option AV
  | .tmp t => some ((eget s.env t).getD .undef)
  | .cell a t => match eget s.env a with
    | some p => (aload T s.heap t p).map (·.v)
    | none => none
def aresL (T : Tab) (s : AS) : List ResultVar → Option (List AV)
  | [] => some []
  | r :: rs => match ares1 T s r, aresL T s rs with
    | some a, some l => some (a :: l)
    | _, _ => none
def ares (T : Tab) (s : AS) (rs : List ResultVar) : Option AV :=
  match aresL T s rs with
  | some [a] => some a
  | some l => some (.tup l)
  | none => none
theorem aresL_rel {T : Tab} (hT : TOk P T) {s : AS} {a : Act} {w : World} {ok : Nat → Prop} {μ : Mu} (hr : Rel s a w ok μ) (f : ResultVar → Sem Value) (hf : ∀ t, f (.tmp t) = pure (a.tmps.getD t Go.undef))
    (hc : ∀ x t, f (.cell x t) = (do loadVar t (← asAddr (a.tmps.getD x Go.undef)))) : ∀ {rs : List ResultVar} {l : List AV}, aresL T s rs = some l → ∃ vs : List Value, (rs.mapM f).run P w = .ok vs w ∧ VRels w ok μ l vs := by
  intro rs
  induction rs with
  | nil => intro l h; simp only [aresL, Option.some.injEq] at h; subst h; exact ⟨[], by simp, .nil⟩
  | cons r rs ih =>
    intro l h
    simp only [aresL] at h
    split at h
    · rename_i av l' h1 h2
      injection h with h; subst h
      obtain ⟨vs, g1, g2⟩ := ih h2
      have hone : ∃ v, (f r).run P w = .ok v w ∧ VRel w ok μ av v := by
        cases r with
        | tmp t =>
          simp only [ares1, Option.some.injEq] at h1
          refine ⟨_, by rw [hf]; rfl, ?_⟩
          subst h1
          cases he : eget s.env t with
          | none => exact .undef _ _
          | some v => exact hr.env t v he
        | cell x t =>
          simp only [ares1] at h1
          cases he : eget s.env x with
          | none => rw [he] at h1; cases h1
          | some p =>
            rw [he] at h1
            obtain ⟨out, ho, rfl⟩ := Option.map_eq_some_iff.1 h1
            unfold aload at ho
            split at ho
            · rename_i i cs rd ht hca
              split at ho
              · rename_i av htk
                injection ho with ho; subst ho
                obtain ⟨b, off, us, e1, e2⟩ := cellsAt_rel hr hca (hr.env x p he)
                obtain ⟨v, e3, e4⟩ := loadVar_rel hT ht htk e2
                refine ⟨v, ?_, e4⟩
                rw [hc, e1]
                simp [asAddr, e3]
              · cases ho
            · cases ho
      obtain ⟨v, e1, e2⟩ := hone
      exact ⟨v :: vs, by rw [List.mapM_cons]; simp [e1, g1], .cons e2 g2⟩
    · cases h
theorem ares_rel {T : Tab} (hT : TOk P T) {s : AS} {a : Act} {w : World} {ok : Nat → Prop} {μ : Mu} (hr : Rel s a w ok μ) {fn : Func} {r : AV} (h : ares T s fn.results.toList = some r) : ∃ v, (results fn a.tmps).run P w = .ok v w ∧ VRel w ok μ r v := by
  unfold ares at h
  have hx : ∃ l, aresL T s fn.results.toList = some l ∧ r = (match l with | [a] => a | l => .tup l) := by
    cases hl : aresL T s fn.results.toList with
    | none => rw [hl] at h; cases h
    | some l =>
      rw [hl] at h
      refine ⟨l, rfl, ?_⟩
      cases l with
      | nil => injection h with h; exact h.symm
      | cons x t => cases t with
        | nil => injection h with h; exact h.symm
        | cons y t => injection h with h; exact h.symm
  obtain ⟨l, hl, hrl⟩ := hx
  have hff : ∃ f : ResultVar → Sem Value, results fn a.tmps = (do let vs ← fn.results.mapM f; pure (if h : vs.size = 1 then vs[0] else .tuple vs)) ∧ (∀ t, f (.tmp t) = pure (a.tmps.getD t Go.undef)) ∧
      (∀ x t, f (.cell x t) = (do loadVar t (← asAddr (a.tmps.getD x Go.undef)))) := ⟨_, rfl, fun _ => rfl, fun _ _ => rfl⟩
  obtain ⟨f, hres, hf1, hf2⟩ := hff
  obtain ⟨vs, g1, g2⟩ := aresL_rel hT hr f hf1 hf2 hl
  refine ⟨if h : vs.toArray.size = 1 then vs.toArray[0] else .tuple vs.toArray, ?_, ?_⟩
  · rw [hres]
    have e : fn.results = fn.results.toList.toArray := by simp
    rw [e, List.mapM_toArray]
    simp only [Sem.run_bind, Sem.run_map]
    rw [g1]
    rfl
  · subst hrl
    cases l with
    | nil =>
      obtain rfl := g2.unnil
      exact .tup _ _ _ rfl (fun i h1 _ => by cases h1)
    | cons x t =>
      obtain ⟨v, r, rfl, q1, q2⟩ := g2.uncons
      cases t with
      | nil => obtain rfl := q2.unnil; exact q1
      | cons y t =>
        obtain ⟨v2, r2, rfl, q3, q4⟩ := q2.uncons
        rw [dif_neg (by simp)]
        exact .tup _ _ _ (by have := g2.len; simpa using this) (fun i h1 h2 => by have := g2.at_ i h1 (by simpa using h2); simpa using this)
def isRet : Exit → Prop
  | .ret | .normal => True
  | _ => False

/-! ### A callee that is walked in place -/
def rhoT (top : Nat) : Nat → Option Nat := fun k => if k < top then some k else none
theorem ren_top (top : Nat) : Ren (rhoT top) (rhoT top) := by
  refine ⟨fun k k' => ?_⟩
  unfold rhoT
  constructor <;> intro h <;> split at h <;> first | (cases h; done) | (rename_i hk; injection h with h; subst h; rw [if_pos hk])
/-- Back in the caller. -/
def AS.back (s s1 : AS) (dst : Option Tmp) (r : AV) : AS :=
  { fb := s.fb, nt := s.nt, env := (match dst with | some d => eput s.env d (convA (rhoT s.top) s1.heap r) | none => s.env), heap := convH (rhoT s.top) s1.heap s1.heap, frz := s1.frz.filter (fun k => decide (k < s.top)) }
theorem back_rel {s s1 : AS} {a a1 : Act} {w w1 : World} {ok ok1 : Nat → Prop} {μ μ1 : Mu} (hr : Rel s a w ok μ) (hr1 : Rel s1 a1 w1 ok1 μ1) (hs : Step s.top s.heap s.frz w ok μ s1.heap s1.frz w1 ok1 μ1) {r : AV} {v : Value} (hv : VRel w1 ok1 μ1 r v)
    (dst : Option Tmp) (hd : ∀ d, dst = some d → d < s.nt) : ∃ ok' μ', Rel (s.back s1 dst r) (a.put dst v) w1 ok' μ' ∧ Step s.fb s.heap s.frz w ok μ (s.back s1 dst r).heap (s.back s1 dst r).frz w1 ok' μ' := by
  have hren := ren_top s.top
  have hfz : ∀ k k', rhoT s.top k = some k' → (k' ∈ s1.frz.filter (fun k => decide (k < s.top)) ↔ k ∈ s1.frz) := by
    intro k k' h
    unfold rhoT at h
    split at h
    · rename_i hk; injection h with h; subst h; simp [hk]
    · cases h
  have hrho : ∀ k, k < s.top → rhoT s.top k = some k := fun k hk => if_pos hk
  have hst := hs.trans (Step.conv hren hrho hr1.wf hfz)
  have hmu : ∀ k x, k < s.top → μ k = some x → muC (rhoT s.top) μ1 k = some x := fun k x hk hx => hst.mu k x hk hx
  have henv : ∀ t x, eget s.env t = some x → VRel w1 (okC (rhoT s.top) s1.heap ok1 μ1) (muC (rhoT s.top) μ1) x (a.tmps.getD t Go.undef) := fun t x hx =>
    (hr.env t x hx).mono hst.kept (fun o x hx => hmu o x (hr.top o x hx) hx)
  refine ⟨_, _, ⟨?_, ?_, fun t x hx => ?_, hr1.wf.conv hren hfz, fun k x hx => ?_⟩, hst.weaken (by simp [AS.top])⟩
  · cases dst <;> exact hr.dfr
  · cases dst with
    | none => exact hr.nt
    | some d => simp [Act.put, AS.back, hr.nt]
  · cases dst with
    | none => exact henv t x hx
    | some d =>
      simp only [AS.back, eget_eput] at hx
      rw [getD_put (by rw [hr.nt]; exact hd d rfl)]
      split at hx
      · rename_i e; rw [if_pos e]; injection hx with hx; subst hx; exact hv.conv hren hr1.wf
      · rename_i e; rw [if_neg e]; exact henv t x hx
  · unfold muC rhoT at hx
    split at hx
    · rename_i hk; exact hk
    · cases hx

/-- What runs when a function value is called. -/
theorem call_run {s : AS} {a : Act} {w : World} {ok : Nat → Prop} {μ : Mu} (hr : Rel s a w ok μ) {o : Oper} {fx : Operand} {args : Array Operand} {ts : Array TypeId} (ho : o.op = .call { callee := .value fx, args := args, argTypes := ts })
    {f : FuncId} {fn : Func} {c : Code} (hf : FnIs P f fn c) {first cap l : List AV} (hfx : aev s.env fx = some (.fn f first cap)) (hl : aevs s.env args.toList = some l) :
    ∃ vals : Array Value, (execOp a.eval o).run P w = .ok (.enter f vals) w ∧ VRels w ok μ (first ++ l ++ cap) vals.toList := by
  have hv := aev_rel hr hfx
  have hlv := aevs_rel hr hl
  generalize he : a.eval fx = u at hv
  cases hv with
  | fn _ _ _ _ fs cs h1 h2 h3 h4 =>
    refine ⟨fs ++ args.map a.eval ++ cs, ?_, ?_⟩
    · unfold execOp
      simp [ho, resolve, he, Deferred.ofValue, invoke, callFunc, program, Sem.run, hf.get, hf.body]
      have hne : ¬ fn.name = "runtime.NumGoroutine" := by have := hf.name; simpa using this
      simp [hne]
    · have g1 : VRels w ok μ first fs.toList := ⟨by simpa using h1, fun i a1 a2 => by simpa using h3 i a1 (by simpa using a2)⟩
      have g2 : VRels w ok μ cap cs.toList := ⟨by simpa using h2, fun i a1 a2 => by simpa using h4 i a1 (by simpa using a2)⟩
      have := (g1.append (by simpa using hlv)).append g2
      simpa using this
theorem AOps.inline {T : Tab} (hT : TOk P T) {ops : Array Oper} {o : Oper} {rest : List Oper} {s : AS} {N : AS → Prop} (hg : o.guard = none) (hd : ∀ d, o.dst = some d → d < s.nt) {fx : Operand} {args : Array Operand} {ts : Array TypeId}
    (ho : o.op = .call { callee := .value fx, args := args, argTypes := ts }) {f : FuncId} {fn : Func} {c : Code} (hf : FnIs P f fn c) {first cap l : List AV} (hfx : aev s.env fx = some (.fn f first cap)) (hl : aevs s.env args.toList = some l)
    (hn : (first ++ l ++ cap).length ≤ fn.ntmps)
    (hb : AWP P c (s.enter fn.ntmps (first ++ l ++ cap)) (fun e s1 => isRet e ∧ ∃ r, ares T s1 fn.results.toList = some r ∧ AOps P ops rest (s.back s1 o.dst r) N)) : AOps P ops (o :: rest) s N := by
  intro a w ok μ hr
  obtain ⟨vals, hrun, hvals⟩ := call_run (P := P) hr ho hf hfx hl
  refine oList_plain hg fun K hK => ?_
  unfold oOp
  rw [hrun]
  simp only [oupon]
  have hent := enter_rel (nt := fn.ntmps) hr.wf hr.top hvals hn
  refine Calls.mono (calls_of_wp (R := fun e w' => ∃ v, e = .returned v ∧ ∃ s1 a1 ok1 μ1 r, Rel s1 a1 w' ok1 μ1 ∧ VRel w' ok1 μ1 r v ∧ Step s.top s.heap s.frz w ok μ s1.heap s1.frz w' ok1 μ1 ∧ AOps P ops rest (s.back s1 o.dst r) N) hf.get hf.body
    (cwp_wp rfl (cwp_mono (hb _ w ok μ hent) fun e a1 w1 hp => ?_))) fun e w1 he => ?_
  · obtain ⟨s1, ok1, μ1, ⟨hk1, r, hk2, hk3⟩, h1, h2, h3, h4⟩ := hp
    obtain ⟨v, hv1, hv2⟩ := ares_rel hT h3 hk2
    cases e <;> first
      | exact hk1.elim
      | exact ⟨h3.dfr, v, hv1, v, rfl, s1, a1, ok1, μ1, r, h3, hv2, h4, hk3⟩
  · obtain ⟨v, rfl, s1, a1, ok1, μ1, r, h1, h2, h3, h4⟩ := he
    obtain ⟨ok', μ', hrel, hst⟩ := back_rel hr h1 h3 h2 o.dst hd
    exact hK _ _ (h4.after (s := s) rfl rfl hrel hst)

/-! ### A callee that is handed values alone -/
def enumH : Nat → List AObj → Heap
  | _, [] => []
  | n, o :: r => (n, o) :: enumH (n + 1) r
theorem hget_enum : ∀ (l : List AObj) (n k : Nat), hget (enumH n l) k = if n ≤ k then l[k - n]? else none := by
  intro l
  induction l with
  | nil => intro n k; simp [enumH, hget]
  | cons o r ih =>
    intro n k
    simp only [enumH, hget]
    by_cases e : n = k
    · subst e; simp
    · rw [if_neg e, ih]
      by_cases h : n ≤ k
      · rw [if_pos (by omega), if_pos h, show k - n = (k - (n + 1)) + 1 by omega, List.getElem?_cons_succ]
      · rw [if_neg (by omega), if_neg h]
/-- The contract of a function of values: what it hands back, and which objects of its own come with it. -/
def ICall (P : Program) (f : FuncId) (args : List AV) (r : AV) (objs : List AObj) : Prop := ∀ (w : World) (ok : Nat → Prop) (vals : Array Value), (∀ b, ok b → b < w.heap.size) → VRels w ok mu0 args vals.toList →
  Calls P f vals w fun e w' => ∃ v ok' μ', e = .returned v ∧ VRel w' ok' μ' r v ∧ Wf (enumH 0 objs) [] w' ok' μ' ∧ Step 0 [] [] w ok mu0 (enumH 0 objs) [] w' ok' μ'
def idxIn : List Nat → Nat → Nat → Option Nat
  | [], _, _ => none
  | x :: r, n, k => if x = k then some n else idxIn r (n + 1) k
theorem idxIn_spec : ∀ (ks : List Nat) (n k k' : Nat), ks.Nodup → (idxIn ks n k = some k' ↔ n ≤ k' ∧ ks[k' - n]? = some k) := by
  intro ks
  induction ks with
  | nil => intro n k k' _; simp [idxIn]
  | cons x r ih =>
    intro n k k' hnd
    simp only [List.nodup_cons] at hnd
    simp only [idxIn]
    by_cases e : x = k
    · subst e
      rw [if_pos rfl]
      constructor
      · intro h; injection h with h; subst h; simp
      · rintro ⟨h1, h2⟩
        by_cases e2 : k' = n
        · rw [e2]
        · rw [show k' - n = (k' - (n + 1)) + 1 by omega, List.getElem?_cons_succ] at h2
          exact absurd (List.mem_of_getElem? h2) hnd.1
    · rw [if_neg e, ih (n + 1) k k' hnd.2]
      constructor
      · rintro ⟨h1, h2⟩
        refine ⟨by omega, ?_⟩
        rw [show k' - n = (k' - (n + 1)) + 1 by omega, List.getElem?_cons_succ]; exact h2
      · rintro ⟨h1, h2⟩
        by_cases e2 : k' = n
        · subst e2; simp at h2; exact absurd h2 e
        · refine ⟨by omega, ?_⟩
          rw [show k' - n = (k' - (n + 1)) + 1 by omega, List.getElem?_cons_succ] at h2; exact h2
mutual
/-- A slice without room reads as one without elements. -/
def lsA : AV → AV
  | .esl => .lst []
  | .fn f a b => .fn f (lsL a) (lsL b)
  | .iface t v => .iface t (lsA v)
  | .agg l => .agg (lsL l)
  | .tup l => .tup (lsL l)
  | .undef => .undef
  | .bool b => .bool b
  | .int i n => .int i n
  | .nilp => .nilp
  | .nilf => .nilf
  | .vptr c => .vptr c
  | .lst r => .lst r
  | .ptr a b c => .ptr a b c
  | .osl a b c => .osl a b c
  | .osc a b c _ => .osl a b c
def lsL : List AV → List AV
  | [] => []
  | a :: r => lsA a :: lsL r
end
theorem lsL_len (l : List AV) : (lsL l).length = l.length := by
  induction l with
  | nil => rfl
  | cons a r ih => simp [lsL, ih]
theorem lsL_get {l : List AV} (i : Nat) (hi : i < (lsL l).length) : (lsL l)[i] = lsA (l[i]'(by rw [lsL_len] at hi; exact hi)) := by
  induction l generalizing i with
  | nil => simp [lsL] at hi
  | cons a r ih =>
    cases i with
    | zero => rfl
    | succ i =>
      simp only [lsL, List.getElem_cons_succ]
      exact ih i (by simpa [lsL] using hi)
theorem VRel.ls {w : World} {ok : Nat → Prop} {μ : Mu} {a : AV} {v : Value} (h : VRel w ok μ a v) : VRel w ok μ (lsA a) v := by
  induction h with
  | undef μ v => exact .undef _ _
  | bool => exact .bool _ _
  | int => exact .int _ _ _
  | nilp => exact .nilp _
  | nilf => exact .nilf _
  | esl => exact lst_nil (Nat.zero_le _)
  | ptr μ o j q b sz h => exact .ptr _ _ _ _ _ _ h
  | vptr μ cs b off us hb hc hr ih => exact .vptr _ _ _ _ us hb hc hr
  | lst μ rows A cap sz us h1 h2 hs hc hr ih => exact .lst _ _ _ _ sz us h1 h2 hs hc hr
  | osl μ o j len b sz cap h h1 h2 hs => exact .osl _ _ _ _ _ _ _ h h1 h2 hs
  | osl0 => exact .osl0 _ _ _ _
  | osc μ o j len b sz cap h h1 h2 hs => exact .osl _ _ _ _ _ _ _ h h1 h2 hs
  | fn μ f first cap fs cs hl hm' h h' ih ih' => exact .fn _ _ _ _ _ _ (by rw [lsL_len]; exact hl) (by rw [lsL_len]; exact hm') (fun i g1 g2 => by rw [lsL_get]; exact ih i _ g2) (fun i g1 g2 => by rw [lsL_get]; exact ih' i _ g2)
  | iface μ t v u h ih => exact .iface _ _ _ _ ih
  | agg μ cs us hl h ih => exact .agg _ _ _ (by rw [lsL_len]; exact hl) (fun i g1 g2 => by rw [lsL_get]; exact ih i _ g2)
  | tup μ cs us hl h ih => exact .tup _ _ _ (by rw [lsL_len]; exact hl) (fun i g1 g2 => by rw [lsL_get]; exact ih i _ g2)
/-- The objects that are kept, by their names. -/
def keepO (ρ : Nat → Option Nat) (h : Heap) : List Nat → Option (List AObj)
  | [] => some []
  | k :: r => match hget h k, keepO ρ h r with
    | some o, some l => some (convO ρ h o :: l)
    | _, _ => none
theorem keepO_get {ρ : Nat → Option Nat} {h : Heap} : ∀ {ks : List Nat} {l : List AObj}, keepO ρ h ks = some l → ∀ i : Nat, l[i]? = (ks[i]?).bind fun k => (hget h k).map (convO ρ h) := by
  intro ks
  induction ks with
  | nil => intro l hl i; simp only [keepO, Option.some.injEq] at hl; subst hl; simp
  | cons k r ih =>
    intro l hl i
    simp only [keepO] at hl
    split at hl
    · rename_i o l' h1 h2
      injection hl with hl; subst hl
      cases i with
      | zero => simp [h1]
      | succ i => simp only [List.getElem?_cons_succ]; exact ih h2 i
    · cases hl
theorem Wf.congr {h h' : Heap} {frz : List Nat} {w : World} {ok : Nat → Prop} {μ : Mu} (hw : Wf h frz w ok μ) (he : ∀ k, hget h' k = hget h k) : Wf h' frz w ok μ :=
  ⟨hw.okb, fun k o ho => hw.obj k o (he k ▸ ho), fun k x hx => by rw [he]; exact hw.dom k x hx, fun k k' o o' b s s' h1 h2 => hw.inj k k' o o' b s s' (he k ▸ h1) (he k' ▸ h2)⟩
theorem Step.congr {fb : Nat} {h h1 h1' : Heap} {frz frz1 : List Nat} {w w1 : World} {ok ok1 : Nat → Prop} {μ μ1 : Mu} (hs : Step fb h frz w ok μ h1 frz1 w1 ok1 μ1) (he : ∀ k, hget h1' k = hget h1 k) : Step fb h frz w ok μ h1' frz1 w1 ok1 μ1 :=
  { hs with own := fun b ⟨k, o, sz, a1, a2, a3⟩ => hs.own b ⟨k, o, sz, he k ▸ a1, a2, a3⟩ }
theorem ICall.of_body {T : Tab} (hT : TOk P T) {f : FuncId} {fn : Func} {c : Code} (hf : FnIs P f fn c) {args : List AV} {r : AV} {objs : List AObj} (ks : List Nat) (hnd : ks.Nodup) (hn : args.length ≤ fn.ntmps)
    (hb : AWP P c ⟨0, fn.ntmps, entryEnv 0 args, [], []⟩ (fun e s1 => isRet e ∧ ∃ r0, ares T s1 fn.results.toList = some r0 ∧ lsA (convA (idxIn ks 0) s1.heap r0) = r ∧ keepO (idxIn ks 0) s1.heap ks = some objs ∧ ks.all (fun k => !s1.frz.contains k) = true)) : ICall P f args r objs := by
  intro w ok vals hok hv
  have hw0 : Wf [] [] w ok mu0 := ⟨hok, fun k o h => (by cases h), fun k x h => (by cases h), fun k k' o o' b s s' h => (by cases h)⟩
  have hent := enter_rel (fb := 0) (nt := fn.ntmps) hw0 (fun k x h => by cases h) hv hn
  have hren : Ren (idxIn ks 0) (fun i => ks[i]?) := ⟨fun k k' => by rw [idxIn_spec ks 0 k k' hnd]; simp⟩
  refine calls_of_wp hf.get hf.body (cwp_wp rfl (cwp_mono (hb _ w ok mu0 hent) fun e a1 w1 hp => ?_))
  obtain ⟨s1, ok1, μ1, ⟨hk1, r0, hk2, hk3, hk4, hk5⟩, h1, h2, h3, h4⟩ := hp
  obtain ⟨v, hv1, hv2⟩ := ares_rel hT h3 hk2
  have hfz : ∀ k k', idxIn ks 0 k = some k' → (k' ∈ ([] : List Nat) ↔ k ∈ s1.frz) := by
    intro k k' hkk
    have hmem : k ∈ ks := by
      have := (idxIn_spec ks 0 k k' hnd).1 hkk
      exact List.mem_of_getElem? this.2
    rw [List.all_eq_true] at hk5
    have := hk5 k hmem
    simp only [Bool.not_eq_true', List.contains_eq_mem, decide_eq_false_iff_not] at this
    simp [this]
  have hhe : ∀ k, hget (enumH 0 objs) k = hget (convH (idxIn ks 0) s1.heap s1.heap) k := by
    intro k
    rw [hget_enum, if_pos (Nat.zero_le _), Nat.sub_zero, keepO_get hk4, hget_convH hren]
  have hst : Step 0 [] [] w ok mu0 (enumH 0 objs) [] w1 (okC (idxIn ks 0) s1.heap ok1 μ1) (muC (fun i => ks[i]?) μ1) :=
    ((h4.weaken (Nat.le_refl 0)).trans (Step.conv (frz' := []) hren (fun k hk => by omega) h3.wf hfz)).congr hhe
  have hres : VRel w1 (okC (idxIn ks 0) s1.heap ok1 μ1) (muC (fun i => ks[i]?) μ1) r v := hk3 ▸ (hv2.conv hren h3.wf).ls
  cases e <;> first
    | exact hk1.elim
    | exact ⟨h3.dfr, v, hv1, v, _, _, rfl, hres, (h3.wf.conv hren hfz).congr hhe, hst⟩
end Go.Qd
set_option linter.unusedVariables false
set_option linter.unusedSimpArgs false
namespace Go.Qd
open Go Go.RowKit
variable {P : Program}

/-! ### Handing values to a callee -/
mutual
def closeA (h : Heap) : AV → AV
  | .ptr k j q => match hget h k with
    | some o => if o.closed = true ∧ j < o.rows.length then .vptr ((o.rows.getD j []).drop q) else .undef
    | none => .undef
  | .osc .. => .undef
  | .osl k j n => match hget h k with
    | some o => if o.closed = true ∧ j + n ≤ o.rows.length then .lst ((o.rows.drop j).take n) else .undef
    | none => .undef
  | .esl => .lst []
  | .fn f a b => .fn f (closeL h a) (closeL h b)
  | .iface t v => .iface t (closeA h v)
  | .agg l => .agg (closeL h l)
  | .tup l => .tup (closeL h l)
  | .undef => .undef
  | .bool b => .bool b
  | .int i n => .int i n
  | .nilp => .nilp
  | .nilf => .nilf
  | .vptr c => .vptr c
  | .lst r => .lst r
def closeL (h : Heap) : List AV → List AV
  | [] => []
  | a :: r => closeA h a :: closeL h r
end
mutual
/-- The objects that are read by who is handed this. -/
def keysA : AV → List Nat
  | .osl k _ _ => [k]
  | .ptr k _ _ => [k]
  | .fn _ a b => keysL a ++ keysL b
  | .iface _ v => keysA v
  | .agg l => keysL l
  | .tup l => keysL l
  | _ => []
def keysL : List AV → List Nat
  | [] => []
  | a :: r => keysA a ++ keysL r
end
theorem closeL_len (h : Heap) (l : List AV) : (closeL h l).length = l.length := by
  induction l with
  | nil => rfl
  | cons a r ih => simp [closeL, ih]
theorem closeL_get (h : Heap) {l : List AV} (i : Nat) (hi : i < (closeL h l).length) : (closeL h l)[i] = closeA h (l[i]'(by rw [closeL_len] at hi; exact hi)) := by
  induction l generalizing i with
  | nil => simp [closeL] at hi
  | cons a r ih =>
    cases i with
    | zero => rfl
    | succ i =>
      simp only [closeL, List.getElem_cons_succ]
      exact ih i (by simpa [closeL] using hi)
theorem keysL_get {l : List AV} {k i : Nat} (hi : i < l.length) (h : k ∈ keysA l[i]) : k ∈ keysL l := by
  induction l generalizing i with
  | nil => cases hi
  | cons a r ih =>
    simp only [keysL, List.mem_append]
    cases i with
    | zero => exact .inl h
    | succ i => exact .inr (ih (by simpa using hi) h)
theorem VRel.close {h : Heap} {frz : List Nat} {w : World} {ok ok' : Nat → Prop} {μ : Mu} (hw : Wf h frz w ok μ) (hkp : Kept ok ok' w w) {a : AV} {v : Value} (hv : VRel w ok μ a v) (hk : ∀ k, k ∈ keysA a → ∀ b sz, μ k = some (b, sz) → ok' b) :
    VRel w ok' mu0 (closeA h a) v := by
  have key : ∀ {μ0 : Mu} {a : AV} {v : Value}, VRel w ok μ0 a v → μ0 = μ → (∀ k, k ∈ keysA a → ∀ b sz, μ k = some (b, sz) → ok' b) → VRel w ok' mu0 (closeA h a) v := by
    intro μ0 a v hv
    induction hv with
    | undef μ v => exact fun _ _ => .undef _ _
    | bool => exact fun _ _ => .bool _ _
    | int => exact fun _ _ => .int _ _ _
    | nilp => exact fun _ _ => .nilp _
    | nilf => exact fun _ _ => .nilf _
    | esl => exact fun _ _ => lst_nil (Nat.zero_le _)
    | ptr μ1 o j q b sz hm =>
      intro e hkk; subst e
      simp only [closeA]
      cases ho : hget h o with
      | none => exact .undef _ _
      | some ob =>
        simp only
        split
        · rename_i hc
          obtain ⟨hc1, hc2⟩ := hc
          have hgd : ob.rows.getD j [] = ob.rows[j] := by simp [List.getD, hc2]
          rw [hgd]
          rcases hw.obj o ob ho with ⟨b', cs, g1, g2, g3, g4, g5, g6⟩ | ⟨_, g1⟩
          · rw [hm] at g1; injection g1 with g1; injection g1 with e1 e2; subst e1
            unfold AObj.mu at g6
            rw [if_pos hc1] at g6
            refine .vptr _ _ _ _ (fun i => (cs[j * ob.sz + (q + i)]?).getD Go.undef) (hkk o (by simp [keysA]) b sz hm) (fun i hi => ?_) (fun i hi => ?_)
            · simp only [List.length_drop] at hi
              obtain ⟨u, a1, a2⟩ := g6.at_ j hc2 (q + i) (by omega)
              simp only [World.cell?, g2]
              rw [e2, Nat.add_assoc, a1]; rfl
            · simp only [List.length_drop] at hi
              obtain ⟨u, a1, a2⟩ := g6.at_ j hc2 (q + i) (by omega)
              rw [a1]
              simp only [List.getElem_drop]
              exact a2.mono hkp (MuLe.refl _)
          · rw [hm] at g1; cases g1
        · exact .undef _ _
    | osc => exact fun _ _ => .undef _ _
    | vptr μ1 cs b off us hb hc hr' ih => exact fun _ _ => .vptr _ _ _ _ us (hkp.okLe _ hb) hc (fun i hi => (hr' i hi).mono hkp (MuLe.refl _))
    | lst μ1 rows A cap sz us h1 h2 hs hc hr' ih =>
      exact fun _ _ => .lst _ _ _ _ sz us h1 h2 hs (fun hp => by
        obtain ⟨b, off, e, hb, hcs⟩ := hc hp
        exact ⟨b, off, e, hkp.okLe _ hb, hcs⟩) (fun j hj q hq => (hr' j hj q hq).mono hkp (MuLe.refl _))
    | osl μ1 o j len b sz cap hm h1 h2 hs =>
      intro e hkk; subst e
      simp only [closeA]
      cases ho : hget h o with
      | none => exact .undef _ _
      | some ob =>
        simp only
        split
        · rename_i hc
          exact hw.lst_of hkp ho hc.1 hc.2 (fun b sz hb => hkk o (by simp [keysA]) b sz hb) (.osl _ _ _ _ _ _ _ hm h1 h2 hs)
        · exact .undef _ _
    | osl0 μ1 o j A =>
      intro e hkk
      simp only [closeA]
      cases ho : hget h o with
      | none => exact .undef _ _
      | some ob =>
        simp only
        split
        · rw [List.take_zero]; exact lst_nil (Nat.zero_le _)
        · exact .undef _ _
    | fn μ1 f first cap fs cs hl hm' h1 h2 ih ih' =>
      intro e hkk
      simp only [keysA, List.mem_append] at hkk
      exact .fn _ _ _ _ _ _ (by rw [closeL_len]; exact hl) (by rw [closeL_len]; exact hm') (fun i g1 g2 => by rw [closeL_get]; exact ih i _ g2 e (fun k hk => hkk k (.inl (keysL_get _ hk))))
        (fun i g1 g2 => by rw [closeL_get]; exact ih' i _ g2 e (fun k hk => hkk k (.inr (keysL_get _ hk))))
    | iface μ1 t v u h1 ih => exact fun e hkk => .iface _ _ _ _ (ih e hkk)
    | agg μ1 cs us hl h1 ih => exact fun e hkk => .agg _ _ _ (by rw [closeL_len]; exact hl) (fun i g1 g2 => by rw [closeL_get]; exact ih i _ g2 e (fun k hk => hkk k (keysL_get _ hk)))
    | tup μ1 cs us hl h1 ih => exact fun e hkk => .tup _ _ _ (by rw [closeL_len]; exact hl) (fun i g1 g2 => by rw [closeL_get]; exact ih i _ g2 e (fun k hk => hkk k (keysL_get _ hk)))
  exact key hv rfl hk

def AS.freeze (s : AS) (ks : List Nat) : AS := { s with frz := ks ++ s.frz }
def okF (ok : Nat → Prop) (μ : Mu) (ks : List Nat) : Nat → Prop := fun b => ok b ∨ ∃ k sz, k ∈ ks ∧ μ k = some (b, sz)
theorem Rel.freeze {s : AS} {a : Act} {w : World} {ok : Nat → Prop} {μ : Mu} (hr : Rel s a w ok μ) (ks : List Nat) : Rel (s.freeze ks) a w (okF ok μ ks) μ ∧ Kept ok (okF ok μ ks) w w ∧
    Step s.fb s.heap s.frz w ok μ s.heap (s.freeze ks).frz w (okF ok μ ks) μ := by
  have hkp : Kept ok (okF ok μ ks) w w := ⟨fun b hb => .inl hb, fun _ _ => rfl, fun _ cs _ _ hb => ⟨cs, hb, rfl⟩⟩
  have hblk : ∀ k b sz, μ k = some (b, sz) → b < w.heap.size ∧ ∃ o, hget s.heap k = some o ∧ (k ∈ s.frz → ok b) := fun k b sz hm => by
    obtain ⟨o, ho⟩ := hr.wf.dom k _ hm
    rcases hr.wf.obj k o ho with ⟨b', cs', h1, h2, h3, h4, h5, _⟩ | ⟨_, h1⟩
    · rw [h1] at hm; injection hm with hm; injection hm with hm _; subst hm
      exact ⟨(Array.getElem?_eq_some_iff.1 h2).1, o, ho, h5⟩
    · rw [h1] at hm; cases hm
  refine ⟨⟨hr.dfr, hr.nt, fun t v h => (hr.env t v h).mono hkp (MuLe.refl _), ⟨?_, fun k o ho => ?_, hr.wf.dom, hr.wf.inj⟩, hr.top⟩, hkp, ⟨hkp, rfl, rfl, rfl, Nat.le_refl _, fun _ _ _ => rfl, ?_, ?_, fun _ _ _ h => h⟩⟩
  · rintro b (hb | ⟨k, sz, _, hm⟩)
    · exact hr.wf.okb b hb
    · exact (hblk k b sz hm).1
  · rcases hr.wf.obj k o ho with ⟨b, cs, g1, g2, g3, g4, g5, g6⟩ | h
    · refine .inl ⟨b, cs, g1, g2, g3, fun hz => ?_, fun hz => ?_, g6.mono hkp (MuLe.refl _)⟩
      · simp only [AS.freeze, List.mem_append, not_or] at hz
        rintro (hb | ⟨k2, sz, hk2, hm2⟩)
        · exact g4 hz.2 hb
        · obtain ⟨_, o2, ho2, _⟩ := hblk k2 b sz hm2
          have := hr.wf.inj k k2 o o2 b o.sz sz ho ho2 g1 hm2
          subst this; exact hz.1 hk2
      · simp only [AS.freeze, List.mem_append] at hz
        rcases hz with hz | hz
        · exact .inr ⟨k, o.sz, hz, g1⟩
        · exact .inl (g5 hz)
    · exact .inr h
  · rintro b (hb | ⟨k, sz, hk, hm⟩)
    · exact .inl hb
    · obtain ⟨_, o, ho, hz⟩ := hblk k b sz hm
      by_cases hzz : k ∈ s.frz
      · exact .inl (hz hzz)
      · exact .inr (.inl ⟨k, o, sz, ho, hzz, hm⟩)
  · rintro b ⟨k, o, sz, h1, h2, h3⟩
    simp only [AS.freeze, List.mem_append, not_or] at h2
    exact .inl ⟨k, o, sz, h1, h2.2, h3⟩

/-! ### What a callee's objects are called with us -/
mutual
def renA (base : Nat) : AV → AV
  | .ptr k j q => .ptr (base + k) j q
  | .osl k j n => .osl (base + k) j n
  | .osc .. => .undef
  | .fn f a b => .fn f (renL base a) (renL base b)
  | .iface t v => .iface t (renA base v)
  | .agg l => .agg (renL base l)
  | .tup l => .tup (renL base l)
  | .undef => .undef
  | .bool b => .bool b
  | .int i n => .int i n
  | .nilp => .nilp
  | .nilf => .nilf
  | .esl => .esl
  | .vptr c => .vptr c
  | .lst r => .lst r
def renL (base : Nat) : List AV → List AV
  | [] => []
  | a :: r => renA base a :: renL base r
end
theorem renL_len (base : Nat) (l : List AV) : (renL base l).length = l.length := by
  induction l with
  | nil => rfl
  | cons a r ih => simp [renL, ih]
theorem renL_get (base : Nat) {l : List AV} (i : Nat) (hi : i < (renL base l).length) : (renL base l)[i] = renA base (l[i]'(by rw [renL_len] at hi; exact hi)) := by
  induction l generalizing i with
  | nil => simp [renL] at hi
  | cons a r ih =>
    cases i with
    | zero => rfl
    | succ i =>
      simp only [renL, List.getElem_cons_succ]
      exact ih i (by simpa [renL] using hi)
theorem VRel.ren {w : World} {ok : Nat → Prop} {μ : Mu} {a : AV} {v : Value} (h : VRel w ok μ a v) (base : Nat) : ∀ {μ' : Mu}, (∀ k x, μ k = some x → μ' (base + k) = some x) → VRel w ok μ' (renA base a) v := by
  induction h with
  | undef μ v => exact fun _ => .undef _ _
  | bool => exact fun _ => .bool _ _
  | int => exact fun _ => .int _ _ _
  | nilp => exact fun _ => .nilp _
  | nilf => exact fun _ => .nilf _
  | esl => exact fun _ => .esl _ _
  | ptr μ o j q b sz h => exact fun hm => .ptr _ _ _ _ _ _ (hm _ _ h)
  | vptr μ cs b off us hb hc hr ih => exact fun _ => .vptr _ _ _ _ us hb hc hr
  | lst μ rows A cap sz us h1 h2 hs hc hr ih => exact fun _ => .lst _ _ _ _ sz us h1 h2 hs hc hr
  | osl μ o j len b sz cap h h1 h2 hs => exact fun hm => .osl _ _ _ _ _ _ _ (hm _ _ h) h1 h2 hs
  | osl0 => exact fun _ => .osl0 _ _ _ _
  | osc => exact fun _ => .undef _ _
  | fn μ f first cap fs cs hl hm' h h' ih ih' => exact fun hm => .fn _ _ _ _ _ _ (by rw [renL_len]; exact hl) (by rw [renL_len]; exact hm') (fun i g1 g2 => by rw [renL_get]; exact ih i _ g2 hm) (fun i g1 g2 => by rw [renL_get]; exact ih' i _ g2 hm)
  | iface μ t v u h ih => exact fun hm => .iface _ _ _ _ (ih hm)
  | agg μ cs us hl h ih => exact fun hm => .agg _ _ _ (by rw [renL_len]; exact hl) (fun i g1 g2 => by rw [renL_get]; exact ih i _ g2 hm)
  | tup μ cs us hl h ih => exact fun hm => .tup _ _ _ (by rw [renL_len]; exact hl) (fun i g1 g2 => by rw [renL_get]; exact ih i _ g2 hm)
theorem hget_append (l1 l2 : Heap) (k : Nat) : hget (l1 ++ l2) k = match hget l1 k with | some o => some o | none => hget l2 k := by
  induction l1 with
  | nil => rfl
  | cons x r ih =>
    obtain ⟨j, o⟩ := x
    simp only [List.cons_append, hget]
    split
    · rfl
    · exact ih
def freeKeys (s : AS) (base n : Nat) : Bool := (List.range n).all fun i => freeKey s (base + i)
/-- Behind a call that was handed values: what it gave, and its objects. -/
def AS.gave (s : AS) (dst : Option Tmp) (base : Nat) (ks : List Nat) (r : AV) (objs : List AObj) : AS :=
  { fb := s.fb, nt := s.nt, env := (match dst with | some d => eput s.env d (renA base r) | none => s.env), heap := s.heap ++ enumH base objs, frz := ks ++ s.frz }
theorem gave_rel {s : AS} {a : Act} {w w' : World} {ok ok' : Nat → Prop} {μ μ' : Mu} {ks : List Nat} (hr : Rel s a w ok μ) {objs : List AObj} (hwo : Wf (enumH 0 objs) [] w' ok' μ') (hs : Step 0 [] [] w (okF ok μ ks) mu0 (enumH 0 objs) [] w' ok' μ')
    {base : Nat} (hfree : freeKeys s base objs.length = true) (hfk : ∀ i, i < objs.length → base + i ∉ ks) (hcl : objs.all (·.closed) = true) {r : AV} {v : Value} (hv : VRel w' ok' μ' r v) (dst : Option Tmp) (hd : ∀ d, dst = some d → d < s.nt) :
    ∃ μ2, Rel (s.gave dst base ks r objs) (a.put dst v) w' ok' μ2 ∧ Step s.fb s.heap s.frz w ok μ (s.gave dst base ks r objs).heap (s.gave dst base ks r objs).frz w' ok' μ2 := by
  obtain ⟨hr1, hkp1, hst1⟩ := hr.freeze ks
  have hfr : ∀ i, i < objs.length → hget s.heap (base + i) = none ∧ base + i < s.top ∧ s.fb ≤ base + i ∧ base + i ∉ s.frz := fun i hi => by
    unfold freeKeys at hfree
    rw [List.all_eq_true] at hfree
    exact freeKey_spec (hfree i (List.mem_range.2 hi))
  have hnone : ∀ i, i < objs.length → μ (base + i) = none := fun i hi => by
    cases hm : μ (base + i) with
    | none => rfl
    | some x => obtain ⟨o, ho⟩ := hr.wf.dom _ x hm; rw [(hfr i hi).1] at ho; cases ho
  let μ2 : Mu := fun k => if base ≤ k ∧ k < base + objs.length then μ' (k - base) else μ k
  have hin : ∀ i, i < objs.length → μ2 (base + i) = μ' i := fun i hi => by
    show (if _ then _ else _) = _
    rw [if_pos (by omega)]; congr 1; omega
  have hout : ∀ k, ¬ (base ≤ k ∧ k < base + objs.length) → μ2 k = μ k := fun k hk => if_neg hk
  have hle : MuLe μ μ2 := fun k x hx => by
    by_cases e : base ≤ k ∧ k < base + objs.length
    · have := hnone (k - base) (by omega)
      rw [show base + (k - base) = k by omega] at this
      rw [this] at hx; cases hx
    · rw [hout k e]; exact hx
  have hdomE : ∀ k x, μ' k = some x → k < objs.length := fun k x hx => by
    obtain ⟨o, ho⟩ := hwo.dom k x hx
    rw [hget_enum, if_pos (Nat.zero_le _), Nat.sub_zero] at ho
    exact (List.getElem?_eq_some_iff.1 ho).1
  have hle' : ∀ k x, μ' k = some x → μ2 (base + k) = some x := fun k x hx => by rw [hin k (hdomE k x hx)]; exact hx
  have hheap : ∀ k, hget (s.heap ++ enumH base objs) k = if base ≤ k ∧ k < base + objs.length then objs[k - base]? else hget s.heap k := by
    intro k
    rw [hget_append, hget_enum]
    by_cases e : base ≤ k ∧ k < base + objs.length
    · rw [if_pos e, if_pos e.1]
      have := (hfr (k - base) (by omega)).1
      rw [show base + (k - base) = k by omega] at this
      rw [this]
    · rw [if_neg e]
      cases hk : hget s.heap k with
      | some o => rfl
      | none =>
        simp only
        split
        · rename_i hb; rw [List.getElem?_eq_none (by omega)]
        · rfl
  have hbelow := hs.below
  have hblk : ∀ k o b sz, hget s.heap k = some o → μ k = some (b, sz) → b < w.heap.size := fun k o b sz ho hm => by
    rcases hr.wf.obj k o ho with ⟨b', cs', h1, h2, _⟩ | ⟨_, h1⟩
    · rw [h1] at hm; injection hm with hm; injection hm with hm _; subst hm
      exact (Array.getElem?_eq_some_iff.1 h2).1
    · rw [h1] at hm; cases hm
  have hblkE : ∀ i o b sz, objs[i]? = some o → μ' i = some (b, sz) → w.heap.size ≤ b := fun i o b sz ho hm => by
    rcases hs.own b ⟨i, o, sz, by rw [hget_enum, if_pos (Nat.zero_le _), Nat.sub_zero]; exact ho, by simp, hm⟩ with ⟨_, _, _, h, _⟩ | h
    · cases h
    · exact h
  have hkp : Kept (okF ok μ ks) ok' w w' := hs.kept
  have hkpa : Kept ok ok' w w' := hkp1.trans hkp
  have henv : ∀ t x, eget s.env t = some x → VRel w' ok' μ2 x (a.tmps.getD t Go.undef) := fun t x hx => (hr.env t x hx).mono hkpa hle
  refine ⟨μ2, ⟨?_, ?_, fun t x hx => ?_, ⟨hwo.okb, fun k o ho => ?_, fun k x hx => ?_, fun k1 k2 o1 o2 b s1 s2 h1 h2 h3 h4 => ?_⟩, fun k x hx => ?_⟩, ⟨hkpa, hs.os, hs.tape, hs.output, hs.size, fun b hb hn => hbelow.block b hb, ?_, ?_, fun k x hk hx => hle k x hx⟩⟩
  · cases dst <;> exact hr.dfr
  · cases dst with
    | none => exact hr.nt
    | some d => simp [Act.put, AS.gave, hr.nt]
  · cases dst with
    | none => exact henv t x hx
    | some d =>
      simp only [AS.gave, eget_eput] at hx
      rw [getD_put (by rw [hr.nt]; exact hd d rfl)]
      split at hx
      · rename_i e; rw [if_pos e]; injection hx with hx; subst hx; exact hv.ren base hle'
      · rename_i e; rw [if_neg e]; exact henv t x hx
  · simp only [AS.gave, hheap] at ho ⊢
    split at ho
    · rename_i e
      rcases hwo.obj (k - base) o (by rw [hget_enum, if_pos (Nat.zero_le _), Nat.sub_zero]; exact ho) with ⟨b, cs, g1, g2, g3, g4, g5, g6⟩ | ⟨g1, g2⟩
      · have hkk : base + (k - base) = k := by omega
        refine .inl ⟨b, cs, by rw [← hkk, hle' _ _ g1], g2, g3, fun _ => g4 (by simp), fun hz => ?_, ?_⟩
        · simp only [List.mem_append] at hz
          rcases hz with hz | hz
          · exact absurd hz (by rw [← hkk]; exact hfk _ (by omega))
          · exact absurd hz (by rw [← hkk]; exact (hfr _ (by omega)).2.2.2)
        · have hc : o.closed = true := by
            rw [List.all_eq_true] at hcl
            exact hcl o (List.mem_of_getElem? ho)
          unfold AObj.mu at g6 ⊢
          rw [if_pos hc] at g6 ⊢; exact g6
      · refine .inr ⟨g1, ?_⟩
        have := hin (k - base) (by omega)
        rw [show base + (k - base) = k by omega] at this
        rw [this]; exact g2
    · rename_i e
      rcases hr1.wf.obj k o ho with ⟨b, cs, g1, g2, g3, g4, g5, g6⟩ | ⟨g1, g2⟩
      · have hb := hblk k o b o.sz ho g1
        refine .inl ⟨b, cs, hle _ _ g1, by rw [hbelow.block b hb]; exact g2, g3, fun hz hb2 => ?_, fun hz => hkp.okLe b (g5 hz), g6.mono hkp (AObj.mu_le o hle)⟩
        rcases hs.okNew b hb2 with h | ⟨_, _, _, h, _⟩ | h
        · exact g4 hz h
        · cases h
        · omega
      · exact .inr ⟨g1, by rw [hout k e]; exact g2⟩
  · simp only [AS.gave, hheap]
    by_cases e : base ≤ k ∧ k < base + objs.length
    · rw [if_pos e, List.getElem?_eq_getElem (by omega)]; exact ⟨_, rfl⟩
    · rw [if_neg e]
      rw [hout k e] at hx
      exact hr.wf.dom k x hx
  · simp only [AS.gave, hheap] at h1 h2
    by_cases e1 : base ≤ k1 ∧ k1 < base + objs.length <;> by_cases e2 : base ≤ k2 ∧ k2 < base + objs.length
    · rw [if_pos e1] at h1
      rw [if_pos e2] at h2
      have q1 := hin (k1 - base) (by omega)
      have q2 := hin (k2 - base) (by omega)
      rw [show base + (k1 - base) = k1 by omega, h3] at q1
      rw [show base + (k2 - base) = k2 by omega, h4] at q2
      have := hwo.inj (k1 - base) (k2 - base) o1 o2 b s1 s2 (by rw [hget_enum, if_pos (Nat.zero_le _), Nat.sub_zero]; exact h1) (by rw [hget_enum, if_pos (Nat.zero_le _), Nat.sub_zero]; exact h2) q1.symm q2.symm
      omega
    · rw [if_pos e1] at h1
      rw [if_neg e2] at h2
      have q1 := hin (k1 - base) (by omega)
      rw [show base + (k1 - base) = k1 by omega, h3] at q1
      rw [hout k2 e2] at h4
      have a1 := hblkE _ o1 b s1 h1 q1.symm
      have a2 := hblk k2 o2 b s2 h2 h4
      omega
    · rw [if_neg e1] at h1
      rw [if_pos e2] at h2
      have q2 := hin (k2 - base) (by omega)
      rw [show base + (k2 - base) = k2 by omega, h4] at q2
      rw [hout k1 e1] at h3
      have a1 := hblkE _ o2 b s2 h2 q2.symm
      have a2 := hblk k1 o1 b s1 h1 h3
      omega
    · rw [if_neg e1] at h1
      rw [if_neg e2] at h2
      rw [hout k1 e1] at h3
      rw [hout k2 e2] at h4
      exact hr.wf.inj k1 k2 o1 o2 b s1 s2 h1 h2 h3 h4
  · by_cases e : base ≤ k ∧ k < base + objs.length
    · have := (hfr (k - base) (by omega)).2.1
      show k < s.top
      omega
    · rw [hout k e] at hx; exact hr.top k x hx
  · intro b hb
    rcases hs.okNew b hb with h | ⟨_, _, _, h, _⟩ | h
    · exact hst1.okNew b h
    · cases h
    · exact .inr (.inr h)
  · rintro b ⟨k, o, sz, h1, h2, h3⟩
    simp only [AS.gave, hheap, List.mem_append, not_or] at h1 h2
    by_cases e : base ≤ k ∧ k < base + objs.length
    · rw [if_pos e] at h1
      have q1 := hin (k - base) (by omega)
      rw [show base + (k - base) = k by omega, h3] at q1
      exact .inr (hblkE _ o b sz h1 q1.symm)
    · rw [if_neg e] at h1
      rw [hout k e] at h3
      exact .inl ⟨k, o, sz, h1, h2.2, h3⟩

/-- A call that is handed values: by its contract. -/
theorem icall_calls {s : AS} {a : Act} {w : World} {ok : Nat → Prop} {μ : Mu} (hr : Rel s a w ok μ) {f : FuncId} {l : List AV} {vals : Array Value} (hv : VRels w ok μ l vals.toList) {r : AV} {objs : List AObj} (hc : ICall P f (closeL s.heap l) r objs)
    {base : Nat} (hfree : freeKeys s base objs.length = true) (hfk : (List.range objs.length).all (fun i => !(keysL l).contains (base + i)) = true) (hcl : objs.all (·.closed) = true) (dst : Option Tmp) (hd : ∀ d, dst = some d → d < s.nt) :
    Calls P f vals w fun e w' => ∃ v ok' μ', e = .returned v ∧ Rel (s.gave dst base (keysL l) r objs) (a.put dst v) w' ok' μ' ∧ Step s.fb s.heap s.frz w ok μ (s.gave dst base (keysL l) r objs).heap (s.gave dst base (keysL l) r objs).frz w' ok' μ' := by
  obtain ⟨hr1, hkp1, hst1⟩ := hr.freeze (keysL l)
  have hvals : VRels w (okF ok μ (keysL l)) mu0 (closeL s.heap l) vals.toList := ⟨by rw [closeL_len]; exact hv.len, fun i h1 h2 => by
    rw [closeL_get]
    exact (hv.at_ i _ h2).close hr.wf hkp1 (fun k hk b sz hm => .inr ⟨k, sz, keysL_get _ hk, hm⟩)⟩
  refine Calls.mono (hc w _ vals hr1.wf.okb hvals) fun e w' he => ?_
  obtain ⟨v, ok', μ', rfl, h1, h2, h3⟩ := he
  rw [List.all_eq_true] at hfk
  obtain ⟨μ2, g1, g2⟩ := gave_rel hr h2 h3 hfree (fun i hi => by
    have := hfk i (List.mem_range.2 hi)
    simpa using this) hcl h1 dst hd
  exact ⟨v, ok', μ2, rfl, g1, g2⟩
theorem AOps.icall {ops : Array Oper} {o : Oper} {rest : List Oper} {s : AS} {N : AS → Prop} (hg : o.guard = none) (hd : ∀ d, o.dst = some d → d < s.nt) {fx : Operand} {args : Array Operand} {ts : Array TypeId}
    (ho : o.op = .call { callee := .value fx, args := args, argTypes := ts }) {f : FuncId} {fn : Func} {c : Code} (hf : FnIs P f fn c) {first cap l : List AV} (hfx : aev s.env fx = some (.fn f first cap)) (hl : aevs s.env args.toList = some l)
    {r : AV} {objs : List AObj} (hc : ICall P f (closeL s.heap (first ++ l ++ cap)) r objs) {base : Nat} (hfree : freeKeys s base objs.length = true) (hfk : (List.range objs.length).all (fun i => !(keysL (first ++ l ++ cap)).contains (base + i)) = true)
    (hcl : objs.all (·.closed) = true) (hn : AOps P ops rest (s.gave o.dst base (keysL (first ++ l ++ cap)) r objs) N) : AOps P ops (o :: rest) s N := by
  intro a w ok μ hr
  obtain ⟨vals, hrun, hvals⟩ := call_run (P := P) hr ho hf hfx hl
  refine oList_plain hg fun K hK => ?_
  unfold oOp
  rw [hrun]
  simp only [oupon]
  refine Calls.mono (icall_calls hr hvals hc hfree hfk hcl o.dst hd) fun e w1 he => ?_
  obtain ⟨v, ok', μ', rfl, hrel, hst⟩ := he
  exact hK _ _ (hn.after (s := s) rfl rfl hrel hst)
end Go.Qd
set_option linter.unusedVariables false
set_option linter.unusedSimpArgs false
namespace Go.Qd
open Go Go.RowKit
variable {P : Program}

/-! ### A region whose order is open -/
/-- Two states of which the same is known. -/
structure AS.Eqv (s s' : AS) : Prop where
  fb : s'.fb = s.fb
  nt : s'.nt = s.nt
  env : ∀ t, eget s'.env t = eget s.env t
  heap : ∀ k, hget s'.heap k = hget s.heap k
  frz : ∀ k, k ∈ s'.frz ↔ k ∈ s.frz
theorem Wf.eqv {s s' : AS} (h : s.Eqv s') {w : World} {ok : Nat → Prop} {μ : Mu} (hw : Wf s.heap s.frz w ok μ) : Wf s'.heap s'.frz w ok μ :=
  ⟨hw.okb, fun k o ho => by
    rcases hw.obj k o (h.heap k ▸ ho) with ⟨b, cs, g1, g2, g3, g4, g5, g6⟩ | g
    · exact .inl ⟨b, cs, g1, g2, g3, fun hz => g4 (fun hz2 => hz ((h.frz k).2 hz2)), fun hz => g5 ((h.frz k).1 hz), g6⟩
    · exact .inr g, fun k x hx => by rw [h.heap]; exact hw.dom k x hx, fun k k' o o' b s1 s2 h1 h2 => hw.inj k k' o o' b s1 s2 (h.heap k ▸ h1) (h.heap k' ▸ h2)⟩
theorem Rel.eqv {s s' : AS} (h : s.Eqv s') {a : Act} {w : World} {ok : Nat → Prop} {μ : Mu} (hr : Rel s a w ok μ) : Rel s' a w ok μ :=
  ⟨hr.dfr, hr.nt.trans h.nt.symm, fun t v ht => hr.env t v (h.env t ▸ ht), hr.wf.eqv h, by unfold AS.top; rw [h.fb, h.nt]; exact hr.top⟩
theorem Own.eqv {s s' : AS} (h : s.Eqv s') {μ : Mu} {b : Nat} : Own s'.heap s'.frz μ b ↔ Own s.heap s.frz μ b := by
  constructor
  · rintro ⟨k, o, sz, h1, h2, h3⟩
    exact ⟨k, o, sz, h.heap k ▸ h1, fun hz => h2 ((h.frz k).2 hz), h3⟩
  · rintro ⟨k, o, sz, h1, h2, h3⟩
    exact ⟨k, o, sz, (h.heap k).symm ▸ h1, fun hz => h2 ((h.frz k).1 hz), h3⟩
theorem Step.eqv {s1 s1' : AS} (h : s1.Eqv s1') {fb : Nat} {h0 : Heap} {f0 : List Nat} {w w1 : World} {ok ok1 : Nat → Prop} {μ μ1 : Mu} (hs : Step fb h0 f0 w ok μ s1.heap s1.frz w1 ok1 μ1) : Step fb h0 f0 w ok μ s1'.heap s1'.frz w1 ok1 μ1 :=
  { hs with own := fun b hb => hs.own b ((Own.eqv h).1 hb) }

/-- Operation i goes from s to s'. -/
def Goes (P : Program) (ops : Array Oper) (i : Nat) (s s' : AS) : Prop := ∀ a w ok μ, Rel s a w ok μ → ∀ (K : Act → World → Prop) (Q : Exit → Act → World → Prop),
  (∀ a' w' ok' μ', Rel s' a' w' ok' μ' → Step s.fb s.heap s.frz w ok μ s'.heap s'.frz w' ok' μ' → K a' w') → oOpI P ops i K a w

def keysU (o : Out) : List Nat := o.upd.map (·.1)
/-- What an operation looks at. -/
structure Agree (ops : Array Oper) (o : Oper) (e : Out) (s s' : AS) : Prop where
  fb : s'.fb = s.fb
  nt : s'.nt = s.nt
  env : ∀ t, t ∈ o.looksAt ops → eget s'.env t = eget s.env t
  heap : ∀ k, k ∈ e.rd ∨ k ∈ keysU e → hget s'.heap k = hget s.heap k
  frz : ∀ k, k ∈ keysU e → (k ∈ s'.frz ↔ k ∈ s.frz)

def stOf (ops : Array Oper) (effs : List Out) (s0 : AS) (S : Nat → Bool) : Nat → AS
  | 0 => s0
  | m + 1 => bif S m then (stOf ops effs s0 S m).apply ((ops[m]?).bind (·.dst)) (effs.getD m (.pure .undef)) else stOf ops effs s0 S m
theorem apply_fb (s : AS) (d : Option Tmp) (o : Out) : (s.apply d o).fb = s.fb ∧ (s.apply d o).nt = s.nt := ⟨rfl, rfl⟩
theorem stOf_fb (ops : Array Oper) (effs : List Out) (s0 : AS) (S : Nat → Bool) (m : Nat) : (stOf ops effs s0 S m).fb = s0.fb ∧ (stOf ops effs s0 S m).nt = s0.nt := by
  induction m with
  | zero => exact ⟨rfl, rfl⟩
  | succ m ih => simp only [stOf]; cases S m <;> exact ih
theorem hget_hputs_ne {l : List (Nat × AObj)} {h : Heap} {k : Nat} (hk : k ∉ l.map (·.1)) : hget (hputs h l) k = hget h k := by
  induction l generalizing h with
  | nil => rfl
  | cons x r ih =>
    obtain ⟨j, o⟩ := x
    simp only [List.map_cons, List.mem_cons, not_or] at hk
    rw [hputs_cons, ih hk.2, hget_hput, if_neg (fun e => hk.1 e.symm)]
theorem hget_hputs_in {l : List (Nat × AObj)} {h h' : Heap} {k : Nat} (hk : k ∈ l.map (·.1)) : hget (hputs h l) k = hget (hputs h' l) k := by
  induction l generalizing h h' with
  | nil => cases hk
  | cons x r ih =>
    obtain ⟨j, o⟩ := x
    rw [hputs_cons, hputs_cons]
    by_cases e : k ∈ r.map (·.1)
    · exact ih e
    · rw [hget_hputs_ne e, hget_hputs_ne e]
      simp only [List.map_cons, List.mem_cons] at hk
      rcases hk with rfl | hk
      · simp [hget_hput]
      · exact absurd hk e

/-- i is done before j by the edges. -/
def orderedB (B : List Nat) (i j : Nat) : Bool := (B.getD j 0).testBit i
def dstOf (ops : Array Oper) (i : Nat) : Option Tmp := (ops[i]?).bind (·.dst)
def looksOf (ops : Array Oper) (i : Nat) : List Tmp := ((ops[i]?).map (Oper.looksAt ops)).getD []
def dis (a b : List Nat) : Bool := a.all fun x => !b.contains x
theorem dis_spec {a b : List Nat} (h : dis a b = true) : ∀ x, x ∈ a → x ∉ b := by
  unfold dis at h
  rw [List.all_eq_true] at h
  intro x hx
  have := h x hx
  simpa using this
/-- Two operations that may go in either order. -/
def freeOf (ops : Array Oper) (effs : List Out) (i j : Nat) : Bool :=
  let ei := effs.getD i (.pure .undef)
  let ej := effs.getD j (.pure .undef)
  dis (dstOf ops i).toList (looksOf ops j) && dis (dstOf ops j).toList (looksOf ops i) && dis (dstOf ops i).toList (dstOf ops j).toList &&
    dis (keysU ei) (ej.rd ++ keysU ej) && dis (keysU ej) ei.rd && dis ei.frz (keysU ej) && dis ej.frz (keysU ei)
def pairsOk (ops : Array Oper) (effs : List Out) (B : List Nat) : Bool :=
  (List.range ops.size).all fun j => (List.range j).all fun i => orderedB B i j || freeOf ops effs i j
/-- The bits say no more than the edges. -/
def bitsOk (ops : Array Oper) (B : List Nat) : Bool :=
  (List.range ops.size).all fun j => (List.range j).all fun i => !orderedB B i j ||
    (((ops[j]?).map (·.after.toList)).getD []).any fun e => Region.binds .any e && decide (e.on < j) && (e.on == i || (decide (i < e.on) && orderedB B i e.on))
def edgesOk (ops : Array Oper) : Bool := (List.range ops.size).all fun j => (((ops[j]?).map (·.after.toList)).getD []).all fun e => !Region.binds .any e || decide (e.on < j)
structure AnyOk (ops : Array Oper) (effs : List Out) (B : List Nat) : Prop where
  pairs : pairsOk ops effs B = true
  bits : bitsOk ops B = true
  edges : edgesOk ops = true

def Closed (ops : Array Oper) (S : Nat → Bool) : Prop := ∀ j o, S j = true → ops[j]? = some o → ∀ e ∈ o.after, Region.binds .any e = true → S e.on = true
theorem closed_bits {ops : Array Oper} {B : List Nat} (hb : bitsOk ops B = true) {S : Nat → Bool} (hS : Closed ops S) : ∀ j, j < ops.size → (∀ o, ops[j]? = some o → ∀ e ∈ o.after, Region.binds .any e = true → S e.on = true) →
    ∀ i, i < j → orderedB B i j = true → S i = true := by
  intro j
  induction j using Nat.strongRecOn with
  | _ j ih =>
    intro hj hpre i hi ho
    unfold bitsOk at hb
    rw [List.all_eq_true] at hb
    have h1 := hb j (List.mem_range.2 hj)
    rw [List.all_eq_true] at h1
    have h2 := h1 i (List.mem_range.2 hi)
    rw [ho] at h2
    simp only [Bool.not_true, Bool.false_or, List.any_eq_true, Bool.and_eq_true, Bool.or_eq_true, decide_eq_true_eq, beq_iff_eq] at h2
    obtain ⟨e, he, ⟨hbind, hlt⟩, hor⟩ := h2
    have hjo : ops[j]? = some ops[j] := Array.getElem?_eq_getElem hj
    rw [hjo] at he
    simp only [Option.map_some, Option.getD_some, Array.mem_toList_iff] at he
    have hSe := hpre _ hjo e he hbind
    rcases hor with rfl | ⟨hie, hor⟩
    · exact hSe
    · exact ih e.on hlt (by omega) (fun o ho2 e2 he2 hb2 => hS e.on o hSe ho2 e2 he2 hb2) i hie hor

/-- Operation i is about to be done, behind those of S. -/
structure About (ops : Array Oper) (S : Nat → Bool) (i : Nat) : Prop where
  lt : i < ops.size
  cl : Closed ops S
  no : S i = false
  pre : ∀ o, ops[i]? = some o → ∀ e ∈ o.after, Region.binds .any e = true → S e.on = true
theorem About.earlier {ops : Array Oper} {effs : List Out} {B : List Nat} (hA : AnyOk ops effs B) {S : Nat → Bool} {i : Nat} (h : About ops S i) {j : Nat} (hj : j < i) (hc : freeOf ops effs j i = false) : S j = true := by
  have hp := hA.pairs
  unfold pairsOk at hp
  rw [List.all_eq_true] at hp
  have h1 := hp i (List.mem_range.2 h.lt)
  rw [List.all_eq_true] at h1
  have h2 := h1 j (List.mem_range.2 hj)
  rw [hc, Bool.or_false] at h2
  exact closed_bits hA.bits h.cl i h.lt h.pre j hj h2
theorem About.later {ops : Array Oper} {effs : List Out} {B : List Nat} (hA : AnyOk ops effs B) {S : Nat → Bool} {i : Nat} (h : About ops S i) {j : Nat} (hj : i < j) (hjn : j < ops.size) (hc : freeOf ops effs i j = false) : S j = false := by
  have hp := hA.pairs
  unfold pairsOk at hp
  rw [List.all_eq_true] at hp
  have h1 := hp j (List.mem_range.2 hjn)
  rw [List.all_eq_true] at h1
  have h2 := h1 i (List.mem_range.2 hj)
  rw [hc, Bool.or_false] at h2
  cases hS : S j with
  | false => rfl
  | true =>
    have := closed_bits hA.bits h.cl j hjn (fun o ho e he hb => h.cl j o hS ho e he hb) i hj h2
    rw [h.no] at this; cases this

section
variable {ops : Array Oper} {effs : List Out} {s0 : AS}
def effOf (effs : List Out) (i : Nat) : Out := effs.getD i (.pure .undef)
theorem stOf_succ (S : Nat → Bool) (m : Nat) : stOf ops effs s0 S (m + 1) = bif S m then (stOf ops effs s0 S m).apply (dstOf ops m) (effOf effs m) else stOf ops effs s0 S m := rfl
theorem env_apply (s : AS) (d : Option Tmp) (o : Out) (t : Nat) : eget (s.apply d o).env t = if d = some t then some o.v else eget s.env t := by
  cases d with
  | none => simp [AS.apply]
  | some d =>
    simp only [AS.apply, eget_eput]
    by_cases e : d = t
    · subst e; simp
    · rw [if_neg e, if_neg (by simpa using e)]
/-- What is looked at is as in the order of the text, where who writes it is in its place. -/
theorem env_same (S S' : Nat → Bool) (t : Nat) : ∀ m, (∀ j, j < m → dstOf ops j = some t → S j = S' j) → eget (stOf ops effs s0 S m).env t = eget (stOf ops effs s0 S' m).env t := by
  intro m
  induction m with
  | zero => intro _; rfl
  | succ m ih =>
    intro h
    have ih' := ih (fun j hj hd => h j (by omega) hd)
    rw [stOf_succ, stOf_succ]
    by_cases hd : dstOf ops m = some t
    · rw [h m (by omega) hd]
      cases S' m
      · exact ih'
      · simp only [cond_true, env_apply, if_pos hd]
    · cases S m <;> cases S' m <;> simp only [cond_true, cond_false, env_apply, if_neg hd] <;> exact ih'
theorem heap_same (S S' : Nat → Bool) (k : Nat) : ∀ m, (∀ j, j < m → k ∈ keysU (effOf effs j) → S j = S' j) → hget (stOf ops effs s0 S m).heap k = hget (stOf ops effs s0 S' m).heap k := by
  intro m
  induction m with
  | zero => intro _; rfl
  | succ m ih =>
    intro h
    have ih' := ih (fun j hj hd => h j (by omega) hd)
    rw [stOf_succ, stOf_succ]
    by_cases hd : k ∈ keysU (effOf effs m)
    · rw [h m (by omega) hd]
      cases S' m
      · exact ih'
      · exact hget_hputs_in hd
    · cases S m <;> cases S' m <;> simp only [cond_true, cond_false, AS.apply] <;> (try rw [hget_hputs_ne hd]) <;> (try rw [hget_hputs_ne hd]) <;> exact ih'
theorem frz_same (S S' : Nat → Bool) (k : Nat) : ∀ m, (∀ j, j < m → k ∈ (effOf effs j).frz → S j = S' j) → (k ∈ (stOf ops effs s0 S m).frz ↔ k ∈ (stOf ops effs s0 S' m).frz) := by
  intro m
  induction m with
  | zero => intro _; exact Iff.rfl
  | succ m ih =>
    intro h
    have ih' := ih (fun j hj hd => h j (by omega) hd)
    rw [stOf_succ, stOf_succ]
    by_cases hd : k ∈ (effOf effs m).frz
    · rw [h m (by omega) hd]
      cases S' m
      · exact ih'
      · simp [AS.apply, hd]
    · cases S m <;> cases S' m <;> (try simp only [cond_true, cond_false, AS.apply, List.mem_append]) <;> (try simp only [hd, false_or]) <;> exact ih'
def upTo (m : Nat) : Nat → Bool := fun j => decide (j < m)
theorem stOf_upTo (m n : Nat) (h : m ≤ n) : stOf ops effs s0 (upTo m) n = stOf ops effs s0 (fun _ => true) m := by
  induction n with
  | zero => obtain rfl : m = 0 := by omega
            rfl
  | succ n ih =>
    by_cases e : m = n + 1
    · subst e
      clear ih h
      have key : ∀ q, q ≤ n + 1 → stOf ops effs s0 (upTo (n + 1)) q = stOf ops effs s0 (fun _ => true) q := by
        intro q
        induction q with
        | zero => intro _; rfl
        | succ q ih =>
          intro hq
          rw [stOf_succ, stOf_succ, ih (by omega)]
          simp [upTo, show q < n + 1 by omega]
      exact key (n + 1) (Nat.le_refl _)
    · rw [stOf_succ, ih (by omega)]
      simp [upTo, show ¬ n < m by omega]
theorem free_false1 {effs : List Out} {i j : Nat} {t : Tmp} (h : dstOf ops i = some t) (h2 : t ∈ looksOf ops j) : freeOf ops effs i j = false := by
  cases hc : freeOf ops effs i j with
  | false => rfl
  | true =>
    unfold freeOf at hc
    simp only [Bool.and_eq_true] at hc
    exact absurd h2 (dis_spec hc.1.1.1.1.1.1 t (by simp [h]))
theorem free_false2 {effs : List Out} {i j : Nat} {t : Tmp} (h : dstOf ops j = some t) (h2 : t ∈ looksOf ops i) : freeOf ops effs i j = false := by
  cases hc : freeOf ops effs i j with
  | false => rfl
  | true =>
    unfold freeOf at hc
    simp only [Bool.and_eq_true] at hc
    exact absurd h2 (dis_spec hc.1.1.1.1.1.2 t (by simp [h]))
theorem free_false3 {effs : List Out} {i j : Nat} {t : Tmp} (h : dstOf ops i = some t) (h2 : dstOf ops j = some t) : freeOf ops effs i j = false := by
  cases hc : freeOf ops effs i j with
  | false => rfl
  | true =>
    unfold freeOf at hc
    simp only [Bool.and_eq_true] at hc
    exact absurd (show t ∈ (dstOf ops j).toList by simp [h2]) (dis_spec hc.1.1.1.1.2 t (by simp [h]))
theorem free_false4 {effs : List Out} {i j k : Nat} (h : k ∈ keysU (effOf effs i)) (h2 : k ∈ (effOf effs j).rd ∨ k ∈ keysU (effOf effs j)) : freeOf ops effs i j = false := by
  cases hc : freeOf ops effs i j with
  | false => rfl
  | true =>
    unfold freeOf at hc
    simp only [Bool.and_eq_true] at hc
    exact absurd (List.mem_append.2 h2) (dis_spec hc.1.1.1.2 k h)
theorem free_false5 {effs : List Out} {i j k : Nat} (h : k ∈ keysU (effOf effs j)) (h2 : k ∈ (effOf effs i).rd ∨ k ∈ keysU (effOf effs i)) : freeOf ops effs i j = false := by
  cases hc : freeOf ops effs i j with
  | false => rfl
  | true =>
    rcases h2 with h2 | h2
    · unfold freeOf at hc
      simp only [Bool.and_eq_true] at hc
      exact absurd h2 (dis_spec hc.1.1.2 k h)
    · rw [← hc]; exact free_false4 h2 (.inr h)
theorem free_false6 {effs : List Out} {i j k : Nat} (h : k ∈ (effOf effs i).frz) (h2 : k ∈ keysU (effOf effs j)) : freeOf ops effs i j = false := by
  cases hc : freeOf ops effs i j with
  | false => rfl
  | true =>
    unfold freeOf at hc
    simp only [Bool.and_eq_true] at hc
    exact absurd h2 (dis_spec hc.1.2 k h)
theorem free_false7 {effs : List Out} {i j k : Nat} (h : k ∈ (effOf effs j).frz) (h2 : k ∈ keysU (effOf effs i)) : freeOf ops effs i j = false := by
  cases hc : freeOf ops effs i j with
  | false => rfl
  | true =>
    unfold freeOf at hc
    simp only [Bool.and_eq_true] at hc
    exact absurd h2 (dis_spec hc.2 k h)
/-- Behind any part of the order the operation sees what it sees in the order of the text. -/
theorem agree_any {B : List Nat} (hA : AnyOk ops effs B) {S : Nat → Bool} {i : Nat} (h : About ops S i) {o : Oper} (ho : ops[i]? = some o) :
    Agree ops o (effOf effs i) (stOf ops effs s0 (fun _ => true) i) (stOf ops effs s0 S ops.size) := by
  have hlook : looksOf ops i = o.looksAt ops := by simp [looksOf, ho]
  rw [← stOf_upTo i ops.size (by have := h.lt; omega)]
  have key : ∀ j, j < ops.size → (j < i → freeOf ops effs j i = false) → (i < j → freeOf ops effs i j = false) → S j = upTo i j := by
    intro j hj h1 h2
    rcases Nat.lt_trichotomy j i with hlt | rfl | hlt
    · rw [h.earlier hA hlt (h1 hlt)]; simp [upTo, hlt]
    · rw [h.no]; simp [upTo]
    · rw [h.later hA hlt hj (h2 hlt)]; simp [upTo]; omega
  refine ⟨?_, ?_, fun t ht => ?_, fun k hk => ?_, fun k hk => ?_⟩
  · rw [(stOf_fb _ _ _ _ _).1, (stOf_fb _ _ _ _ _).1]
  · rw [(stOf_fb _ _ _ _ _).2, (stOf_fb _ _ _ _ _).2]
  · rw [← hlook] at ht
    exact env_same S (upTo i) t ops.size fun j hj hd => key j hj (fun _ => free_false1 hd ht) (fun _ => free_false2 hd ht)
  · exact heap_same S (upTo i) k ops.size fun j hj hd => key j hj (fun _ => free_false4 hd hk) (fun _ => free_false5 hd hk)
  · exact frz_same S (upTo i) k ops.size fun j hj hd => key j hj (fun _ => free_false6 hd hk) (fun _ => free_false7 hd hk)
def setB (S : Nat → Bool) (i : Nat) : Nat → Bool := fun j => if j = i then true else S j
/-- To do the operation now is to have done it in its place. -/
theorem eqv_any {B : List Nat} (hA : AnyOk ops effs B) {S : Nat → Bool} {i : Nat} (h : About ops S i) :
    ((stOf ops effs s0 S ops.size).apply (dstOf ops i) (effOf effs i)).Eqv (stOf ops effs s0 (setB S i) ops.size) := by
  have hi := h.lt
  have hlater : ∀ j, i < j → j < ops.size → freeOf ops effs i j = false → S j = false := fun j h1 h2 h3 => h.later hA h1 h2 h3
  refine ⟨?_, ?_, fun t => ?_, fun k => ?_, fun k => ?_⟩
  · rw [(stOf_fb _ _ _ _ _).1]; exact ((stOf_fb ops effs s0 S ops.size).1).symm
  · rw [(stOf_fb _ _ _ _ _).2]; exact ((stOf_fb ops effs s0 S ops.size).2).symm
  · rw [env_apply]
    by_cases hd : dstOf ops i = some t
    · rw [if_pos hd]
      have key : ∀ q, i + 1 ≤ q → q ≤ ops.size → eget (stOf ops effs s0 (setB S i) q).env t = some (effOf effs i).v := by
        intro q
        induction q with
        | zero => intro h; omega
        | succ q ih =>
          intro h1 h2
          rw [stOf_succ]
          by_cases e : q = i
          · subst e; simp [setB, env_apply, hd]
          · have ih' := ih (by omega) (by omega)
            by_cases hdq : dstOf ops q = some t
            · have : S q = false := hlater q (by omega) (by omega) (free_false3 hd hdq)
              simp [setB, e, this, ih']
            · cases hs : setB S i q
              · simpa using ih'
              · simp [env_apply, hdq, ih']
      exact key ops.size (by omega) (Nat.le_refl _)
    · rw [if_neg hd]
      exact env_same (setB S i) S t ops.size fun j hj hdj => by
        unfold setB; rw [if_neg (fun e => by subst e; exact hd hdj)]
  · by_cases hk : k ∈ keysU (effOf effs i)
    · have e0 : hget ((stOf ops effs s0 S ops.size).apply (dstOf ops i) (effOf effs i)).heap k = hget (hputs [] (effOf effs i).upd) k := hget_hputs_in hk
      rw [e0]
      have key : ∀ q, i + 1 ≤ q → q ≤ ops.size → hget (stOf ops effs s0 (setB S i) q).heap k = hget (hputs [] (effOf effs i).upd) k := by
        intro q
        induction q with
        | zero => intro h; omega
        | succ q ih =>
          intro h1 h2
          rw [stOf_succ]
          by_cases e : q = i
          · subst e
            have : setB S q q = true := by simp [setB]
            rw [this]; exact hget_hputs_in hk
          · have ih' := ih (by omega) (by omega)
            by_cases hkq : k ∈ keysU (effOf effs q)
            · have : S q = false := hlater q (by omega) (by omega) (free_false4 hk (.inr hkq))
              have hs : setB S i q = false := by simp [setB, e, this]
              rw [hs]; exact ih'
            · cases hs : setB S i q
              · exact ih'
              · show hget (hputs _ _) k = _
                rw [hget_hputs_ne hkq]; exact ih'
      exact key ops.size (by omega) (Nat.le_refl _)
    · have e0 : hget ((stOf ops effs s0 S ops.size).apply (dstOf ops i) (effOf effs i)).heap k = hget (stOf ops effs s0 S ops.size).heap k := hget_hputs_ne hk
      rw [e0]
      exact heap_same (setB S i) S k ops.size fun j hj hkj => by
        unfold setB; rw [if_neg (fun e => by subst e; exact hk hkj)]
  · simp only [AS.apply, List.mem_append]
    by_cases hk : k ∈ (effOf effs i).frz
    · have key : ∀ q, i + 1 ≤ q → q ≤ ops.size → k ∈ (stOf ops effs s0 (setB S i) q).frz := by
        intro q
        induction q with
        | zero => intro h; omega
        | succ q ih =>
          intro h1 h2
          rw [stOf_succ]
          by_cases e : q = i
          · subst e
            have : setB S q q = true := by simp [setB]
            rw [this]; simp [AS.apply, hk]
          · have ih' := ih (by omega) (by omega)
            cases hs : setB S i q
            · exact ih'
            · simp [AS.apply, ih']
      have := key ops.size (by omega) (Nat.le_refl _)
      simp [this, hk]
    · simp only [hk, false_or]
      exact frz_same (setB S i) S k ops.size fun j hj hkj => by
        unfold setB; rw [if_neg (fun e => by subst e; exact hk hkj)]
theorem Goes.eqv {i : Nat} {s s1 s2 : AS} (h : Goes P ops i s s1) (he : s1.Eqv s2) : Goes P ops i s s2 :=
  fun a w ok μ hr K Q hK => h a w ok μ hr K Q fun a' w' ok' μ' hr' hs => hK a' w' ok' μ' (hr'.eqv he) (hs.eqv he)

theorem listed_count (listed : Array Bool) (n : Nat) (hsz : listed.size = n) : ∀ i, i < n → listed.getD i true = false → ((List.range n).filter fun j => !(listed.setIfInBounds i true).getD j false).length < ((List.range n).filter fun j => !listed.getD j false).length := by
  intro i hi hf
  have hf' : listed.getD i false = false := by
    rw [Array.getD_eq_getD_getElem?, Array.getElem?_eq_getElem (by omega)] at hf ⊢
    simpa using hf
  have hset : (listed.setIfInBounds i true).getD i false = true := by
    rw [Array.getD_eq_getD_getElem?]; simp [show i < listed.size by omega]
  have hne : ∀ j, j ≠ i → (listed.setIfInBounds i true).getD j false = listed.getD j false := fun j hj => by
    rw [Array.getD_eq_getD_getElem?, Array.getD_eq_getD_getElem?, Array.getElem?_setIfInBounds_ne (fun e => hj e.symm)]
  have gen : ∀ l : List Nat, l.Nodup → (i ∈ l → (l.filter fun j => !(listed.setIfInBounds i true).getD j false).length < (l.filter fun j => !listed.getD j false).length) ∧
      (i ∉ l → (l.filter fun j => !(listed.setIfInBounds i true).getD j false).length = (l.filter fun j => !listed.getD j false).length) := by
    intro l
    induction l with
    | nil => intro _; exact ⟨fun h => (by cases h), fun _ => rfl⟩
    | cons x r ih =>
      intro hnd
      rw [List.nodup_cons] at hnd
      obtain ⟨ih1, ih2⟩ := ih hnd.2
      constructor
      · intro hm
        by_cases e : x = i
        · subst e
          have := ih2 hnd.1
          simp only [List.filter_cons, hset, hf', Bool.not_true, Bool.not_false, Bool.false_eq_true, if_false, if_true, List.length_cons]
          omega
        · have hm' : i ∈ r := by
            rcases List.mem_cons.1 hm with rfl | h
            · exact absurd rfl e
            · exact h
          have := ih1 hm'
          simp only [List.filter_cons, hne x e]
          split <;> (try simp only [List.length_cons]) <;> omega
      · intro hm
        simp only [List.mem_cons, not_or] at hm
        have := ih2 hm.2
        simp only [List.filter_cons, hne x (fun e => hm.1 e.symm)]
        split <;> (try simp only [List.length_cons]) <;> omega
  exact (gen _ List.nodup_range).1 (List.mem_range.2 hi)
end

/-- A region whose order is open goes as in the order of the text. -/
theorem AWP.any {id : Nat} {ops : Array Oper} {s0 : AS} {K : Exit → AS → Prop} (hm : P.follows .mixedOrders = true) (effs : List Out) (B : List Nat) (hA : AnyOk ops effs B)
    (hop : ∀ i o, ops[i]? = some o → ∀ s, Agree ops o (effOf effs i) (stOf ops effs s0 (fun _ => true) i) s → Goes P ops i s (s.apply o.dst (effOf effs i)))
    (hK : K .normal (stOf ops effs s0 (fun _ => true) ops.size)) : AWP P (.region id ops true) s0 K := by
  intro a w ok μ hr
  obtain ⟨hrd, hsd⟩ := hr.drew
  refine cwp_region_any hm ?_
  have main : ∀ (fuel : Nat) (listed : Array Bool) (a1 : Act) (w1 : World) (ok1 : Nat → Prop) (μ1 : Mu), listed.size = ops.size → ((List.range ops.size).filter fun j => !listed.getD j false).length ≤ fuel → Closed ops (fun j => listed.getD j false) →
      Rel (stOf ops effs s0 (fun j => listed.getD j false) ops.size) a1 w1 ok1 μ1 → Step s0.fb s0.heap s0.frz w ok μ (stOf ops effs s0 (fun j => listed.getD j false) ops.size).heap (stOf ops effs s0 (fun j => listed.getD j false) ops.size).frz w1 ok1 μ1 →
      oAny P .any ops (Post s0 w ok μ K) fuel listed a1 w1 := by
    intro fuel
    induction fuel with
    | zero =>
      intro listed a1 w1 ok1 μ1 hsz hc hcl hr1 hs1
      have hall : ∀ j, j < ops.size → listed.getD j false = true := by
        intro j hj
        have : ((List.range ops.size).filter fun j => !listed.getD j false) = [] := List.eq_nil_of_length_eq_zero (by omega)
        rw [List.filter_eq_nil_iff] at this
        have := this j (List.mem_range.2 hj)
        simpa using this
      have hst : stOf ops effs s0 (fun j => listed.getD j false) ops.size = stOf ops effs s0 (fun _ => true) ops.size := by
        have key : ∀ q, q ≤ ops.size → stOf ops effs s0 (fun j => listed.getD j false) q = stOf ops effs s0 (fun _ => true) q := by
          intro q
          induction q with
          | zero => intro _; rfl
          | succ q ih => intro hq; rw [stOf_succ, stOf_succ, ih (by omega), hall q (by omega)]
        exact key _ (Nat.le_refl _)
      rw [hst] at hr1 hs1
      refine ⟨?_, _, ok1, μ1, hK, (stOf_fb _ _ _ _ _).1, (stOf_fb _ _ _ _ _).2, hr1, hs1⟩
      cases hrd : Region.ready .any ops listed with
      | nil => rfl
      | cons i r =>
        have : i ∈ Region.ready .any ops listed := by rw [hrd]; simp
        obtain ⟨h1, o, ho, _⟩ := mem_ready.1 this
        have hi := (Array.getElem?_eq_some_iff.1 ho).1
        have h2 := hall i hi
        rw [Array.getD_eq_getD_getElem?, Array.getElem?_eq_getElem (by omega)] at h1 h2
        simp only [Option.getD_some] at h1 h2
        rw [h1] at h2; cases h2
    | succ fuel ih =>
      intro listed a1 w1 ok1 μ1 hsz hc hcl hr1 hs1
      refine ⟨fun hnil => ?_, fun i hi => ?_⟩
      · have hall : ∀ j, j < ops.size → listed.getD j false = true := by
          intro j
          induction j using Nat.strongRecOn with
          | _ j ihj =>
            intro hj
            cases hlj : listed.getD j false with
            | true => rfl
            | false =>
              exfalso
              have : j ∈ Region.ready .any ops listed := by
                rw [mem_ready]
                have hjo : ops[j]? = some ops[j] := Array.getElem?_eq_getElem hj
                refine ⟨?_, ops[j], hjo, fun e he hb => ?_⟩
                · rw [Array.getD_eq_getD_getElem?, Array.getElem?_eq_getElem (by omega)] at hlj ⊢
                  simpa using hlj
                · have hed := hA.edges
                  unfold edgesOk at hed
                  rw [List.all_eq_true] at hed
                  have h1 := hed j (List.mem_range.2 hj)
                  rw [hjo] at h1
                  simp only [Option.map_some, Option.getD_some] at h1
                  rw [List.all_eq_true] at h1
                  have h2 := h1 e (by simpa using he)
                  rw [hb] at h2
                  simp only [Bool.not_true, Bool.false_or, decide_eq_true_eq] at h2
                  exact ihj e.on h2 (by omega)
              rw [hnil] at this; cases this
        have hst : stOf ops effs s0 (fun j => listed.getD j false) ops.size = stOf ops effs s0 (fun _ => true) ops.size := by
          have key : ∀ q, q ≤ ops.size → stOf ops effs s0 (fun j => listed.getD j false) q = stOf ops effs s0 (fun _ => true) q := by
            intro q
            induction q with
            | zero => intro _; rfl
            | succ q ih => intro hq; rw [stOf_succ, stOf_succ, ih (by omega), hall q (by omega)]
          exact key _ (Nat.le_refl _)
        rw [hst] at hr1 hs1
        exact ⟨_, ok1, μ1, hK, (stOf_fb _ _ _ _ _).1, (stOf_fb _ _ _ _ _).2, hr1, hs1⟩
      · obtain ⟨h1, o, ho, h3⟩ := mem_ready.1 hi
        have hi' := (Array.getElem?_eq_some_iff.1 ho).1
        have hno : listed.getD i false = false := by
          rw [Array.getD_eq_getD_getElem?, Array.getElem?_eq_getElem (by omega)] at h1 ⊢
          simpa using h1
        have hab : About ops (fun j => listed.getD j false) i := ⟨hi', hcl, hno, fun o' ho' e he hb => by rw [ho] at ho'; injection ho' with ho'; subst ho'; exact h3 e he hb⟩
        have hgo := hop i o ho _ (agree_any (s0 := s0) hA hab ho)
        have hdst : o.dst = dstOf ops i := by simp [dstOf, ho]
        rw [hdst] at hgo
        have hgo2 := Goes.eqv hgo (eqv_any (s0 := s0) hA hab)
        have hset : ∀ j, setB (fun j => listed.getD j false) i j = (listed.setIfInBounds i true).getD j false := by
          intro j
          unfold setB
          by_cases e : j = i
          · subst e; rw [if_pos rfl, Array.getD_eq_getD_getElem?]; simp [show j < listed.size by omega]
          · rw [if_neg e]
            show listed.getD j false = _
            rw [Array.getD_eq_getD_getElem?, Array.getD_eq_getD_getElem?, Array.getElem?_setIfInBounds_ne (fun h => e h.symm)]
        have hsetf : setB (fun j => listed.getD j false) i = fun j => (listed.setIfInBounds i true).getD j false := funext hset
        rw [hsetf] at hgo2
        refine hgo2 a1 w1 ok1 μ1 hr1 _ (Post s0 w ok μ K) fun a2 w2 ok2 μ2 hr2 hs2 => ?_
        have hfb := (stOf_fb ops effs s0 (fun j => listed.getD j false) ops.size).1
        refine ih _ a2 w2 ok2 μ2 (by simpa using hsz) ?_ (fun j o' hj ho' e he hb => ?_) hr2 (hs1.trans (hfb ▸ hs2))
        · have := listed_count listed ops.size hsz i hi' h1
          omega
        · simp only [← hset] at hj ⊢
          unfold setB at hj ⊢
          by_cases e1 : j = i
          · subst e1
            rw [ho] at ho'; injection ho' with ho'; subst ho'
            have := h3 e he hb
            split
            · rfl
            · exact this
          · rw [if_neg e1] at hj
            have := hcl j o' hj ho' e he hb
            split
            · rfl
            · exact this
  refine main ops.size (Array.replicate ops.size false) a _ ok μ (by simp) ?_ ?_ ?_ ?_
  · refine Nat.le_trans (List.length_filter_le _ _) (by simp)
  · intro j o hj0
    have hj : (Array.replicate ops.size false).getD j false = true := hj0
    rw [Array.getD_eq_getD_getElem?] at hj
    rw [Array.getElem?_replicate] at hj
    split at hj <;> simp at hj
  · have hz : stOf ops effs s0 (fun j => (Array.replicate ops.size false).getD j false) ops.size = s0 := by
      have key : ∀ q, q ≤ ops.size → stOf ops effs s0 (fun j => (Array.replicate ops.size false).getD j false) q = s0 := by
        intro q
        induction q with
        | zero => intro _; rfl
        | succ q ih =>
          intro hq
          have hf : (Array.replicate ops.size false).getD q false = false := by
            rw [Array.getD_eq_getD_getElem?, Array.getElem?_replicate]; split <;> rfl
          rw [stOf_succ, hf]; exact ih (by omega)
      exact key _ (Nat.le_refl _)
    rw [hz]; exact hrd
  · have hz : stOf ops effs s0 (fun j => (Array.replicate ops.size false).getD j false) ops.size = s0 := by
      have key : ∀ q, q ≤ ops.size → stOf ops effs s0 (fun j => (Array.replicate ops.size false).getD j false) q = s0 := by
        intro q
        induction q with
        | zero => intro _; rfl
        | succ q ih =>
          intro hq
          have hf : (Array.replicate ops.size false).getD q false = false := by
            rw [Array.getD_eq_getD_getElem?, Array.getElem?_replicate]; split <;> rfl
          rw [stOf_succ, hf]; exact ih (by omega)
      exact key _ (Nat.le_refl _)
    rw [hz]; exact hsd
end Go.Qd
set_option linter.unusedVariables false
set_option linter.unusedSimpArgs false
namespace Go.Qd
open Go Go.RowKit
variable {P : Program}

/-! ### Literals of slices, make -/
def afillR (sz : Nat) : List (List AV) → List (Nat × AV) → Option (List (List AV))
  | rows, [] => some rows
  | rows, (i, v) :: r => match cellsOf v with
    | some cs => if cs.length = sz ∧ i < rows.length then afillR sz (rows.set i cs) r else none
    | none => none
theorem fillR_rel {w : World} {ok : Nat → Prop} {μ : Mu} {sz : Nat} : ∀ {parts : List (Nat × AV)} {vs : List (Nat × Value)} {rows res : List (List AV)} {cs : Array Value}, PartsRel w ok μ parts vs → RowsRel w ok μ sz rows cs → cs.size = rows.length * sz →
    afillR sz rows parts = some res → ∃ cs', Instr.fill (fun i => some (i * sz, sz)) cs vs = some cs' ∧ RowsRel w ok μ sz res cs' ∧ cs'.size = cs.size ∧ res.length = rows.length := by
  intro parts
  induction parts with
  | nil =>
    intro vs rows res cs hpr hc hsz h
    cases vs with
    | nil => simp only [afillR, Option.some.injEq] at h; subst h; exact ⟨cs, rfl, hc, rfl, rfl⟩
    | cons => have := hpr.len; simp at this
  | cons p r ih =>
    intro vs rows res cs hpr hc hsz h
    obtain ⟨i, v⟩ := p
    cases vs with
    | nil => have := hpr.len; simp at this
    | cons u s =>
      obtain ⟨j, u⟩ := u
      obtain ⟨h1, h2⟩ := hpr.at_ 0 (by simp) (by simp)
      simp only [List.getElem_cons_zero] at h1 h2
      subst h1
      simp only [afillR] at h
      split at h
      · rename_i new hnew
        split at h
        · rename_i hcond
          obtain ⟨c1, c2⟩ := hcond
          obtain ⟨hv, _⟩ := cellsOf_rel h2 hnew
          have hlen : new.length = u.cells.size := by have := hv.len; simpa using this
          obtain ⟨cs1, hcs1⟩ : ∃ cs1, cs1 = (u.cells.toList.zipIdx).foldl (fun (cs : Array Value) (x : Value × Nat) => cs.setIfInBounds (i * sz + x.2) x.1) cs := ⟨_, rfl⟩
          have hcs1' : u.cells.zipIdx.foldl (fun cs (c, j) => cs.setIfInBounds (i * sz + j) c) cs = cs1 := by
            rw [hcs1, ← Array.foldl_toList, Array.toList_zipIdx]
          have hsz1 : cs1.size = cs.size := by rw [hcs1]; exact fold_size _ _ _ _
          have hfit : (i + 1) * sz ≤ rows.length * sz := Nat.mul_le_mul_right _ c2
          have e1 : (i + 1) * sz = i * sz + sz := Nat.succ_mul _ _
          have hrel : RowsRel w ok μ sz (rows.set i new) cs1 := by
            refine hc.set hv c1 fun z hz => ?_
            have hg : cs1[z]? = if i * sz + 0 ≤ z ∧ z < i * sz + 0 + u.cells.toList.length ∧ z < cs.size then u.cells.toList[z - (i * sz + 0)]? else cs[z]? := by rw [hcs1]; exact fold_set _ 0 _ cs z
            rw [hg, Nat.add_zero]
            by_cases c : i * sz ≤ z ∧ z < i * sz + sz
            · rw [if_pos c, if_pos (by simp; omega)]
            · rw [if_neg c, if_neg (by simp; omega)]
          obtain ⟨cs', g1, g2, g3, g4⟩ := ih (vs := s) (cs := cs1) ⟨by have := hpr.len; simpa using this, fun i a1 a2 => hpr.at_ (i + 1) (by simpa using a1) (by simpa using a2)⟩ hrel (by rw [hsz1, List.length_set]; exact hsz) h
          refine ⟨cs', ?_, g2, g3.trans hsz1, by rw [g4, List.length_set]⟩
          simp only [Instr.fill]
          rw [if_neg (by simp; omega), hcs1']
          exact g1
        · cases h
      · cases h
def abuildSlice (T : Tab) (s : AS) (key t len : Nat) (parts : List (Nat × AV)) : Option Out :=
  match tget T t with
  | some i => match i.kind with
    | .slice e => match tget T e with
      | some ei => if freeKey s key = true ∧ 0 < ei.size ∧ ei.zero.length = ei.size ∧ 0 < len ∧ len * ei.size ≤ 2 ^ 24 ∧ len ≤ 2 ^ 24 then
          match afillR ei.size (List.replicate len ei.zero) parts with
          | some rows => some ⟨.osl key 0 len, [(key, ⟨e, ei.size, rows.all AV.closedAll, rows⟩)], [], []⟩
          | none => none
        else none
      | none => none
    | _ => none
  | none => none
theorem buildSlice_ok {T : Tab} (hT : TOk P T) {s : AS} {o : Oper} {t len : Nat} {ps : Array (Nat × Operand)} (ho : o.op = .buildSlice t len ps) {l : List (Nat × AV)} (hx : aparts s.env ps.toList = some l) {key : Nat} {out : Out} (h : abuildSlice T s key t len l = some out) :
    RunsTo P s o out := by
  unfold abuildSlice at h
  split at h
  case h_2 => cases h
  rename_i i ht
  split at h
  case h_2 => cases h
  rename_i e hi
  split at h
  case h_2 => cases h
  rename_i ei he
  split at h
  case isFalse => cases h
  rename_i hcond
  obtain ⟨hfree, hs, hz0, hl0, hbig, hlb⟩ := hcond
  split at h
  case h_2 => cases h
  rename_i rows hrows
  injection h with h; subst h
  obtain ⟨k1, k2, k3, k4⟩ := freeKey_spec hfree
  have hu := (hT.facts ht).slice hi
  obtain ⟨z, hzz, hzr⟩ := (hT.facts he).run_zero
  intro a w ok μ hr
  have hpr := aparts_rel hr hx
  have hmap : (ps.map fun (i, x) => (i, a.eval x)).toList = ps.toList.map fun (i, x) => (i, a.eval x) := by simp
  have hzv : VRels w ok μ ei.zero z.cells.toList := sameZs_rel hzz
  have hzs : z.cells.size = ei.size := by have := hzv.len; simp at this; omega
  have hz := RowsRel.zeros hzv len (by omega)
  rw [hz0] at hz
  obtain ⟨cs', g1, g2, g3, g4⟩ := fillR_rel hpr hz (by simp) hrows
  rw [← hmap] at g1
  refine ⟨.slice (some ⟨w.heap.size, 0, none⟩) len len, w.alloc (.cells cs' e), .inl ?_, ?_⟩
  · unfold execOp
    have hne : ¬ len * ei.size = 0 := by have := Nat.mul_pos hl0 hs; omega
    simp only [ho, Instr.buildSlice, Sem.run_bind, run_underlying hu, Result.andThen_ok, (hT.facts he).run_sizeOf]
    rw [if_neg (by omega), if_neg hne]
    simp only [Sem.run_bind, hzr, Result.andThen_ok, Sem.run_pure, g1]
    simp [newRow]
  · have hlen : rows.length = len := by rw [g4]; simp
    have hcs : cs'.size = len * ei.size := by rw [g3]; simp
    refine ⟨(Left.new (av := .osl key 0 len) (v := .slice (some ⟨w.heap.size, 0, none⟩) len len) hr k1 k2 k3 (by rw [hcs, hlen]; exact Nat.le_refl _) k4 g2.flag (fun μ' hle hself hk => ?_)).ex⟩
    have := VRel.osl (w := w.alloc (.cells cs' e)) (ok := ok) μ' key 0 len w.heap.size ei.size len hself (Nat.le_refl _) (by simp only [maxLen]; omega) ⟨_, e, heap_push_new _ _, by rw [Nat.zero_add, hcs]; exact Nat.le_refl _⟩
    rw [Nat.zero_mul] at this; exact this
def amakeSlice (T : Tab) (s : AS) (key t : Nat) (n : Int) : Option Out :=
  match tget T t with
  | some i => match i.kind with
    | .slice e => match tget T e with
      | some ei => if freeKey s key = true ∧ 0 < ei.size ∧ ei.zero.length = ei.size ∧ 0 < ei.bytes ∧ 0 ≤ n ∧ n.toNat * ei.bytes ≤ 140737488355328 ∧ AV.closedAll ei.zero = true then
          some ⟨.osl key 0 n.toNat, [(key, ⟨e, ei.size, true, List.replicate n.toNat ei.zero⟩)], [], []⟩
        else none
      | none => none
    | _ => none
  | none => none
theorem makeSlice_ok {T : Tab} (hT : TOk P T) {s : AS} {o : Oper} {t : Nat} {x y : Operand} (ho : o.op = .makeSlice t x y) {n : Int} {k1 k2 : IntKind} (hx : aev s.env x = some (.int k1 n)) (hy : aev s.env y = some (.int k2 n)) {key : Nat} {out : Out}
    (h : amakeSlice T s key t n = some out) : RunsTo P s o out := by
  unfold amakeSlice at h
  split at h
  case h_2 => cases h
  rename_i i ht
  split at h
  case h_2 => cases h
  rename_i e hi
  split at h
  case h_2 => cases h
  rename_i ei he
  split at h
  case isFalse => cases h
  rename_i hcond
  obtain ⟨hfree, hs, hz0, hb0, hn0, hbig, hcl⟩ := hcond
  injection h with h; subst h
  obtain ⟨q1, q2, q3, q4⟩ := freeKey_spec hfree
  have hu := (hT.facts ht).slice hi
  have hf := hT.facts he
  obtain ⟨⟨j, z, hj, hjs, hjb, hjz, hzz⟩, _, _⟩ := hT.facts he
  intro a w ok μ hr
  have hzv : VRels w ok μ ei.zero z.cells.toList := sameZs_rel hzz
  have hzs : z.cells.size = ei.size := by have := hzv.len; simp at this; omega
  obtain ⟨m, rfl⟩ := Int.eq_ofNat_of_zero_le hn0
  simp only [Int.toNat_natCast] at hbig ⊢
  have hm : m ≤ 140737488355328 := Nat.le_trans (Nat.le_mul_of_pos_right _ hb0) hbig
  have hz := RowsRel.zeros hzv m (by omega)
  rw [hz0] at hz
  have hb2 : ((j.bytes : Nat) : Int) * (m : Int) ≤ 281474976710656 := by
    have h0 : ((j.bytes * m : Nat) : Int) ≤ 281474976710656 := by rw [hjb, Nat.mul_comm]; omega
    rwa [Int.natCast_mul] at h0
  have hrun := run_make (P := P) w t e j z hu hj hjz k1 k2 (m : Int) (m : Int) (by omega) (Int.le_refl _) hb2 (by omega)
  simp only [Int.toNat_natCast, hjs] at hrun
  refine ⟨.slice (some ⟨w.heap.size, 0, none⟩) m m, w.alloc (.cells ((Array.range (m * ei.size)).map (z.cells[· % z.cells.size]!)) e), .inl ?_, ?_⟩
  · unfold execOp
    simp only [ho, eval_int (aev_rel hr hx), eval_int (aev_rel hr hy), Sem.run_bind, hrun, Result.andThen_ok, Sem.run_pure]
    rfl
  · have hcs : ((Array.range (m * ei.size)).map (z.cells[· % z.cells.size]!)).size = m * ei.size := by simp
    refine ⟨(Left.new (av := .osl key 0 m) (v := .slice (some ⟨w.heap.size, 0, none⟩) m m) hr q1 q2 q3 (by rw [hcs, List.length_replicate]; exact Nat.le_refl _) q4 ?_ (fun μ' hle hself hk => ?_)).ex⟩
    · rw [if_pos rfl]; refine hz.shut ?_
      rw [List.all_eq_true]; intro r hrr; rw [List.eq_of_mem_replicate hrr]; exact hcl
    · have := VRel.osl (w := w.alloc (.cells ((Array.range (m * ei.size)).map (z.cells[· % z.cells.size]!)) e)) (ok := ok) μ' key 0 m w.heap.size ei.size m hself (Nat.le_refl _) (by simp only [maxLen]; omega) ⟨_, e, heap_push_new _ _, by rw [Nat.zero_add, hcs]; exact Nat.le_refl _⟩
      rw [Nat.zero_mul] at this; exact this
end Go.Qd
set_option linter.unusedVariables false
set_option linter.unusedSimpArgs false
namespace Go.Qd
open Go Go.RowKit
variable {P : Program}

/-! ### One operation, reckoned -/
def keysP : AV → List Nat
  | .osl k _ _ => [k]
  | _ => []
def abin (T : Tab) (op : BinOp) (t : Nat) : AV → AV → Option AV
  | .int k a, .int k' b => if k = k' then abinI op k a b else none
  | .bool a, .bool b => match tget T t with
    | some i => match i.kind with
      | .bool => abinB op a b
      | _ => none
    | none => none
  | .agg xs, .agg ys => match tget T t with
    | some i => if i.isAgg = true then match i.eqk with
      | some L => abinA op L xs ys
      | none => none
      else none
    | none => none
  | _, _ => none
def aifaceT (T : Tab) (t : Nat) : Bool := match tget T t with
  | some i => match i.kind with | .other => false | _ => true
  | none => false
def asliceT (T : Tab) (t : Nat) : Option Nat := match tget T t with
  | some i => match i.kind with
    | .slice e => match tget T e with
      | some ei => some ei.size
      | none => none
    | _ => none
  | none => none
def aop (T : Tab) (s : AS) (key : Nat) : Op → Option Out
  | .move x => match aev s.env x with | some v => some (.pure v) | none => none
  | .assign x => match aev s.env x with | some v => some (.pure v) | none => none
  | .pick c x y => match aev s.env c, aev s.env x, aev s.env y with
    | some (.bool b), some v, some u => some (.pure (bif b then v else u))
    | _, _, _ => none
  | .alloc t => aalloc T s key t
  | .box t x => match aev s.env x with | some v => abox s key t v | none => none
  | .build t ps => match aparts s.env ps.toList with
    | some l => match abuild T t l with | some v => some (.pure v) | none => none
    | none => none
  | .buildSlice t n ps => match aparts s.env ps.toList with | some l => abuildSlice T s key t n l | none => none
  | .load t x => match aev s.env x with | some p => aload T s.heap t p | none => none
  | .store t x y => match aev s.env x, aev s.env y with | some p, some v => astore T s t p v | _, _ => none
  | .nilCheck x => match aev s.env x with
    | some v => match anil v with | some u => some (.pure u) | none => none
    | none => none
  | .binOp op t x y _ => match aev s.env x, aev s.env y with
    | some v, some u => match abin T op t v u with | some r => some (.pure r) | none => none
    | _, _ => none
  | .unOp op _ x => match aev s.env x with
    | some v => match aun op v with | some u => some (.pure u) | none => none
    | none => none
  | .makeFunc (.func f) fs cs => match aevs s.env fs.toList, aevs s.env cs.toList with | some l, some m => some (.pure (.fn f l m)) | _, _ => none
  | .makeInterface t x => match aev s.env x with
    | some v => if aifaceT T t = true then some (.pure (.iface t v)) else none
    | none => none
  | .extract x i => match aev s.env x with
    | some (.tup vs) => match vs[i]? with | some v => some (.pure v) | none => none
    | _ => none
  | .fieldAddr t x f => match aev s.env x, afield T t f with
    | some p, some fo => match pstep fo.1 fo.2.1 p with | some q => some (.pure q) | none => none
    | _, _ => none
  | .field t x f => match aev s.env x, afield T t f with
    | some (.agg cs), some fo => match apart_ fo cs with | some v => some (.pure v) | none => none
    | _, _ => none
  | .indexAddr t x y => match aev s.env x, aev s.env y with
    | some p, some (.int _ n) => match aindexAddr' T s.heap t p n with | some r => some ⟨r, [], keysP p, []⟩ | none => none
    | _, _ => none
  | .slice t x lo hi mx => match aev s.env x, aopt s.env lo, aopt s.env hi, aopt s.env mx, asliceT T t with
    | some p, some l, some h, some m, some sz => match aslice s.heap sz p l h m with | some r => some ⟨r, [], keysP p, []⟩ | none => none
    | _, _, _, _, _ => none
  | .makeSlice t x y => match aev s.env x, aev s.env y with
    | some (.int _ n), some (.int _ m) => if n = m then amakeSlice T s key t n else none
    | _, _ => none
  | .call ⟨.builtin .len, ⟨[x]⟩, ⟨[t]⟩⟩ => match aev s.env x, asliceT T t with
    | some p, some _ => match alen p with | some n => some (.pure (.int .i64 n)) | none => none
    | _, _ => none
  | .call ⟨.builtin .min, ⟨[x, y]⟩, _⟩ => match aev s.env x, aev s.env y with
    | some (.int k a), some (.int k' b) => if k = k' then some (.pure (.int k (if b < a then b else a))) else none
    | _, _ => none
  | .call ⟨.builtin .append, ⟨[x, y]⟩, ⟨[t, u]⟩⟩ => if t = u then match aev s.env x, aev s.env y with
    | some .esl, some v => aappend T s key t v
    | _, _ => none
    else none
  | _ => none
theorem asliceT_spec {T : Tab} {t sz : Nat} (h : asliceT T t = some sz) : ∃ i e ei, tget T t = some i ∧ i.kind = .slice e ∧ tget T e = some ei ∧ ei.size = sz := by
  unfold asliceT at h
  split at h
  · rename_i i hi
    split at h
    · rename_i e he
      split at h
      · rename_i ei hei; injection h with h; exact ⟨i, e, ei, hi, he, hei, h⟩
      · cases h
    · cases h
  · cases h
theorem RunsTo.rd {s : AS} {o : Oper} {v : AV} {rd : List Nat} (h : RunsTo P s o (.pure v)) : RunsTo P s o ⟨v, [], rd, []⟩ := fun a w ok μ hr => by
  obtain ⟨u, w', h1, h2⟩ := h a w ok μ hr
  exact ⟨u, w', h1, ⟨h2.ex⟩⟩
theorem abin_ok {T : Tab} (hT : TOk P T) {s : AS} {o : Oper} {op : BinOp} {t yt : Nat} {x y : Operand} (ho : o.op = .binOp op t x y yt) {v u r : AV} (hx : aev s.env x = some v) (hy : aev s.env y = some u) (h : abin T op t v u = some r) : RunsTo P s o (.pure r) := by
  unfold abin at h
  split at h
  · split at h
    · rename_i e; subst e; exact binI_ok ho hx hy h
    · cases h
  · split at h
    · rename_i i hi
      split at h
      · rename_i hk; exact binB_ok hT ho hi hk hx hy h
      · cases h
    · cases h
  · split at h
    · rename_i i hi
      split at h
      · rename_i hag
        split at h
        · rename_i L hL; exact binA_ok hT ho hi hag hL hx hy h
        · cases h
      · cases h
    · cases h
  · cases h
theorem aop_sound {T : Tab} (hT : TOk P T) {s : AS} {o : Oper} {key : Nat} {out : Out} (h : aop T s key o.op = some out) : RunsTo P s o out := by
  unfold aop at h
  split at h
  · rename_i x ho
    split at h
    · rename_i v hv; injection h with h; subst h; exact move_ok (.inl ho) hv
    · cases h
  · rename_i x ho
    split at h
    · rename_i v hv; injection h with h; subst h; exact move_ok (.inr ho) hv
    · cases h
  · rename_i c x y ho
    split at h
    · rename_i b v u h1 h2 h3; injection h with h; subst h; exact pick_ok ho h1 h2 h3
    · cases h
  · rename_i t ho; exact alloc_ok hT ho h
  · rename_i t x ho
    split at h
    · rename_i v hv; exact box_ok ho hv h
    · cases h
  · rename_i t ps ho
    split at h
    · rename_i l hl
      split at h
      · rename_i v hv; injection h with h; subst h; exact build_ok hT ho hl hv
      · cases h
    · cases h
  · rename_i t n ps ho
    split at h
    · rename_i l hl; exact buildSlice_ok hT ho hl h
    · cases h
  · rename_i t x ho
    split at h
    · rename_i p hp; exact load_ok hT ho hp h
    · cases h
  · rename_i t x y ho
    split at h
    · rename_i p v hp hv; exact store_ok hT ho hp hv h
    · cases h
  · rename_i x ho
    split at h
    · rename_i v hv
      split at h
      · rename_i u hu; injection h with h; subst h; exact nil_ok ho hv hu
      · cases h
    · cases h
  · rename_i op t x y yt ho
    split at h
    · rename_i v u hv hu
      split at h
      · rename_i r hr; injection h with h; subst h; exact abin_ok hT ho hv hu hr
      · cases h
    · cases h
  · rename_i op t x ho
    split at h
    · rename_i v hv
      split at h
      · rename_i u hu; injection h with h; subst h; exact un_ok ho hv hu
      · cases h
    · cases h
  · rename_i f fs cs ho
    split at h
    · rename_i l m hl hm; injection h with h; subst h; exact fn_ok ho hl hm
    · cases h
  · rename_i t x ho
    split at h
    · rename_i v hv
      split at h
      · rename_i hi
        injection h with h; subst h
        unfold aifaceT at hi
        split at hi
        · rename_i i hti; exact iface_ok hT ho hti hi hv
        · cases hi
      · cases h
    · cases h
  · rename_i x i ho
    split at h
    · rename_i vs hv
      split at h
      · rename_i v hi; injection h with h; subst h; exact extract_ok ho hv hi
      · cases h
    · cases h
  · rename_i t x f ho
    split at h
    · rename_i p fo hp hf
      split at h
      · rename_i q hq; injection h with h; subst h; exact fieldAddr_ok hT ho hp hf hq
      · cases h
    · cases h
  · rename_i t x f ho
    split at h
    · rename_i cs fo hp hf
      split at h
      · rename_i q hq; injection h with h; subst h; exact field_ok hT ho hp hf hq
      · cases h
    · cases h
  · rename_i t x y ho
    split at h
    · rename_i p k n hp hn
      split at h
      · rename_i r hr; injection h with h; subst h; exact (indexAddr_ok hT ho hp hn hr).rd
      · cases h
    · cases h
  · rename_i t x lo hi mx ho
    split at h
    · rename_i p l hh m sz h1 h2 h3 h4 h5
      split at h
      · rename_i r hr
        injection h with h; subst h
        obtain ⟨i, e, ei, g1, g2, g3, g4⟩ := asliceT_spec h5
        subst g4
        exact (slice_ok hT ho g1 g2 g3 h1 h2 h3 h4 hr).rd
      · cases h
    · cases h
  · rename_i t x y ho
    split at h
    · rename_i k n k' m h1 h2
      split at h
      · rename_i e; subst e; exact makeSlice_ok hT ho h1 h2 h
      · cases h
    · cases h
  · rename_i x t ho
    split at h
    · rename_i p sz h1 h2
      split at h
      · rename_i n hn
        injection h with h; subst h
        obtain ⟨i, e, ei, g1, g2, g3, g4⟩ := asliceT_spec h2
        exact len_ok hT ho g1 g2 h1 hn
      · cases h
    · cases h
  · rename_i x y ts ho
    split at h
    · rename_i k a k' b h1 h2
      split at h
      · rename_i e; subst e; injection h with h; subst h; exact min_ok ho h1 h2
      · cases h
    · cases h
  · rename_i x y t u ho
    split at h
    · rename_i e; subst e
      split at h
      · rename_i v h1 h2; exact append_ok hT ho h1 h2 h
      · cases h
    · cases h
  · cases h

/-! ### Steps of a walk -/
def AS.key (s : AS) (d : Option Tmp) : Nat := s.fb + 8 * d.getD 0
def dstOk (s : AS) (d : Option Tmp) : Bool := match d with | some d => decide (d < s.nt) | none => true
theorem dstOk_spec {s : AS} {d : Option Tmp} (h : dstOk s d = true) : ∀ x, d = some x → x < s.nt := by
  intro x hx; subst hx; simpa [dstOk] using h
theorem AOps.op {T : Tab} (hT : TOk P T) {ops : Array Oper} {o : Oper} {rest : List Oper} {s s' : AS} {N : AS → Prop} {out : Out} (hg : o.guard = none) (hd : dstOk s o.dst = true) (h : aop T s (s.key o.dst) o.op = some out) (hs : s.apply o.dst out = s')
    (hn : AOps P ops rest s' N) : AOps P ops (o :: rest) s N := AOps.cons hg (dstOk_spec hd) (aop_sound hT h) (hs ▸ hn)
theorem AOps.opYes {T : Tab} (hT : TOk P T) {ops : Array Oper} {o : Oper} {rest : List Oper} {s s' : AS} {N : AS → Prop} {out : Out} {j : Nat} {want : Bool} (hg : o.guard = some (j, want)) (hy : aguard ops s.env j = some (.bool want)) (hd : dstOk s o.dst = true)
    (h : aop T s (s.key o.dst) o.op = some out) (hs : s.apply o.dst out = s') (hn : AOps P ops rest s' N) : AOps P ops (o :: rest) s N := AOps.yes hg hy (dstOk_spec hd) (aop_sound hT h) (hs ▸ hn)
theorem AOps.opNo {ops : Array Oper} {o : Oper} {rest : List Oper} {s s' : AS} {N : AS → Prop} {j : Nat} {want : Bool} (hg : o.guard = some (j, want)) (hy : aguard ops s.env j = some (.bool (!want)) ∨ aguard ops s.env j = some (.tup [])) (hd : dstOk s o.dst = true)
    (hs : s.apply o.dst (.pure (.tup [])) = s') (hn : AOps P ops rest s' N) : AOps P ops (o :: rest) s N := AOps.no hg hy (dstOk_spec hd) (hs ▸ hn)
end Go.Qd
set_option linter.unusedVariables false
set_option linter.unusedSimpArgs false
namespace Go.Qd
open Go Go.RowKit
variable {P : Program}

/-! ### A region of open order, with a tail whose order is settled -/
def tailOk (ops : Array Oper) (B : List Nat) (cut : Nat) : Bool :=
  (List.range ops.size).all fun j => decide (j < cut) || (List.range j).all fun i => orderedB B i j
theorem tail_spec {ops : Array Oper} {B : List Nat} {cut : Nat} (h : tailOk ops B cut = true) {i j : Nat} (hj : j < ops.size) (hc : cut ≤ j) (hi : i < j) : orderedB B i j = true := by
  unfold tailOk at h
  rw [List.all_eq_true] at h
  have h1 := h j (List.mem_range.2 hj)
  simp only [Bool.or_eq_true, decide_eq_true_eq] at h1
  rcases h1 with h1 | h1
  · omega
  · rw [List.all_eq_true] at h1
    exact h1 i (List.mem_range.2 hi)
theorem ready_pre {ops : Array Oper} {B : List Nat} (hb : bitsOk ops B = true) {listed : Array Bool} (hsz : listed.size = ops.size) (hcl : Closed ops (fun j => listed.getD j false)) {i : Nat} (hi : i ∈ Region.ready .any ops listed) :
    i < ops.size ∧ listed.getD i false = false ∧ ∀ j, j < i → orderedB B j i = true → listed.getD j false = true := by
  obtain ⟨h1, o, ho, h3⟩ := mem_ready.1 hi
  have hi' := (Array.getElem?_eq_some_iff.1 ho).1
  refine ⟨hi', ?_, fun j hj hor => ?_⟩
  · rw [Array.getD_eq_getD_getElem?, Array.getElem?_eq_getElem (by omega)] at h1 ⊢
    simpa using h1
  · exact closed_bits hb hcl i hi' (fun o' ho' e he hbd => by rw [ho] at ho'; injection ho' with ho'; subst ho'; exact h3 e he hbd) j hj hor
theorem ready_none {ops : Array Oper} (hed : edgesOk ops = true) {listed : Array Bool} (hsz : listed.size = ops.size) (hnil : Region.ready .any ops listed = []) : ∀ j, j < ops.size → listed.getD j false = true := by
  intro j
  induction j using Nat.strongRecOn with
  | _ j ihj =>
    intro hj
    cases hlj : listed.getD j false with
    | true => rfl
    | false =>
      exfalso
      have : j ∈ Region.ready .any ops listed := by
        rw [mem_ready]
        have hjo : ops[j]? = some ops[j] := Array.getElem?_eq_getElem hj
        refine ⟨?_, ops[j], hjo, fun e he hb => ?_⟩
        · rw [Array.getD_eq_getD_getElem?, Array.getElem?_eq_getElem (by omega)] at hlj ⊢
          simpa using hlj
        · unfold edgesOk at hed
          rw [List.all_eq_true] at hed
          have h1 := hed j (List.mem_range.2 hj)
          rw [hjo] at h1
          simp only [Option.map_some, Option.getD_some] at h1
          rw [List.all_eq_true] at h1
          have h2 := h1 e (by simpa using he)
          rw [hb] at h2
          simp only [Bool.not_true, Bool.false_or, decide_eq_true_eq] at h2
          exact ihj e.on h2 (by omega)
      rw [hnil] at this; cases this
theorem listed_set {listed : Array Bool} {i : Nat} (hi : i < listed.size) (j : Nat) : (listed.setIfInBounds i true).getD j false = if j = i then true else listed.getD j false := by
  by_cases e : j = i
  · subst e; rw [if_pos rfl, Array.getD_eq_getD_getElem?]; simp [hi]
  · rw [if_neg e, Array.getD_eq_getD_getElem?, Array.getD_eq_getD_getElem?, Array.getElem?_setIfInBounds_ne (fun h => e h.symm)]
theorem closed_lt {ops : Array Oper} (hed : edgesOk ops = true) (m : Nat) {listed : Array Bool} (hl : ∀ j, listed.getD j false = decide (j < m)) : Closed ops (fun j => listed.getD j false) := by
  intro j o hj ho e he hb
  have hj' := (Array.getElem?_eq_some_iff.1 ho).1
  simp only [hl, decide_eq_true_eq] at hj ⊢
  unfold edgesOk at hed
  rw [List.all_eq_true] at hed
  have h1 := hed j (List.mem_range.2 hj')
  rw [ho] at h1
  simp only [Option.map_some, Option.getD_some] at h1
  rw [List.all_eq_true] at h1
  have h2 := h1 e (by simpa using he)
  rw [hb] at h2
  simp only [Bool.not_true, Bool.false_or, decide_eq_true_eq] at h2
  omega
theorem oAny_tail {ops : Array Oper} {B : List Nat} {cut : Nat} (hb : bitsOk ops B = true) (hed : edgesOk ops = true) (ht : tailOk ops B cut = true) {Q : Exit → Act → World → Prop} :
    ∀ (fuel m : Nat) (listed : Array Bool) (a : Act) (w : World), cut ≤ m → ops.size - m ≤ fuel → m ≤ ops.size → listed.size = ops.size → (∀ j, listed.getD j false = decide (j < m)) → oList P ops Q (ops.toList.drop m) a w → oAny P .any ops Q fuel listed a w := by
  intro fuel
  induction fuel with
  | zero =>
    intro m listed a w hcm hf hm hsz hl hw
    have he : m = ops.size := by omega
    subst he
    rw [List.drop_eq_nil_of_le (by simp)] at hw
    refine ⟨?_, hw⟩
    cases hrd : Region.ready .any ops listed with
    | nil => rfl
    | cons i r =>
      have : i ∈ Region.ready .any ops listed := by rw [hrd]; simp
      obtain ⟨h1, h2, _⟩ := ready_pre hb hsz (closed_lt hed _ hl) this
      rw [hl] at h2
      simp [h1] at h2
  | succ fuel ih =>
    intro m listed a w hcm hf hm hsz hl hw
    refine ⟨fun hnil => ?_, fun i hi => ?_⟩
    · have he : m = ops.size := by
        by_cases h : m < ops.size
        · have := ready_none hed hsz hnil m h
          rw [hl] at this; simp at this
        · omega
      subst he
      rw [List.drop_eq_nil_of_le (by simp)] at hw
      exact hw
    · obtain ⟨h1, h2, h3⟩ := ready_pre hb hsz (closed_lt hed _ hl) hi
      rw [hl] at h2
      simp only [decide_eq_false_iff_not, Nat.not_lt] at h2
      have him : i = m := by
        by_cases h : i = m
        · exact h
        · have := h3 m (by omega) (tail_spec ht h1 (by omega) (by omega))
          rw [hl] at this; simp at this
      subst him
      have hdrop : ops.toList.drop i = ops[i] :: ops.toList.drop (i + 1) := by
        rw [List.drop_eq_getElem_cons (by simpa using h1)]; simp
      rw [hdrop] at hw
      have hnext : ∀ a w, oList P ops Q (ops.toList.drop (i + 1)) a w → oAny P .any ops Q fuel (listed.setIfInBounds i true) a w := fun a w h =>
        ih (i + 1) _ a w (by omega) (by omega) (by omega) (by simpa using hsz) (fun j => by
          rw [listed_set (by omega), hl]
          by_cases e : j = i
          · subst e; simp
          · rw [if_neg e]; congr 1; simp only [eq_iff_iff]; omega) h
      unfold oOpI
      rw [Array.getElem?_eq_getElem h1]
      simp only
      unfold oList at hw
      split
      · rename_i hwd
        rw [if_pos hwd] at hw
        exact oOp_mono hnext hw
      · rename_i hwd
        rw [if_neg hwd] at hw
        exact hnext _ _ hw

/-- A region whose order is open up to its tail goes as in the order of the text. -/
theorem AWP.anyCut {id : Nat} {ops : Array Oper} {s0 : AS} {K : Exit → AS → Prop} (hm : P.follows .mixedOrders = true) (effs : List Out) (B : List Nat) (hA : AnyOk ops effs B) (cut : Nat) (hcut : cut ≤ ops.size) (ht : tailOk ops B cut = true)
    (hop : ∀ i o, i < cut → ops[i]? = some o → ∀ s, Agree ops o (effOf effs i) (stOf ops effs s0 (fun _ => true) i) s → Goes P ops i s (s.apply o.dst (effOf effs i)))
    (hK : AOps P ops (ops.toList.drop cut) (stOf ops effs s0 (fun _ => true) cut) (K .normal)) : AWP P (.region id ops true) s0 K := by
  intro a w ok μ hr
  obtain ⟨hrd, hsd⟩ := hr.drew
  refine cwp_region_any hm ?_
  have hz : stOf ops effs s0 (fun j => (Array.replicate ops.size false).getD j false) ops.size = s0 := by
    have key : ∀ q, q ≤ ops.size → stOf ops effs s0 (fun j => (Array.replicate ops.size false).getD j false) q = s0 := by
      intro q
      induction q with
      | zero => intro _; rfl
      | succ q ih =>
        intro hq
        have hf : (Array.replicate ops.size false).getD q false = false := by
          rw [Array.getD_eq_getD_getElem?, Array.getElem?_replicate]; split <;> rfl
        rw [stOf_succ, hf]; exact ih (by omega)
    exact key _ (Nat.le_refl _)
  have main : ∀ (fuel : Nat) (listed : Array Bool) (a1 : Act) (w1 : World) (ok1 : Nat → Prop) (μ1 : Mu), listed.size = ops.size → ((List.range ops.size).filter fun j => !listed.getD j false).length ≤ fuel → Closed ops (fun j => listed.getD j false) →
      (∀ j, cut ≤ j → listed.getD j false = false) →
      Rel (stOf ops effs s0 (fun j => listed.getD j false) ops.size) a1 w1 ok1 μ1 → Step s0.fb s0.heap s0.frz w ok μ (stOf ops effs s0 (fun j => listed.getD j false) ops.size).heap (stOf ops effs s0 (fun j => listed.getD j false) ops.size).frz w1 ok1 μ1 →
      oAny P .any ops (Post s0 w ok μ K) fuel listed a1 w1 := by
    intro fuel
    induction fuel with
    | zero =>
      intro listed a1 w1 ok1 μ1 hsz hc hcl hun hr1 hs1
      have hall : ∀ j, j < ops.size → listed.getD j false = true := by
        intro j hj
        have : ((List.range ops.size).filter fun j => !listed.getD j false) = [] := List.eq_nil_of_length_eq_zero (by omega)
        rw [List.filter_eq_nil_iff] at this
        have := this j (List.mem_range.2 hj)
        simpa using this
      have hce : cut = ops.size := by
        by_cases h : cut < ops.size
        · have := hall cut h
          rw [hun cut (Nat.le_refl _)] at this; cases this
        · omega
      subst hce
      have hst : stOf ops effs s0 (fun j => listed.getD j false) ops.size = stOf ops effs s0 (fun _ => true) ops.size := by
        have key : ∀ q, q ≤ ops.size → stOf ops effs s0 (fun j => listed.getD j false) q = stOf ops effs s0 (fun _ => true) q := by
          intro q
          induction q with
          | zero => intro _; rfl
          | succ q ih => intro hq; rw [stOf_succ, stOf_succ, ih (by omega), hall q (by omega)]
        exact key _ (Nat.le_refl _)
      rw [hst] at hr1 hs1
      have hfb := (stOf_fb ops effs s0 (fun _ => true) ops.size)
      have hw := hK.after (s := s0) hfb.1 hfb.2 hr1 hs1
      refine oAny_tail hA.bits hA.edges ht 0 ops.size listed a1 w1 (Nat.le_refl _) (by omega) (Nat.le_refl _) hsz (fun j => ?_) (oList_mono (fun e a' w' hp => ?_) _ _ _ hw)
      · by_cases h : j < ops.size
        · rw [hall j h]; simp [h]
        · rw [hun j (by omega)]; simp [h]
      · exact hp.mono fun e s' h => by cases e <;> first | exact h | exact h.elim
    | succ fuel ih =>
      intro listed a1 w1 ok1 μ1 hsz hc hcl hun hr1 hs1
      by_cases hall : ∀ j, j < cut → listed.getD j false = true
      · have hst : stOf ops effs s0 (fun j => listed.getD j false) ops.size = stOf ops effs s0 (fun _ => true) cut := by
          have key : ∀ q, q ≤ cut → stOf ops effs s0 (fun j => listed.getD j false) q = stOf ops effs s0 (fun _ => true) q := by
            intro q
            induction q with
            | zero => intro _; rfl
            | succ q ih => intro hq; rw [stOf_succ, stOf_succ, ih (by omega), hall q (by omega)]
          have key2 : ∀ d, cut + d ≤ ops.size → stOf ops effs s0 (fun j => listed.getD j false) (cut + d) = stOf ops effs s0 (fun _ => true) cut := by
            intro d
            induction d with
            | zero => intro _; exact key _ (Nat.le_refl _)
            | succ d ih => intro hd; rw [← Nat.add_assoc, stOf_succ, hun (cut + d) (by omega)]; exact ih (by omega)
          have := key2 (ops.size - cut) (by omega)
          rwa [show cut + (ops.size - cut) = ops.size by omega] at this
        rw [hst] at hr1 hs1
        have hfb := (stOf_fb ops effs s0 (fun _ => true) cut)
        have hw := hK.after (s := s0) hfb.1 hfb.2 hr1 hs1
        have hcnt : ops.size - cut ≤ fuel + 1 := by
          have hl : ((List.range ops.size).filter fun j => !listed.getD j false).length = ops.size - cut := by
            have : (List.range ops.size).filter (fun j => !listed.getD j false) = (List.range ops.size).filter (fun j => decide (cut ≤ j)) := by
              refine List.filter_congr fun j hj => ?_
              by_cases h : j < cut
              · rw [hall j h]; simp; omega
              · rw [hun j (by omega)]; simp; omega
            rw [this]
            have h2 : List.range ops.size = List.range cut ++ List.range' cut (ops.size - cut) := by
              rw [List.range_eq_range', List.range_eq_range']
              have := List.range'_append (s := 0) (m := cut) (n := ops.size - cut) (step := 1)
              rw [show 0 + 1 * cut = cut by omega, show cut + (ops.size - cut) = ops.size by omega] at this
              exact this.symm
            rw [h2, List.filter_append, List.length_append]
            have h3 : (List.range cut).filter (fun j => decide (cut ≤ j)) = [] := by
              rw [List.filter_eq_nil_iff]; intro j hj; have := List.mem_range.1 hj; simp; omega
            have h4 : (List.range' cut (ops.size - cut)).filter (fun j => decide (cut ≤ j)) = List.range' cut (ops.size - cut) := by
              rw [List.filter_eq_self]; intro j hj; rw [List.mem_range'] at hj; simp; omega
            rw [h3, h4]; simp
          omega
        refine oAny_tail hA.bits hA.edges ht (fuel + 1) cut listed a1 w1 (Nat.le_refl _) hcnt hcut hsz (fun j => ?_) (oList_mono (fun e a' w' hp => ?_) _ _ _ hw)
        · by_cases h : j < cut
          · rw [hall j h]; simp [h]
          · rw [hun j (by omega)]; simp [h]
        · exact hp.mono fun e s' h => by cases e <;> first | exact h | exact h.elim
      · refine ⟨fun hnil => ?_, fun i hi => ?_⟩
        · exact absurd (fun j hj => ready_none hA.edges hsz hnil j (by omega)) hall
        · obtain ⟨h1, o, ho, h3⟩ := mem_ready.1 hi
          obtain ⟨hi', hno, hpre⟩ := ready_pre hA.bits hsz hcl hi
          have hic : i < cut := by
            by_cases h : i < cut
            · exact h
            · exact absurd (fun j hj => hpre j (by omega) (tail_spec ht hi' (by omega) (by omega))) hall
          have hab : About ops (fun j => listed.getD j false) i := ⟨hi', hcl, hno, fun o' ho' e he hb => by rw [ho] at ho'; injection ho' with ho'; subst ho'; exact h3 e he hb⟩
          have hgo := hop i o hic ho _ (agree_any (s0 := s0) hA hab ho)
          have hdst : o.dst = dstOf ops i := by simp [dstOf, ho]
          rw [hdst] at hgo
          have hgo2 := Goes.eqv hgo (eqv_any (s0 := s0) hA hab)
          have hsetf : setB (fun j => listed.getD j false) i = fun j => (listed.setIfInBounds i true).getD j false := funext fun j => by
            rw [listed_set (by omega)]; rfl
          rw [hsetf] at hgo2
          refine hgo2 a1 w1 ok1 μ1 hr1 _ (Post s0 w ok μ K) fun a2 w2 ok2 μ2 hr2 hs2 => ?_
          have hfb := (stOf_fb ops effs s0 (fun j => listed.getD j false) ops.size).1
          refine ih _ a2 w2 ok2 μ2 (by simpa using hsz) ?_ (fun j o' hj ho' e he hb => ?_) (fun j hj => ?_) hr2 (hs1.trans (hfb ▸ hs2))
          · have := listed_count listed ops.size hsz i hi' h1
            omega
          · simp only [listed_set (show i < listed.size by omega)] at hj ⊢
            by_cases e1 : j = i
            · subst e1
              rw [ho] at ho'; injection ho' with ho'; subst ho'
              have := h3 e he hb
              split
              · rfl
              · exact this
            · rw [if_neg e1] at hj
              have := hcl j o' hj ho' e he hb
              split
              · rfl
              · exact this
          · rw [listed_set (by omega), if_neg (by omega)]; exact hun j hj
  refine main ops.size (Array.replicate ops.size false) a _ ok μ (by simp) ?_ ?_ ?_ ?_ ?_
  · refine Nat.le_trans (List.length_filter_le _ _) (by simp)
  · intro j o hj0
    have hj : (Array.replicate ops.size false).getD j false = true := hj0
    rw [Array.getD_eq_getD_getElem?] at hj
    rw [Array.getElem?_replicate] at hj
    split at hj <;> simp at hj
  · intro j _
    rw [Array.getD_eq_getD_getElem?, Array.getElem?_replicate]; split <;> rfl
  · rw [hz]; exact hrd
  · rw [hz]; exact hsd
end Go.Qd
