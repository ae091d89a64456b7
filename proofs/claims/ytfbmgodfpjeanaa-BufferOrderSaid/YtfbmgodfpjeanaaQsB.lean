/- A part of the library of this claim: rules of an abstract machine (values in place of addresses), proved against the model, and contracts of the functions. -/
import Derived.Test.YtfbmgodfpjeanaaQsA
set_option linter.unusedVariables false
set_option linter.unusedSimpArgs false
namespace Go.Qd
open Go Go.Proofs
/-! What the lists become. -/
def mkWake (c v : Int) (w : Wait) : Wake := ⟨w.proc, c, v⟩
def insW (w : Wait) : List Wait → List Wait
  | [] => [w]
  | x :: r => if x.prio < w.prio then w :: x :: r else x :: insW w r
def addW (l : List Wait) (w : Wait) (ranked : Bool) : List Wait := if ranked = true then insW w l else l ++ [w]
theorem insW_len (w : Wait) (l : List Wait) : (insW w l).length = l.length + 1 := by
  induction l with
  | nil => rfl
  | cons x r ih => simp only [insW]; split <;> simp [ih]
theorem addW_len (l : List Wait) (w : Wait) (b : Bool) : (addW l w b).length = l.length + 1 := by
  unfold addW; split
  · exact insW_len w l
  · simp
def hasW (l : List Wait) (p : Int) : Bool := l.any fun w => decide (w.proc = p)

theorem hasW_cons (x : Wait) (r : List Wait) (p : Int) : hasW (x :: r) p = (decide (x.proc = p) || hasW r p) := rfl
set_option maxRecDepth 10000 in
/-- ref12.Has -/
theorem has38 (l : List Wait) (p : Int) (hl : l.length ≤ 1000000) : ICall Try.prog 38 [Wl l, iv p] (.bool (hasW l p)) [] := by
  refine ICall.of_body' T12_ok ⟨Try.func38, rfl, by decide⟩ (by simp [Try.f38]) ?_
  refine AWP.goA ?_
  refine AWP.loopT (fun i : Nat => ⟨0, Try.f38.ntmps, [(0, Wl l), (1, iv p), (5, iv i)], [], []⟩) (fun i => i ≤ l.length ∧ hasW l p = hasW (l.drop i) p) (fun i => l.length - i) 0 (by simp)
    (Thin.to [] rfl rfl rfl rfl rfl (by simp [envIn, eget]) rfl) ?_
  rintro i ⟨hi, hh⟩
  refine AWP.goA ?_
  refine AWP.condA ?_ ?_ <;> intro hc
  · have hil : i < l.length := by simp at hc; omega
    have hd : l.drop i = l[i] :: l.drop (i + 1) := List.drop_eq_getElem_cons hil
    refine AWP.goF (idxW hil) ?_
    refine AWP.condA ?_ ?_ <;> intro hc2
    · refine AWP.goA ?_
      refine AWP.ret ?_
      refine ⟨trivial, [], by simp, .bool true, rfl, ?_, rfl, rfl⟩
      have : hasW l p = true := by rw [hh, hd, hasW_cons]; rw [eqb] at hc2; rw [hc2]; rfl
      rw [this]; rfl
    · refine AWP.goA ?_
      refine ⟨i + 1, ⟨by omega, ?_⟩, by omega, Thin.to [] rfl rfl rfl rfl rfl (by simp [envIn, eget, wrap_succ (show i < 9223372036854775807 by omega)]) rfl⟩
      rw [hh, hd, hasW_cons]; rw [eqb] at hc2; rw [hc2]; rfl
  · have hie : i = l.length := by simp at hc; omega
    subst hie
    refine AWP.goA ?_
    refine AWP.ret ?_
    refine ⟨trivial, [], by simp, .bool false, rfl, ?_, rfl, rfl⟩
    rw [hh]; simp [hasW, convA, lsA]
theorem insW_out {w : Wait} {out l : List Wait} {i : Nat} (h : i < l.length) : l.drop i = l[i] :: l.drop (i + 1) := List.drop_eq_getElem_cons h
/-- What is yet to come of ref12.Add. -/
def restW (w : Wait) (ranked done : Bool) (r : List Wait) : List Wait := if done = true then r else addW r w ranked
set_option maxHeartbeats 4000000 in
set_option maxRecDepth 10000 in
/-- ref12.Add -/
theorem add33 (l : List Wait) (w : Wait) (ranked : Bool) (hl : l.length ≤ 1000000) : ICall Try.prog 33 [Wl l, .agg (encWait w), .bool ranked] (Wl (addW l w ranked)) [] := by
  refine ICall.of_body' T12_ok ⟨Try.func33, rfl, by decide⟩ (by simp [Try.f33]) ?_
  refine AWP.goA ?_
  refine AWP.thin (Thin.ghost 7 57 25 3 (by rfl) (by rfl)) ?_
  refine AWP.asA ?_
  refine AWP.loopT (fun x : Nat × Bool × List Wait => ⟨0, Try.f33.ntmps, [(0, Wl l), (2, .bool ranked), (4, .ptr 32 0 0), (7, .osl 57 0 x.2.2.length), (8, .bool x.2.1), (9, iv x.1)], [(32, ⟨25, 3, true, [encWait w]⟩), (57, ⟨25, 3, true, x.2.2.map encWait⟩)], []⟩)
    (fun x => x.1 ≤ l.length ∧ x.2.2.length = x.1 + (if x.2.1 = true then 1 else 0) ∧ addW l w ranked = x.2.2 ++ restW w ranked x.2.1 (l.drop x.1)) (fun x => l.length - x.1) (0, false, []) (by simp [restW])
    (Thin.to [] rfl rfl rfl rfl rfl (by simp [envIn, eget, eput]) rfl) ?_
  rintro ⟨i, done, out⟩ ⟨hi, ho, hh⟩
  simp only at hi ho hh
  have hol : out.length ≤ i + 1 := by rw [ho]; split <;> omega
  refine AWP.goA ?_
  refine AWP.condA ?_ ?_ <;> intro hc
  · have hil : i < l.length := by simp at hc; omega
    have hd : l.drop i = l[i] :: l.drop (i + 1) := List.drop_eq_getElem_cons hil
    have key : ∀ (dn : Bool) (o2 : List Wait), o2.length ≤ i + 1 → addW l w ranked = o2 ++ (l[i] :: restW w ranked dn (l.drop (i + 1))) → addW l w ranked = (o2 ++ [l[i]]) ++ restW w ranked dn (l.drop (i + 1)) := fun dn o2 _ h => by rw [h]; simp
    have hstop : done = true ∨ ranked = false → addW l w ranked = out ++ (l[i] :: restW w ranked done (l.drop (i + 1))) := by
      intro h
      rw [hh, hd]
      rcases h with rfl | rfl
      · rfl
      · cases done <;> rfl
    cases hr : ranked <;> cases hdn : done <;> subst hr <;> subst hdn
    · refine AWP.goF (idxW hil) ?_
      refine AWP.condA ?_ ?_ <;> intro hc2
      · cases hc2
      · refine AWP.goF (idxW hil) ?_
        refine ⟨(i + 1, false, out ++ [l[i]]), ⟨by omega, by simp [ho], key _ _ (by omega) (hstop (.inr rfl))⟩, by simp; omega, Thin.to [320] rfl rfl rfl rfl rfl (by simp [envIn, eget, wrap_succ (show i < 9223372036854775807 by omega)]) (by simp [killsH, killH, killO])⟩
    · refine AWP.goF (idxW hil) ?_
      refine AWP.condA ?_ ?_ <;> intro hc2
      · cases hc2
      · refine AWP.goF (idxW hil) ?_
        refine ⟨(i + 1, true, out ++ [l[i]]), ⟨by omega, by simp [ho], key _ _ (by omega) (hstop (.inr rfl))⟩, by simp; omega, Thin.to [320] rfl rfl rfl rfl rfl (by simp [envIn, eget, wrap_succ (show i < 9223372036854775807 by omega)]) (by simp [killsH, killH, killO])⟩
    · refine AWP.goF (idxW hil) ?_
      refine AWP.condA ?_ ?_ <;> intro hc2
      · have hlt : l[i].prio < w.prio := by simpa using hc2
        have hout : out.length = i := by simpa using ho
        refine AWP.goF (idxW hil) ?_
        refine ⟨(i + 1, true, (out ++ [w]) ++ [l[i]]), ⟨by omega, by simp [ho], key _ _ (by simp; omega) (by rw [hh, hd]; simp [restW, addW, insW, hlt])⟩, by simp; omega, Thin.to [264, 320] rfl rfl rfl rfl rfl (by simp [envIn, eget, wrap_succ (show i < 9223372036854775807 by omega)]) (by simp [killsH, killH, killO])⟩
      · have hlt : ¬ l[i].prio < w.prio := by simpa using hc2
        refine AWP.goF (idxW hil) ?_
        refine ⟨(i + 1, false, out ++ [l[i]]), ⟨by omega, by simp [ho], key _ _ (by omega) (by rw [hh, hd]; simp [restW, addW, insW, hlt])⟩, by simp; omega, Thin.to [320] rfl rfl rfl rfl rfl (by simp [envIn, eget, wrap_succ (show i < 9223372036854775807 by omega)]) (by simp [killsH, killH, killO])⟩
    · refine AWP.goF (idxW hil) ?_
      refine AWP.condA ?_ ?_ <;> intro hc2
      · cases hc2
      · refine AWP.goF (idxW hil) ?_
        refine ⟨(i + 1, true, out ++ [l[i]]), ⟨by omega, by simp [ho], key _ _ (by omega) (hstop (.inl rfl))⟩, by simp; omega, Thin.to [320] rfl rfl rfl rfl rfl (by simp [envIn, eget, wrap_succ (show i < 9223372036854775807 by omega)]) (by simp [killsH, killH, killO])⟩
  · have hie : i = l.length := by simp at hc; omega
    subst hie
    rw [List.drop_length] at hh
    cases done
    · refine AWP.goA ?_
      refine AWP.condA ?_ ?_ <;> intro hc2
      · refine AWP.goA ?_
        refine AWP.ret ?_
        refine ⟨trivial, [], by simp, .osl 57 0 (out.length + 1), rfl, ?_, rfl, rfl⟩
        rw [hh]
        simp [convA, idxIn, hget, lsA, restW, addW, insW, List.take_of_length_le]
      · cases hc2
    · refine AWP.goA ?_
      refine AWP.condA ?_ ?_ <;> intro hc2
      · cases hc2
      · refine AWP.goA ?_
        refine AWP.ret ?_
        refine ⟨trivial, [], by simp, .osl 57 0 out.length, rfl, ?_, rfl, rfl⟩
        rw [hh]
        simp [convA, idxIn, hget, lsA, restW, List.take_of_length_le]
end Go.Qd
set_option linter.unusedVariables false
set_option linter.unusedSimpArgs false
set_option maxHeartbeats 4000000
set_option maxRecDepth 10000
namespace Go.Qd
open Go Go.Proofs
/-- waiters.Has$1 -/
theorem has71 (x : Wait) (p : Int) : Con Try.prog 71 [.agg (encWait x), .vptr (encI p)] (.bool (decide (x.proc = p))) [] := by
  refine ⟨⟨_, _, Try.func71, rfl, by decide⟩, ICall.of_body' T12_ok ⟨Try.func71, rfl, by decide⟩ (by simp [Try.f71]) ?_⟩
  refine AWP.goA ?_
  refine AWP.ret ?_
  refine ⟨trivial, [], by simp, .bool _, rfl, ?_, rfl, rfl⟩
  rw [← eqb]; rfl
/-- (rank).place$1 -/
theorem place108 (x w : Wait) : Con Try.prog 108 [.agg (encWait x), .vptr (encWait w)] (.bool (decide (x.prio < w.prio))) [] := by
  refine ⟨⟨_, _, Try.func108, rfl, by decide⟩, ICall.of_body' T12_ok ⟨Try.func108, rfl, by decide⟩ (by simp [Try.f108]) ?_⟩
  refine AWP.goA ?_
  refine AWP.ret ?_
  exact ⟨trivial, [], by simp, .bool _, rfl, rfl, rfl, rfl⟩
def fidx (q : Wait → Bool) : List Wait → Nat → Int
  | [], _ => -1
  | x :: r, n => if q x = true then (n : Int) else fidx q r (n + 1)
/-- slices.IndexFunc -/
theorem index87 (l : List Wait) (g : FuncId) (c : List AV) (q : Wait → Bool) (hg : ∀ x, Con Try.prog g [.agg (encWait x), .vptr c] (.bool (q x)) []) (hl : l.length ≤ 1000000) : Con Try.prog 87 [Wl l, .fn g [] [.vptr c]] (iv (fidx q l 0)) [] := by
  refine ⟨⟨_, _, Try.func87, rfl, by decide⟩, ICall.of_body' T12_ok ⟨Try.func87, rfl, by decide⟩ (by simp [Try.f87]) ?_⟩
  refine AWP.goA ?_
  refine AWP.loopT (fun i : Nat => ⟨0, Try.f87.ntmps, [(0, Wl l), (1, .fn g [] [.vptr c]), (7, iv l.length), (8, iv i)], [], []⟩) (fun i => i ≤ l.length ∧ fidx q l 0 = fidx q (l.drop i) i) (fun i => l.length - i) 0 (by simp)
    (Thin.to [] rfl rfl rfl rfl rfl (by simp [envIn, eget]) rfl) ?_
  rintro i ⟨hi, hh⟩
  refine AWP.goA ?_
  refine AWP.condA ?_ ?_ <;> intro hc
  · have hil : i < l.length := by simp at hc; omega
    have hd : l.drop i = l[i] :: l.drop (i + 1) := List.drop_eq_getElem_cons hil
    refine AWP.goF (idxW hil) ?_
    refine AWP.region ?_
    refine AOps.goF (idxW hil) ?_
    refine AOps.conA (hg l[i]) ?_
    refine AOps.endA ?_
    refine AWP.condA ?_ ?_ <;> intro hc2
    · refine AWP.goA ?_
      refine AWP.ret ?_
      refine ⟨trivial, [], by simp, iv i, rfl, ?_, rfl, rfl⟩
      rw [hh, hd, fidx, if_pos hc2]; rfl
    · refine AWP.goA ?_
      refine ⟨i + 1, ⟨by omega, ?_⟩, by omega, Thin.to [] rfl rfl rfl rfl rfl (by simp [envIn, eget, wrap_succ (show i < 9223372036854775807 by omega)]) rfl⟩
      rw [hh, hd, fidx, if_neg (by rw [hc2]; simp)]
  · have hie : i = l.length := by simp at hc; omega
    subst hie
    refine AWP.goA ?_
    refine AWP.ret ?_
    refine ⟨trivial, [], by simp, iv (-1), rfl, ?_, rfl, rfl⟩
    rw [hh, List.drop_length]; rfl
theorem fidx_ge (q : Wait → Bool) : ∀ (l : List Wait) (n : Nat), (0 ≤ fidx q l n ↔ l.any q = true) := by
  intro l
  induction l with
  | nil => intro n; simp [fidx]
  | cons x r ih =>
    intro n
    simp only [fidx, List.any_cons, Bool.or_eq_true]
    split
    · rename_i h; simp [h]
    · rename_i h; rw [ih]; simp [h]
/-- slices.ContainsFunc -/
theorem contains70 (l : List Wait) (g : FuncId) (c : List AV) (q : Wait → Bool) (hg : ∀ x, Con Try.prog g [.agg (encWait x), .vptr c] (.bool (q x)) []) (hl : l.length ≤ 1000000) : Con Try.prog 70 [Wl l, .fn g [] [.vptr c]] (.bool (l.any q)) [] := by
  refine ⟨⟨_, _, Try.func70, rfl, by decide⟩, ICall.of_body' T12_ok ⟨Try.func70, rfl, by decide⟩ (by simp [Try.f70]) ?_⟩
  refine AWP.goA ?_
  refine AWP.region ?_
  refine AOps.goA ?_
  refine AOps.conA (index87 l g c q hg hl) ?_
  refine AOps.goA ?_
  refine AOps.endA ?_
  refine AWP.goA ?_
  refine AWP.ret ?_
  refine ⟨trivial, [], by simp, .bool (decide (fidx q l 0 ≥ 0)), rfl, ?_, rfl, rfl⟩
  have := fidx_ge q l 0
  have e : decide (fidx q l 0 ≥ 0) = l.any q := by rw [Bool.eq_iff_iff]; simpa using this
  rw [e]; rfl
/-- waiters.Has -/
theorem has30 (l : List Wait) (p : Int) (hl : l.length ≤ 1000000) : Con Try.prog 30 [Wl l, iv p] (.bool (hasW l p)) [] := by
  refine ⟨⟨_, _, Try.func30, rfl, by decide⟩, ICall.of_body' T12_ok ⟨Try.func30, rfl, by decide⟩ (by simp [Try.f30]) ?_⟩
  refine AWP.goA ?_
  refine AWP.region ?_
  refine AOps.goA ?_
  refine AOps.conA (contains70 l 71 (encI p) _ (fun x => has71 x p) hl) ?_
  refine AOps.goA ?_
  refine AOps.endA ?_
  refine AWP.goA ?_
  refine AWP.ret ?_
  exact ⟨trivial, [], by simp, .bool (hasW l p), rfl, rfl, rfl, rfl⟩
/-- slices.Clone -/
theorem clone68 (l : List Wait) (hl : l.length ≤ 1000000) : Con Try.prog 68 [Wl l] (.osl 0 0 l.length) [⟨25, 3, true, l.map encWait⟩] := by
  refine ⟨⟨_, _, Try.func68, rfl, by decide⟩, ICall.of_body' T12_ok ⟨Try.func68, rfl, by decide⟩ (by simp [Try.f68]) ?_⟩
  refine AWP.goA ?_
  refine AWP.region ?_
  refine AOps.goA ?_
  refine AOps.eqnilC T12_ok rfl rfl rfl (.inl rfl) rfl rfl (by (simp only [acall, aev, aevs, eget, mget, ofConst_int, ofConst_bool, ofConst_nilS, reduceIte, Nat.reduceEqDiff, Option.getD, List.append_nil, List.nil_append, List.cons_append]) <;> rfl) (by rfl) fun b hb => ?_
  refine AOps.asA ?_
  refine AOps.endA ?_
  refine AWP.condA ?_ ?_ <;> intro hc
  · have hn : l = [] := by
      cases l with
      | nil => rfl
      | cons x r => exact absurd (hb (by simp)) (by rw [hc]; simp)
    subst hn
    refine AWP.goA ?_
    refine AWP.thin (Thin.ghost 2 57 25 3 (by rfl) (by rfl)) ?_
    refine AWP.ret ?_
    exact ⟨trivial, [57], by simp, .osl 57 0 0, rfl, rfl, rfl, rfl⟩
  · refine AWP.goA ?_
    refine AWP.region ?_
    refine AOps.goA ?_
    refine AOps.appA (appW (by rfl) hl) ?_
    refine AOps.goA ?_
    refine AOps.endA ?_
    refine AWP.ret ?_
    exact ⟨trivial, [56], by simp, .osl 56 0 l.length, rfl, rfl, rfl, rfl⟩
end Go.Qd
set_option linter.unusedVariables false
set_option linter.unusedSimpArgs false
set_option maxHeartbeats 4000000
set_option maxRecDepth 10000
namespace Go.Qd
open Go Go.Proofs
/-- Where one more is put. -/
def posW (w : Wait) : List Wait → Nat
  | [] => 0
  | x :: r => if x.prio < w.prio then 0 else posW w r + 1
theorem posW_le (w : Wait) (l : List Wait) : posW w l ≤ l.length := by
  induction l with
  | nil => simp [posW]
  | cons x r ih => simp only [posW]; split <;> simp <;> omega
theorem insW_pos (w : Wait) (l : List Wait) : insW w l = l.take (posW w l) ++ w :: l.drop (posW w l) := by
  induction l with
  | nil => rfl
  | cons x r ih =>
    simp only [insW, posW]
    split
    · rfl
    · rw [ih]; simp
theorem fidx_pos (w : Wait) : ∀ (l : List Wait) (n : Nat), fidx (fun x => decide (x.prio < w.prio)) l n = if posW w l < l.length then ((n + posW w l : Nat) : Int) else -1 := by
  intro l
  induction l with
  | nil => intro n; simp [fidx, posW]
  | cons x r ih =>
    intro n
    simp only [fidx, posW, decide_eq_true_eq, List.length_cons]
    split
    · simp
    · rw [ih]
      by_cases h : posW w r < r.length
      · rw [if_pos h, if_pos (by omega)]; congr 1; omega
      · rw [if_neg h, if_neg (by omega)]
def posA (l : List Wait) (w : Wait) (ranked : Bool) : Nat := if ranked = true then posW w l else l.length
theorem posA_le (l : List Wait) (w : Wait) (b : Bool) : posA l w b ≤ l.length := by
  unfold posA; split
  · exact posW_le w l
  · exact Nat.le_refl _
theorem addW_pos (l : List Wait) (w : Wait) (b : Bool) : addW l w b = l.take (posA l w b) ++ w :: l.drop (posA l w b) := by
  unfold addW posA; split
  · exact insW_pos w l
  · simp
/-- waiters.orders -/
theorem orders69 (b : Bool) : Con Try.prog 69 [.bool b] (.iface (if b = true then 125 else 126) (.agg [])) [] := by
  refine ⟨⟨_, _, Try.func69, rfl, by decide⟩, ICall.of_body' T12_ok ⟨Try.func69, rfl, by decide⟩ (by simp [Try.f69]) ?_⟩
  refine AWP.goA ?_
  refine AWP.condA ?_ ?_ <;> intro hc
  · subst hc
    refine AWP.goA ?_
    refine AWP.ret ?_
    exact ⟨trivial, [], by simp, .iface 125 (.agg []), rfl, rfl, rfl, rfl⟩
  · subst hc
    refine AWP.goA ?_
    refine AWP.ret ?_
    exact ⟨trivial, [], by simp, .iface 126 (.agg []), rfl, rfl, rfl, rfl⟩
/-- (coming).place -/
theorem place109 (l : List Wait) (w : Wait) (hl : l.length ≤ 1000000) : Con Try.prog 109 [.agg [], Wl l, .agg (encWait w)] (iv (posA l w false : Nat)) [] := by
  refine ⟨⟨_, _, Try.func109, rfl, by decide⟩, ICall.of_body' T12_ok ⟨Try.func109, rfl, by decide⟩ (by simp [Try.f109]) ?_⟩
  refine AWP.goA ?_
  refine AWP.ret ?_
  exact ⟨trivial, [], by simp, iv l.length, rfl, rfl, rfl, rfl⟩
/-- (rank).place -/
theorem place107 (l : List Wait) (w : Wait) (hl : l.length ≤ 1000000) : Con Try.prog 107 [.agg [], Wl l, .agg (encWait w)] (iv (posA l w true : Nat)) [] := by
  refine ⟨⟨_, _, Try.func107, rfl, by decide⟩, ICall.of_body' T12_ok ⟨Try.func107, rfl, by decide⟩ (by simp [Try.f107]) ?_⟩
  refine AWP.goA ?_
  refine AWP.region ?_
  refine AOps.goA ?_
  refine AOps.conA (index87 l 108 (encWait w) _ (fun x => place108 x w) hl) ?_
  refine AOps.goA ?_
  refine AOps.endA ?_
  have hp := fidx_pos w l 0
  have hle := posW_le w l
  refine AWP.goA ?_
  refine AWP.condA ?_ ?_ <;> intro hc
  · have hn : posW w l = l.length := by
      rw [decide_eq_true_eq, hp] at hc
      split at hc
      · omega
      · omega
    refine AWP.goA ?_
    refine AWP.ret ?_
    refine ⟨trivial, [], by simp, iv l.length, rfl, ?_, rfl, rfl⟩
    simp [posA, hn, convA, lsA]
  · have hn : fidx (fun x => decide (x.prio < w.prio)) l 0 = (posW w l : Nat) := by
      rw [decide_eq_false_iff_not, hp] at hc
      rw [hp]
      split at hc
      · rename_i h; rw [if_pos h]; simp
      · omega
    refine AWP.goA ?_
    refine AWP.ret ?_
    refine ⟨trivial, [], by simp, iv (posW w l : Nat), ?_, ?_, rfl, rfl⟩
    · rw [← hn]; rfl
    · simp [posA, convA, lsA]
theorem place (l : List Wait) (w : Wait) (b : Bool) (hl : l.length ≤ 1000000) : Con Try.prog (if b = true then 107 else 109) [.agg [], Wl l, .agg (encWait w)] (iv (posA l w b : Nat)) [] := by
  cases b
  · exact place109 l w hl
  · exact place107 l w hl
end Go.Qd
set_option linter.unusedSimpArgs false
namespace Go.Qd
theorem put1 {A Z : List (List AV)} {x : List AV} {p : Nat} (hA : A.length = p) : putRows (A ++ Z) p [x] = A ++ x :: Z.drop 1 := by
  subst hA
  simp [putRows, List.take_append, List.drop_append]
theorem put2 {A Z D : List (List AV)} {x : List AV} {p : Nat} (hA : A.length = p) (hZ : Z.length = D.length + 1) : putRows (putRows (A ++ Z) (0 + p) [x]) (0 + (p + 1)) D = A ++ x :: D := by
  rw [Nat.zero_add, Nat.zero_add, put1 hA]
  subst hA
  have e : A ++ x :: Z.drop 1 = (A ++ [x]) ++ Z.drop 1 := by simp
  have h1 : (A ++ [x]).length = A.length + 1 := by simp
  have h2 : ((A ++ [x]) ++ Z.drop 1).take (A.length + 1) = A ++ [x] := by rw [← h1]; exact List.take_left
  have h3 : ((A ++ [x]) ++ Z.drop 1).drop (A.length + 1 + D.length) = [] := List.drop_eq_nil_of_le (by simp; omega)
  unfold putRows
  rw [e, h2, h3]
  simp
theorem put3 {A D Z : List (List AV)} {x : List AV} {p m : Nat} (hA : A.length = p) (hD : 0 < D.length) (hm : m = p + 1 + D.length) : (putRows (putRows (A ++ (D ++ Z)) (0 + (p + 1)) D) (0 + p) [x]).take m = A ++ x :: D := by
  rw [Nat.zero_add, Nat.zero_add]
  subst hA; subst hm
  cases D with
  | nil => simp at hD
  | cons d D' =>
    have e : A ++ ((d :: D') ++ Z) = (A ++ [d]) ++ (D' ++ Z) := by simp
    have h1 : (A ++ [d]).length = A.length + 1 := by simp
    have h2 : ((A ++ [d]) ++ (D' ++ Z)).take (A.length + 1) = A ++ [d] := by rw [← h1]; exact List.take_left
    have h3 : putRows (A ++ ((d :: D') ++ Z)) (A.length + 1) (d :: D') = A ++ (d :: (d :: D' ++ ((A ++ [d]) ++ (D' ++ Z)).drop (A.length + 1 + (d :: D').length))) := by
      conv => lhs; unfold putRows
      rw [e, h2]; simp
    rw [h3, put1 rfl]
    generalize ((A ++ [d]) ++ (D' ++ Z)).drop (A.length + 1 + (d :: D').length) = R
    have h4 : A ++ x :: (d :: (d :: D' ++ R)).drop 1 = (A ++ x :: d :: D') ++ R := by simp
    have h5 : (A ++ x :: d :: D').length = A.length + 1 + (d :: D').length := by simp; omega
    rw [h4, ← h5]
    exact List.take_left
theorem takeL {L Z : List (List AV)} {n p : Nat} (hL : L.length = n) (hp : p ≤ n) : (((L ++ Z).drop (0 + p)).take (n + 1 - p)).take (n - p) = L.drop p := by
  subst hL
  rw [Nat.zero_add, List.take_take, Nat.min_eq_left (by omega), List.drop_append_of_le_length hp]
  have : L.length - p = (L.drop p).length := by simp
  rw [this]; exact List.take_left
end Go.Qd
set_option linter.unusedVariables false
set_option linter.unusedSimpArgs false
set_option maxHeartbeats 4000000
set_option maxRecDepth 10000
namespace Go.Qd
open Go Go.Proofs
/-! ### Slices with bounds that are not literals -/
theorem aslice_lo {h : Heap} {sz k j m a : Nat} (hk : keySize h (.osl k j m) sz = true) (ha : a < m) : aslice h sz (.osl k j m) (some (a : Int)) none none = some (.osl k (j + a) (m - a)) := by
  unfold aslice
  simp only [alen, Option.getD_some, Option.getD_none, Option.isNone_none, Bool.true_or, Bool.and_true]
  rw [if_pos (by unfold inB; simp; omega)]
  simp only [hk, if_true]
  rw [if_neg (by simp), if_neg (by omega)]
  simp
theorem aslice_same {h : Heap} {sz k j m : Nat} : aslice h sz (.osl k j m) (some (m : Int)) none none = some (.lst []) := by
  unfold aslice
  simp only [alen, Option.getD_some, Option.getD_none, Option.isNone_none, Bool.true_or, Bool.and_true]
  rw [if_pos (by unfold inB; simp)]
  rw [if_neg (by simp)]; simp
theorem oslice_lo {h : Heap} {sz k j n c a : Nat} (hk : keySize h (.osl k j n) sz = true) (ha : a ≤ n) (hn : n ≤ c) (hc : a < c) : oslice h sz k j n c (some (a : Int)) none = some (.osc k (j + a) (n - a) (c - a)) := by
  unfold oslice
  simp only [Option.getD_some, Option.getD_none]
  rw [if_pos ⟨by omega, by omega, by omega, hk⟩, if_neg (by simp; omega)]
  simp
theorem oslice_hi {h : Heap} {sz k j n c a : Nat} (hk : keySize h (.osl k j n) sz = true) (ha : a ≤ c) (hc : 0 < c) : oslice h sz k j n c none (some (a : Int)) = some (.osc k j a c) := by
  unfold oslice
  simp only [Option.getD_some, Option.getD_none]
  rw [if_pos ⟨by omega, by omega, by omega, hk⟩, if_neg (by simp; omega)]
  simp
theorem asame : ∀ (h : Heap) (sz k j m : Nat), aslice h sz (.osl k j m) (some (m : Int)) none none = some (.lst []) := fun _ _ _ _ _ => aslice_same
theorem alo {a m : Nat} (ha : a < m) : ∀ (h : Heap) (sz k j : Nat), keySize h (.osl k j m) sz = true → aslice h sz (.osl k j m) (some (a : Int)) none none = some (.osl k (j + a) (m - a)) := fun _ _ _ _ hk => aslice_lo hk ha
theorem olo {a n c : Nat} (ha : a ≤ n) (hn : n ≤ c) (hc : a < c) : ∀ (h : Heap) (sz k j : Nat), keySize h (.osl k j n) sz = true → oslice h sz k j n c (some (a : Int)) none = some (.osc k (j + a) (n - a) (c - a)) := fun _ _ _ _ hk => oslice_lo hk ha hn hc
theorem ohi {a c : Nat} (ha : a ≤ c) (hc : 0 < c) : ∀ (h : Heap) (sz k j n : Nat), keySize h (.osl k j n) sz = true → oslice h sz k j n c none (some (a : Int)) = some (.osc k j a c) := fun _ _ _ _ _ hk => oslice_hi hk ha hc
theorem oneW (l : List Wait) : (l.map encWait).all (fun r => r.all AV.one) = true := by
  rw [List.all_eq_true]; intro r hr
  obtain ⟨w, _, rfl⟩ := List.mem_map.1 hr; rfl
theorem over85 : ∀ vals w, (callFunc 85 vals).run Try.prog w = ((Extern.SlicesOverlaps.overlaps #[22, 22] #[4] vals).run Try.prog w).andThen fun v w' => .ok (.value v) w' :=
  fun vals w => run_callFunc_extern Try.func85 (by kernel_rfl) (by kernel_rfl) (by kernel_rfl) (by kernel_rfl) vals w
/-- waiters.Add -/
theorem add29 (l : List Wait) (w : Wait) (b : Bool) (hl : l.length ≤ 1000000) : Con Try.prog 29 [Wl l, .agg (encWait w), .bool b] (.osl 0 0 (l.length + 1)) [⟨25, 3, true, (addW l w b).map encWait⟩] := by
  refine ⟨⟨_, _, Try.func29, rfl, by decide⟩, ICall.of_body' T12_ok ⟨Try.func29, rfl, by decide⟩ (by simp [Try.f29]) ?_⟩
  have hple := posA_le l w b
  have hpos := addW_pos l w b
  have hpl := place l w b hl
  have hm : mget M12 (if b = true then 125 else 126) "quarterdeck/waiters.place" = some (if b = true then 107 else 109) := by cases b <;> rfl
  generalize hp : posA l w b = p at *
  have hplus : ((l.length : Int) + 1) = ((l.length + 1 : Nat) : Int) := by simp
  have hw1 : IntKind.i64.wrap ((l.length : Int) + 1) = ((l.length + 1 : Nat) : Int) := wrap_succ (by omega)
  have hw2 : IntKind.i64.wrap ((p : Int) + 1) = ((p + 1 : Nat) : Int) := wrap_succ (by omega)
  have hw3 : IntKind.i64.wrap (((l.length + 1 : Nat) : Int) - (p : Int)) = ((l.length + 1 - p : Nat) : Int) := by rw [IntKind.wrap_i64]; omega
  refine AWP.goA ?_
  apply AWP.anyC 9 Zz_mixed
  focus
    (apply Trace.cons; (focus (first | exact Loc.opA | exact Loc.opYesA | exact Loc.opNoA)); (focus exact applyA))
    (apply Trace.cons; (focus exact Loc.conA (clone68 l hl)); (focus exact applyA))
    (apply Trace.cons; (focus (first | exact Loc.opA | exact Loc.opYesA | exact Loc.opNoA)); (focus exact applyA))
    (apply Trace.cons; (focus exact Loc.conA (orders69 b)); (focus exact applyA))
    (apply Trace.cons; (focus (first | exact Loc.opA | exact Loc.opYesA | exact Loc.opNoA)); (focus exact applyA))
    (apply Trace.cons; (focus (first | exact Loc.opA | exact Loc.opYesA | exact Loc.opNoA)); (focus exact applyA))
    (apply Trace.cons; (focus exact Loc.conF hm hpl); (focus exact applyA))
    (apply Trace.cons; (focus (first | exact Loc.opA | exact Loc.opYesA | exact Loc.opNoA)); (focus exact applyA))
    (apply Trace.cons; (focus (first | exact Loc.opA | exact Loc.opYesA | exact Loc.opNoA)); (focus exact applyA))
    exact Trace.nil _
  focus kernel_rfl
  refine AOps.inlineK T12_ok M12_ok rfl rfl (by (simp only [acall, aev, aevs, eget, mget, ofConst_int, ofConst_bool, ofConst_nilS, reduceIte, Nat.reduceEqDiff, Option.getD, List.append_nil, List.nil_append, List.cons_append]) <;> rfl) ⟨Try.func67, rfl, by decide⟩ (by simp [Try.f67]) (key := 128) (by rfl) ?_
  simp only [AS.enter, AS.top, entryEnv, keysW, show Try.f29.ntmps = 17 from rfl, Nat.reduceMul, Nat.reduceAdd]
  have hsl : ∀ h : Heap, keySize h (.osl 64 0 l.length) 3 = true → ∃ r, aslice h 3 (.osl 64 0 l.length) (some (p : Int)) none none = some r := fun h hk => by
    by_cases e : p = l.length
    · rw [e]; exact ⟨_, aslice_same⟩
    · exact ⟨_, aslice_lo hk (by omega)⟩
  by_cases e : p = l.length
  · -- behind all
    subst e
    have hadd : addW l w b = l ++ [w] := by rw [hpos]; simp
    refine AWP.goF asame ?_
    refine AWP.condA ?_ ?_ <;> intro hc
    · simp at hc
    · refine AWP.goA ?_
      refine AWP.condA ?_ ?_ <;> intro hc2
      · refine AWP.goA ?_
        refine AWP.region ?_
        refine AOps.goA ?_
        refine AOps.appendC T12_ok rfl rfl rfl rfl rfl rfl rfl (by (simp only [acall, aev, aevs, eget, mget, ofConst_int, ofConst_bool, ofConst_nilS, reduceIte, Nat.reduceEqDiff, Option.getD, List.append_nil, List.nil_append, List.cons_append]) <;> rfl) (by (simp only [acall, aev, aevs, eget, mget, ofConst_int, ofConst_bool, ofConst_nilS, reduceIte, Nat.reduceEqDiff, Option.getD, List.append_nil, List.nil_append, List.cons_append]) <;> rfl) (by ((simp (config := {decide := true}) only [hget, arows, reduceIte, Nat.reduceEqDiff, List.drop_zero, List.take_succ_cons, List.take_zero, List.length_cons, List.length_nil]) <;> rfl)) (by ((simp (config := {decide := true}) only [hget, arows, reduceIte, Nat.reduceEqDiff, List.drop_zero, List.take_succ_cons, List.take_zero, List.length_cons, List.length_nil]) <;> rfl)) rfl rfl rfl (by decide) (by decide) rfl (by rfl) (by simp) (by simp; omega) (by simp) (by simp) (key := 336) (by rfl) ?_ ?_
        · refine AOps.asA ?_
          refine AOps.goA ?_
          refine AOps.endA ?_
          refine AWP.ret ?_
          refine ⟨trivial, .osl 64 0 (l.length + 1), rfl, .inl ?_⟩
          simp only [AS.back, convA, rhoT, convH, convO, eput, reduceIte, Nat.reduceEqDiff, Nat.reduceLT, AS.top, show Try.f29.ntmps = 17 from rfl, Nat.reduceMul, Nat.reduceAdd, List.filter_nil]
          refine AOps.goA ?_
          refine AOps.endA ?_
          refine AWP.ret ?_
          exact ⟨trivial, [64], by simp, .osl 64 0 (l.length + 1), rfl, rfl, by simp [keepO, idxIn, hget, convO, hadd], rfl⟩
        · refine AOps.asA ?_
          refine AOps.goA ?_
          refine AOps.endA ?_
          refine AWP.ret ?_
          refine ⟨trivial, .osl 336 0 (l.length + 1), rfl, .inr ⟨336, by decide, ?_⟩⟩
          simp only [AS.back, AS.backK, convA, rhoT, rhoK, convH, convO, eput, reduceIte, Nat.reduceEqDiff, Nat.reduceLT, AS.top, show Try.f29.ntmps = 17 from rfl, Nat.reduceMul, Nat.reduceAdd, List.filter_nil, List.filterMap_nil, true_and, and_true, ne_eq, not_false_eq_true, not_true_eq_false, and_false]
          refine AOps.goA ?_
          refine AOps.endA ?_
          refine AWP.ret ?_
          exact ⟨trivial, [128], by simp, .osl 128 0 (l.length + 1), rfl, rfl, by simp [keepO, idxIn, hget, convO, hadd], rfl⟩
      · simp at hc2
  · -- ahead of some
    have hpn : p < l.length := by omega
    have hone : (((1 : Nat) : Int)) = 1 := rfl
    refine AWP.goF (alo hpn) ?_
    refine AWP.condA ?_ ?_ <;> intro hc
    · simp at hc
    · refine AWP.goA ?_
      refine AWP.condA ?_ ?_ <;> intro hc2
      · simp at hc2; omega
      · refine AWP.skip ?_
        simp only [Then]
        refine AWP.known 0 64 l.length ⟨25, 3, true, l.map encWait⟩ rfl rfl (by omega) (show (3 : Nat) ≠ 0 by decide) fun cap hc1 hc2' => ?_
        simp only [AObj.pad, hput, eput, reduceIte, Nat.reduceEqDiff, List.length_map]
        refine AWP.seq ?_
        refine AWP.seq ?_
        refine AWP.region ?_
        refine AOps.op2A ?_
        refine AOps.op2A ?_
        refine AOps.op2F (And.intro hone hw1) ?_
        refine AOps.op2A ?_
        refine AOps.capS T12_ok rfl rfl rfl rfl rfl (by (simp only [acall, aev, aevs, eget, mget, ofConst_int, ofConst_bool, ofConst_nilS, reduceIte, Nat.reduceEqDiff, Option.getD, List.append_nil, List.nil_append, List.cons_append]) <;> rfl) applyA ?_
        refine AOps.op2A ?_
        refine AOps.endA ?_
        refine AWP.condA ?_ ?_ <;> intro hc3
        · have hlt : cap < l.length + 1 := by simp at hc3; omega
          have hce : cap = l.length := by omega
          subst hce
          simp only [Nat.sub_self, List.replicate_zero, List.append_nil]
          refine AWP.seq ?_
          refine AWP.region ?_
          refine AOps.op2A ?_
          refine AOps.op2A ?_
          refine AOps.op2F (ohi hple (show 0 < l.length by omega)) ?_
          have hsum : p + (l.length + 1 - p) = l.length + 1 := by omega
          refine AOps.op2A ?_
          refine AOps.op2A ?_
          refine AOps.op2F hw1 ?_
          refine AOps.op2A ?_
          refine AOps.op2F hw3 ?_
          refine AOps.appzS T12_ok rfl rfl rfl rfl rfl rfl rfl rfl (n := p) (m := l.length + 1 - p) (by (simp only [acall, aev, aevs, eget, mget, ofConst_int, ofConst_bool, ofConst_nilS, reduceIte, Nat.reduceEqDiff, Option.getD, List.append_nil, List.nil_append, List.cons_append]) <;> rfl) (by (simp only [acall, aev, aevs, eget, mget, ofConst_int, ofConst_bool, ofConst_nilS, reduceIte, Nat.reduceEqDiff, Option.getD, List.append_nil, List.nil_append, List.cons_append]) <;> rfl) (rows := (l.take p).map encWait) (rd := [64]) (cl := true) (by simp [arows, hget, hple, List.map_take]) (by omega) (by omega) (by decide) (by decide) rfl (by simp; omega) rfl (key := 456) (by rfl)
            (applyF hsum) ?_
          refine AOps.op2A ?_
          refine AOps.endA ?_
          refine AWP.seq ?_
          refine AWP.region ?_
          refine AOps.op2A ?_
          refine AOps.op2A ?_
          refine AOps.op2F (alo (show p < l.length + 1 by omega)) ?_
          refine AOps.op2A ?_
          refine AOps.copyS T12_ok rfl rfl rfl rfl rfl rfl (by (simp only [acall, aev, aevs, eget, mget, ofConst_int, ofConst_bool, ofConst_nilS, reduceIte, Nat.reduceEqDiff, Option.getD, List.append_nil, List.nil_append, List.cons_append]) <;> rfl) rfl (by (simp only [acall, aev, aevs, eget, mget, ofConst_int, ofConst_bool, ofConst_nilS, reduceIte, Nat.reduceEqDiff, Option.getD, List.append_nil, List.nil_append, List.cons_append]) <;> rfl) (rows := [encWait w]) (rd := [120]) (cl := true) (by rfl) (by simp [hget]; rfl) rfl (by decide) (by simp) (m := 1) (by show 1 = min 1 _; omega) (by decide) (by simp; omega) (new := [encWait w]) rfl rfl applyA ?_
          refine AOps.endA ?_
          refine AWP.seq ?_
          apply AWP.anyC 8 Zz_mixed
          focus
            (apply Trace.cons; (focus exact Loc.op2A); (focus exact applyA))
            (apply Trace.cons; (focus exact Loc.op2A); (focus exact applyA))
            (apply Trace.cons; (focus exact Loc.op2A); (focus exact applyA))
            (apply Trace.cons; (focus exact Loc.op2F hw2); (focus exact applyA))
            (apply Trace.cons; (focus exact Loc.op2F (alo (show p + 1 < l.length + 1 by omega))); (focus exact applyA))
            (apply Trace.cons; (focus exact Loc.op2A); (focus exact applyA))
            (apply Trace.cons; (focus exact Loc.op2A); (focus exact applyA))
            (apply Trace.cons; (focus exact Loc.op2F (olo hple (Nat.le_refl _) hpn)); (focus exact applyA))
            exact Trace.nil _
          focus kernel_rfl
          refine AOps.copyS T12_ok rfl rfl rfl rfl rfl rfl (by (simp only [acall, aev, aevs, eget, mget, ofConst_int, ofConst_bool, ofConst_nilS, reduceIte, Nat.reduceEqDiff, Option.getD, List.append_nil, List.nil_append, List.cons_append]) <;> rfl) rfl (by (simp only [acall, aev, aevs, eget, mget, ofConst_int, ofConst_bool, ofConst_nilS, reduceIte, Nat.reduceEqDiff, Option.getD, List.append_nil, List.nil_append, List.cons_append]) <;> rfl) (rows := (l.drop p).map encWait) (rd := [64]) (cl := true) (by simp [arows, ocap, hget, hple, List.map_drop, List.take_of_length_le]) (by simp [hget]; rfl) rfl (by decide) (by simp) (m := l.length - p) (by show _ = min _ _; first | (simp; done) | (simp; omega)) (by omega) (by first | (simp [putRows]; done) | (simp [putRows]; omega)) (new := (l.drop p).map encWait) (List.take_of_length_le (by simp)) (oneW _) applyA ?_
          refine AOps.endA ?_
          refine AWP.seq ?_
          refine AWP.region ?_
          refine AOps.op2A ?_
          refine AOps.op2A ?_
          refine AOps.endA ?_
          refine AWP.ret ?_
          refine ⟨trivial, .osl 456 0 (l.length + 1), rfl, .inr ⟨456, by decide, ?_⟩⟩
          simp only [AS.back, AS.backK, convA, rhoT, rhoK, convH, convO, eput, reduceIte, Nat.reduceEqDiff, Nat.reduceLT, AS.top, show Try.f29.ntmps = 17 from rfl, Nat.reduceMul, Nat.reduceAdd, List.filter_nil, List.filterMap_nil, true_and, and_true, ne_eq, not_false_eq_true, not_true_eq_false, and_false]
          refine AOps.goA ?_
          refine AOps.endA ?_
          refine AWP.ret ?_
          refine ⟨trivial, [128], by simp, .osl 128 0 (l.length + 1), rfl, rfl, ?_, rfl⟩
          rw [hpos]
          have h2 := put2 (A := (l.take p).map encWait) (Z := List.replicate (l.length + 1 - p) [AV.int .i64 0, AV.int .i64 0, AV.int .i64 0]) (D := (l.drop p).map encWait) (x := encWait w) (p := p) (by simp; omega) (by simp; omega)
          simp [keepO, idxIn, hget, convO, List.map_append] at h2 ⊢
          exact h2
        · have hge : l.length + 1 ≤ cap := by simp at hc3; omega
          have hz1 : List.replicate (cap - l.length) (List.replicate 3 AV.undef) = List.replicate (cap - l.length) (List.replicate 3 AV.undef) := rfl
          refine AWP.skip ?_
          simp only [Then]
          refine AWP.seq ?_
          refine AWP.region ?_
          refine AOps.op2A ?_
          refine AOps.op2A ?_
          refine AOps.op2A ?_
          refine AOps.op2F hw1 ?_
          refine AOps.op2F (ohi hge (show 0 < cap by omega)) ?_
          refine AOps.op2A ?_
          refine AOps.endA ?_
          refine AWP.seq ?_
          refine AWP.seq ?_
          refine AWP.region ?_
          refine AOps.op2A ?_
          refine AOps.op2A ?_
          refine AOps.op2A ?_
          refine AOps.op2A ?_
          refine AOps.op2F hw2 ?_
          refine AOps.op2F (olo (show p + 1 ≤ l.length + 1 by omega) hge (show p + 1 < cap by omega)) ?_
          refine AOps.overS T12_ok rfl rfl rfl (tS := 22) (tR := 4) rfl rfl rfl (by decide) over85 (by (simp only [acall, aev, aevs, eget, mget, ofConst_int, ofConst_bool, ofConst_nilS, reduceIte, Nat.reduceEqDiff, Option.getD, List.append_nil, List.nil_append, List.cons_append]) <;> rfl) (by (simp only [acall, aev, aevs, eget, mget, ofConst_int, ofConst_bool, ofConst_nilS, reduceIte, Nat.reduceEqDiff, Option.getD, List.append_nil, List.nil_append, List.cons_append]) <;> rfl) (by decide) (by omega) (by decide) (by rfl) (by rfl) rfl applyA ?_
          refine AOps.op2A ?_
          refine AOps.endA ?_
          refine AWP.condA ?_ ?_ <;> intro hc4
          · refine AWP.seq ?_
            apply AWP.anyC 8 Zz_mixed
            focus
              (apply Trace.cons; (focus exact Loc.op2A); (focus exact applyA))
              (apply Trace.cons; (focus exact Loc.op2A); (focus exact applyA))
              (apply Trace.cons; (focus exact Loc.op2A); (focus exact applyA))
              (apply Trace.cons; (focus exact Loc.op2F hw2); (focus exact applyA))
              (apply Trace.cons; (focus exact Loc.op2F (olo (show p + 1 ≤ l.length + 1 by omega) hge (show p + 1 < cap by omega))); (focus exact applyA))
              (apply Trace.cons; (focus exact Loc.op2A); (focus exact applyA))
              (apply Trace.cons; (focus exact Loc.op2A); (focus exact applyA))
              (apply Trace.cons; (focus exact Loc.op2F (olo (show p ≤ l.length + 1 by omega) hge (show p < cap by omega))); (focus exact applyA))
              exact Trace.nil _
            focus kernel_rfl
            refine AOps.copyS T12_ok rfl rfl rfl rfl rfl rfl (by (simp only [acall, aev, aevs, eget, mget, ofConst_int, ofConst_bool, ofConst_nilS, reduceIte, Nat.reduceEqDiff, Option.getD, List.append_nil, List.nil_append, List.cons_append]) <;> rfl) rfl (by (simp only [acall, aev, aevs, eget, mget, ofConst_int, ofConst_bool, ofConst_nilS, reduceIte, Nat.reduceEqDiff, Option.getD, List.append_nil, List.nil_append, List.cons_append]) <;> rfl) (rows := ((l.map encWait ++ List.replicate (cap - l.length) (List.replicate 3 AV.undef)).drop (0 + p)).take (l.length + 1 - p)) (rd := [64]) (cl := true)
              (by simp only [arows, ocap, hget, reduceIte, Nat.reduceEqDiff]; rw [if_pos ⟨trivial, by simp; omega⟩]) (by simp [hget]; rfl) rfl (by decide) (by simp) (m := l.length - p) (by show _ = min _ _; simp; omega) (by omega) (by simp; omega) (new := (l.map encWait).drop p) (takeL (by simp) hple) (by rw [← List.map_drop]; exact oneW _) applyA ?_
            refine AOps.endA ?_
            refine AWP.seq ?_
            refine AWP.region ?_
            refine AOps.op2A ?_
            refine AOps.op2A ?_
            refine AOps.op2F (olo (show p ≤ l.length + 1 by omega) hge (show p < cap by omega)) ?_
            refine AOps.op2A ?_
            refine AOps.copyS T12_ok rfl rfl rfl rfl rfl rfl (by (simp only [acall, aev, aevs, eget, mget, ofConst_int, ofConst_bool, ofConst_nilS, reduceIte, Nat.reduceEqDiff, Option.getD, List.append_nil, List.nil_append, List.cons_append]) <;> rfl) rfl (by (simp only [acall, aev, aevs, eget, mget, ofConst_int, ofConst_bool, ofConst_nilS, reduceIte, Nat.reduceEqDiff, Option.getD, List.append_nil, List.nil_append, List.cons_append]) <;> rfl) (rows := [encWait w]) (rd := [120]) (cl := true) (by rfl) (by simp [hget]; rfl) rfl (by decide) (by simp) (m := 1) (by show 1 = min 1 _; omega) (by decide) (by simp [putRows]; omega) (new := [encWait w]) rfl rfl applyA ?_
            refine AOps.endA ?_
            refine AWP.seq ?_
            refine AWP.region ?_
            refine AOps.op2A ?_
            refine AOps.op2A ?_
            refine AOps.endA ?_
            have h3 := put3 (A := (l.take p).map encWait) (D := (l.map encWait).drop p) (Z := List.replicate (cap - l.length) (List.replicate 3 AV.undef)) (x := encWait w) (p := p) (m := l.length + 1) (by simp; omega) (by simp; omega) (by simp; omega)
            have hL : (l.take p).map encWait ++ ((l.map encWait).drop p ++ List.replicate (cap - l.length) (List.replicate 3 AV.undef)) = l.map encWait ++ List.replicate (cap - l.length) (List.replicate 3 AV.undef) := by
              rw [← List.append_assoc, List.map_take, List.take_append_drop]
            rw [hL] at h3
            refine AWP.thin (Thin.trim 64 (l.length + 1) (by simp [hget]; rfl) (by simp [putRows]; omega) (by simp [putRows]; omega)) ?_
            simp only [hput, reduceIte, Nat.reduceEqDiff]
            refine AWP.ret ?_
            refine ⟨trivial, .osc 64 0 (l.length + 1) cap, rfl, .inl ?_⟩
            simp only [AS.back, AS.backK, convA, rhoT, rhoK, convH, convO, eput, reduceIte, Nat.reduceEqDiff, Nat.reduceLT, AS.top, show Try.f29.ntmps = 17 from rfl, Nat.reduceMul, Nat.reduceAdd, List.filter_nil, List.filterMap_nil, true_and, and_true, ne_eq, not_false_eq_true, not_true_eq_false, and_false]
            refine AOps.goA ?_
            refine AOps.endA ?_
            refine AWP.ret ?_
            refine ⟨trivial, [64], by simp, .osl 64 0 (l.length + 1), rfl, rfl, ?_, rfl⟩
            rw [hpos]
            simp [keepO, idxIn, hget, convO, List.map_append, List.map_take, List.map_drop] at h3 ⊢
            exact h3
          · simp at hc4
end Go.Qd
set_option linter.unusedVariables false
set_option linter.unusedSimpArgs false
set_option maxHeartbeats 4000000
set_option maxRecDepth 10000
namespace Go.Qd
open Go Go.Proofs
theorem zeroW : encWait ⟨0, 0, 0⟩ = [iv 0, iv 0, iv 0] := rfl
theorem aslice_lst1 (h : Heap) (x : Wait) (r : List Wait) : aslice h 3 (.lst ((x :: r).map encWait)) (some 1) none none = some (.lst (r.map encWait)) := by
  unfold aslice
  simp only [alen, Option.getD_some, Option.getD_none, Option.isNone_none, Bool.true_or, Bool.and_true]
  rw [if_pos (by unfold inB; simp; omega)]
  rw [if_neg (by simp), if_pos (by rw [List.all_eq_true]; intro y hy; obtain ⟨w, _, rfl⟩ := List.mem_map.1 hy; rfl)]
  simp [List.take_of_length_le]
theorem idx0W (h : Heap) (x : Wait) (r : List Wait) : aindexAddr' T12 h 22 (.lst ((x :: r).map encWait)) 0 = some (.vptr (encWait x)) := idxW (i := 0) (l := x :: r) (by simp) h
theorem idx1W (h : Heap) (x y : Wait) (r : List Wait) : aindexAddr' T12 h 22 (.lst ((x :: y :: r).map encWait)) 1 = some (.vptr (encWait y)) := idxW (i := 1) (l := x :: y :: r) (by simp) h
theorem idx2W (h : Heap) (x y z : Wait) (r : List Wait) : aindexAddr' T12 h 22 (.lst ((x :: y :: z :: r).map encWait)) 2 = some (.vptr (encWait z)) := idxW (i := 2) (l := x :: y :: z :: r) (by simp) h
/-- waiters.First, of nobody -/
theorem first31_nil : Con Try.prog 31 [Wl []] (.tup [.agg (encWait ⟨0, 0, 0⟩), .lst [], .bool false]) [] := by
  refine ⟨⟨_, _, Try.func31, rfl, by decide⟩, ICall.of_body' T12_ok ⟨Try.func31, rfl, by decide⟩ (by simp [Try.f31]) ?_⟩
  refine AWP.goA ?_
  refine AWP.condA ?_ ?_ <;> intro hc
  · refine AWP.goA ?_
    refine AWP.ret ?_
    exact ⟨trivial, [], by simp, _, rfl, rfl, rfl, rfl⟩
  · simp at hc
/-- waiters.First -/
theorem first31_cons (x : Wait) (r : List Wait) (hl : r.length ≤ 1000000) : Con Try.prog 31 [Wl (x :: r)] (.tup [.agg (encWait x), .osl 0 0 r.length, .bool true]) [⟨25, 3, true, r.map encWait⟩] := by
  refine ⟨⟨_, _, Try.func31, rfl, by decide⟩, ICall.of_body' T12_ok ⟨Try.func31, rfl, by decide⟩ (by simp [Try.f31]) ?_⟩
  refine AWP.goA ?_
  refine AWP.condA ?_ ?_ <;> intro hc
  · simp at hc; omega
  · refine AWP.goA ?_
    apply AWP.anyR Zz_mixed
    focus
      (repeat (apply Trace.cons; (focus (first | exact Loc.opA | exact Loc.opF (And.intro idx0W aslice_lst1) | exact Loc.opYesA | exact Loc.opNoA)); (focus exact applyA)))
      (apply Trace.cons; (focus exact Loc.conA (clone68 r hl)); (focus exact applyA))
      (repeat (apply Trace.cons; (focus (first | exact Loc.opA | exact Loc.opYesA | exact Loc.opNoA)); (focus exact applyA)))
      exact Trace.nil _
    focus kernel_rfl
    simp only [Then]
    refine AWP.ret ?_
    refine ⟨trivial, [112], by simp, .tup [.agg (encWait x), .osl 112 0 r.length, .bool true], ?_, rfl, rfl, rfl⟩
    rfl
/-- ref12.First, of nobody -/
theorem first34_nil : Con Try.prog 34 [Wl []] (.tup [.agg (encWait ⟨0, 0, 0⟩), .lst [], .bool false]) [] := by
  refine ⟨⟨_, _, Try.func34, rfl, by decide⟩, ICall.of_body' T12_ok ⟨Try.func34, rfl, by decide⟩ (by simp [Try.f34]) ?_⟩
  refine AWP.goA ?_
  refine AWP.condA ?_ ?_ <;> intro hc
  · refine AWP.goA ?_
    refine AWP.ret ?_
    exact ⟨trivial, [], by simp, _, rfl, rfl, rfl, rfl⟩
  · simp at hc
/-- ref12.First -/
theorem first34_cons (x : Wait) (r : List Wait) (hl : r.length ≤ 1000000) : Con Try.prog 34 [Wl (x :: r)] (.tup [.agg (encWait x), .osl 0 0 r.length, .bool true]) [⟨25, 3, true, r.map encWait⟩] := by
  refine ⟨⟨_, _, Try.func34, rfl, by decide⟩, ICall.of_body' T12_ok ⟨Try.func34, rfl, by decide⟩ (by simp [Try.f34]) ?_⟩
  refine AWP.goA ?_
  refine AWP.condA ?_ ?_ <;> intro hc
  · simp at hc; omega
  · refine AWP.goA ?_
    apply AWP.anyR Zz_mixed
    focus
      (repeat (apply Trace.cons; (focus (first | exact Loc.opA | exact Loc.opF (And.intro idx0W aslice_lst1) | exact Loc.opYesA | exact Loc.opNoA)); (focus exact applyA)))
      (apply Trace.cons; (focus exact Loc.appA (appW (by rfl) hl)); (focus exact applyA))
      (repeat (apply Trace.cons; (focus (first | exact Loc.opA | exact Loc.opYesA | exact Loc.opNoA)); (focus exact applyA)))
      exact Trace.nil _
    focus kernel_rfl
    simp only [Then]
    refine AWP.ret ?_
    exact ⟨trivial, [112], by simp, .tup [.agg (encWait x), .osl 112 0 r.length, .bool true], rfl, rfl, rfl, rfl⟩
end Go.Qd
set_option linter.unusedVariables false
set_option linter.unusedSimpArgs false
set_option maxHeartbeats 4000000
set_option maxRecDepth 10000
namespace Go.Qd
open Go Go.Proofs
/-- ref12.Same -/
theorem same12 (a b : List Wait) (ha : a.length ≤ 1000000) : Con Try.prog 32 [Wl a, Wl b] (.bool (decide (a = b))) [] := by
  refine ⟨⟨_, _, Try.func32, rfl, by decide⟩, ICall.of_body' T12_ok ⟨Try.func32, rfl, by decide⟩ (by simp [Try.f32]) ?_⟩
  refine AWP.goA ?_
  refine AWP.condA ?_ ?_ <;> intro hc
  · have hne : ¬ a = b := fun e => by subst e; simp at hc
    refine AWP.goA ?_
    refine AWP.ret ?_
    exact ⟨trivial, [], by simp, _, rfl, by simp [hne]; rfl, rfl, rfl⟩
  · have hl : a.length = b.length := by simp at hc; omega
    refine AWP.goA ?_
    refine AWP.loopW (fun i : Nat => ⟨0, Try.f32.ntmps, [(0, Wl a), (1, Wl b), (5, .int .i64 i)], [], []⟩) (fun i => i ≤ a.length ∧ a.take i = b.take i) (fun i => a.length - i) 0 (by simp) (Fits.of (by simp [envIn, eget, eput]) rfl rfl) ?_
    rintro i ⟨hi, hT⟩
    refine AWP.goA ?_
    refine AWP.condA ?_ ?_ <;> intro hc
    · have hia : i < a.length := by simp at hc; omega
      have hib : i < b.length := by omega
      refine AWP.goF (And.intro (idxW hia) (idxW hib)) ?_
      refine AWP.condA ?_ ?_ <;> intro hc
      · have hne : ¬ a = b := fun e => by subst e; simp at hc
        refine AWP.goA ?_
        refine AWP.ret ?_
        exact ⟨trivial, [], by simp, _, rfl, by simp [hne]; rfl, rfl, rfl⟩
      · have hab : a[i] = b[i] := by simpa using hc
        refine AWP.goA ?_
        refine ⟨i + 1, ⟨by omega, ?_⟩, by omega, Fits.of ?_ rfl rfl⟩
        · rw [List.take_succ_eq_append_getElem hia, List.take_succ_eq_append_getElem hib, hT, hab]
        · simp [envIn, eget, eput, wrap_succ (show i < 9223372036854775807 by omega)]
    · have hie : i = a.length := by simp at hc; omega
      have hab : a = b := by
        have h1 : a.take i = a := List.take_of_length_le (by omega)
        have h2 : b.take i = b := List.take_of_length_le (by omega)
        rw [h1, h2] at hT; exact hT
      refine AWP.goA ?_
      refine AWP.ret ?_
      exact ⟨trivial, [], by simp, _, rfl, by simp [hab]; rfl, rfl, rfl⟩
/-- ref12.Wakes -/
theorem wakes35 (a b : List Wake) (ha : a.length ≤ 1000000) : Con Try.prog 35 [Kl a, Kl b] (.bool (decide (a = b))) [] := by
  refine ⟨⟨_, _, Try.func35, rfl, by decide⟩, ICall.of_body' T12_ok ⟨Try.func35, rfl, by decide⟩ (by simp [Try.f35]) ?_⟩
  refine AWP.goA ?_
  refine AWP.condA ?_ ?_ <;> intro hc
  · have hne : ¬ a = b := fun e => by subst e; simp at hc
    refine AWP.goA ?_
    refine AWP.ret ?_
    exact ⟨trivial, [], by simp, _, rfl, by simp [hne]; rfl, rfl, rfl⟩
  · have hl : a.length = b.length := by simp at hc; omega
    refine AWP.goA ?_
    refine AWP.loopW (fun i : Nat => ⟨0, Try.f35.ntmps, [(0, Kl a), (1, Kl b), (5, .int .i64 i)], [], []⟩) (fun i => i ≤ a.length ∧ a.take i = b.take i) (fun i => a.length - i) 0 (by simp) (Fits.of (by simp [envIn, eget, eput]) rfl rfl) ?_
    rintro i ⟨hi, hT⟩
    refine AWP.goA ?_
    refine AWP.condA ?_ ?_ <;> intro hc
    · have hia : i < a.length := by simp at hc; omega
      have hib : i < b.length := by omega
      refine AWP.goF (And.intro (idxK hia) (idxK hib)) ?_
      refine AWP.condA ?_ ?_ <;> intro hc
      · have hne : ¬ a = b := fun e => by subst e; simp at hc
        refine AWP.goA ?_
        refine AWP.ret ?_
        exact ⟨trivial, [], by simp, _, rfl, by simp [hne]; rfl, rfl, rfl⟩
      · have hab : a[i] = b[i] := by simpa using hc
        refine AWP.goA ?_
        refine ⟨i + 1, ⟨by omega, ?_⟩, by omega, Fits.of ?_ rfl rfl⟩
        · rw [List.take_succ_eq_append_getElem hia, List.take_succ_eq_append_getElem hib, hT, hab]
        · simp [envIn, eget, eput, wrap_succ (show i < 9223372036854775807 by omega)]
    · have hie : i = a.length := by simp at hc; omega
      have hab : a = b := by
        have h1 : a.take i = a := List.take_of_length_le (by omega)
        have h2 : b.take i = b := List.take_of_length_le (by omega)
        rw [h1, h2] at hT; exact hT
      refine AWP.goA ?_
      refine AWP.ret ?_
      exact ⟨trivial, [], by simp, _, rfl, by simp [hab]; rfl, rfl, rfl⟩
/-- ref01.Same -/
theorem same83 (a b : List Int) (ha : a.length ≤ 1000000) : Con Try.prog 83 [Il a, Il b] (.bool (decide (a = b))) [] := by
  refine ⟨⟨_, _, Try.func83, rfl, by decide⟩, ICall.of_body' T12_ok ⟨Try.func83, rfl, by decide⟩ (by simp [Try.f83]) ?_⟩
  refine AWP.goA ?_
  refine AWP.condA ?_ ?_ <;> intro hc
  · have hne : ¬ a = b := fun e => by subst e; simp at hc
    refine AWP.goA ?_
    refine AWP.ret ?_
    exact ⟨trivial, [], by simp, _, rfl, by simp [hne]; rfl, rfl, rfl⟩
  · have hl : a.length = b.length := by simp at hc; omega
    refine AWP.goA ?_
    refine AWP.loopW (fun i : Nat => ⟨0, Try.f83.ntmps, [(0, Il a), (1, Il b), (5, .int .i64 i)], [], []⟩) (fun i => i ≤ a.length ∧ a.take i = b.take i) (fun i => a.length - i) 0 (by simp) (Fits.of (by simp [envIn, eget, eput]) rfl rfl) ?_
    rintro i ⟨hi, hT⟩
    refine AWP.goA ?_
    refine AWP.condA ?_ ?_ <;> intro hc
    · have hia : i < a.length := by simp at hc; omega
      have hib : i < b.length := by omega
      refine AWP.goF (And.intro (idxI hia) (idxI hib)) ?_
      refine AWP.condA ?_ ?_ <;> intro hc
      · have hne : ¬ a = b := fun e => by subst e; simp at hc
        refine AWP.goA ?_
        refine AWP.ret ?_
        exact ⟨trivial, [], by simp, _, rfl, by simp [hne]; rfl, rfl, rfl⟩
      · have hab : a[i] = b[i] := by simpa using hc
        refine AWP.goA ?_
        refine ⟨i + 1, ⟨by omega, ?_⟩, by omega, Fits.of ?_ rfl rfl⟩
        · rw [List.take_succ_eq_append_getElem hia, List.take_succ_eq_append_getElem hib, hT, hab]
        · simp [envIn, eget, eput, wrap_succ (show i < 9223372036854775807 by omega)]
    · have hie : i = a.length := by simp at hc; omega
      have hab : a = b := by
        have h1 : a.take i = a := List.take_of_length_le (by omega)
        have h2 : b.take i = b := List.take_of_length_le (by omega)
        rw [h1, h2] at hT; exact hT
      refine AWP.goA ?_
      refine AWP.ret ?_
      exact ⟨trivial, [], by simp, _, rfl, by simp [hab]; rfl, rfl, rfl⟩
/-- waiters.All -/
theorem all36 (l : List Wait) (c v : Int) (hl : l.length ≤ 1000000) : Con Try.prog 36 [Wl l, iv c, iv v] (Kl (l.map (mkWake c v))) [] := by
  refine ⟨⟨_, _, Try.func36, rfl, by decide⟩, ICall.of_body' T12_ok ⟨Try.func36, rfl, by decide⟩ (by simp [Try.f36]) ?_⟩
  refine AWP.goA ?_
  refine AWP.thin (Thin.ghost 7 57 53 3 (by rfl) (by rfl)) ?_
  refine AWP.asA ?_
  refine AWP.loopT (fun i : Nat => ⟨0, Try.f36.ntmps, [(1, iv c), (2, iv v), (10, Wl l), (11, iv l.length), (12, iv i), (7, .osl 57 0 i)], [(57, ⟨53, 3, true, ((l.take i).map (mkWake c v)).map encWake⟩)], []⟩) (fun i => i ≤ l.length) (fun i => l.length - i) 0 (by simp)
    (Thin.of _ [] _ (by simp [envIn, eget, eput]) rfl rfl rfl (by rfl)) ?_
  rintro i hi
  refine AWP.goA ?_
  refine AWP.condA ?_ ?_ <;> intro hc
  · have hil : i < l.length := by simp at hc; omega
    refine AWP.goF (idxW hil) ?_
    refine ⟨i + 1, by omega, by omega, ?_⟩
    refine Thin.to [72, 176] rfl rfl rfl rfl rfl (by simp [envIn, eget, wrap_succ (show i < 9223372036854775807 by omega)]) ?_
    simp only [List.take_succ_eq_append_getElem hil, List.map_append]
    rfl
  · have hie : i = l.length := by simp at hc; omega
    subst hie
    refine AWP.goA ?_
    refine AWP.ret ?_
    refine ⟨trivial, [], by simp, .osl 57 0 l.length, rfl, ?_, rfl, rfl⟩
    simp [convA, idxIn, hget, lsA, List.take_of_length_le]

/-- ref12.All -/
theorem all37 (l : List Wait) (c v : Int) (hl : l.length ≤ 1000000) : Con Try.prog 37 [Wl l, iv c, iv v] (Kl (l.map (mkWake c v))) [] := by
  refine ⟨⟨_, _, Try.func37, rfl, by decide⟩, ICall.of_body' T12_ok ⟨Try.func37, rfl, by decide⟩ (by simp [Try.f37]) ?_⟩
  refine AWP.goA ?_
  refine AWP.thin (Thin.ghost 7 57 53 3 (by rfl) (by rfl)) ?_
  refine AWP.asA ?_
  refine AWP.loopT (fun i : Nat => ⟨0, Try.f37.ntmps, [(0, Wl l), (1, iv c), (2, iv v), (8, iv i), (7, .osl 57 0 i)], [(57, ⟨53, 3, true, ((l.take i).map (mkWake c v)).map encWake⟩)], []⟩) (fun i => i ≤ l.length) (fun i => l.length - i) 0 (by simp)
    (Thin.of _ [] _ (by simp [envIn, eget, eput]) rfl rfl rfl (by rfl)) ?_
  rintro i hi
  refine AWP.goA ?_
  refine AWP.condA ?_ ?_ <;> intro hc
  · have hil : i < l.length := by simp at hc; omega
    refine AWP.goF (idxW hil) ?_
    refine ⟨i + 1, by omega, by omega, ?_⟩
    refine Thin.to [192] rfl rfl rfl rfl rfl (by simp [envIn, eget, wrap_succ (show i < 9223372036854775807 by omega)]) ?_
    simp only [List.take_succ_eq_append_getElem hil, List.map_append]
    rfl
  · have hie : i = l.length := by simp at hc; omega
    subst hie
    refine AWP.goA ?_
    refine AWP.ret ?_
    refine ⟨trivial, [], by simp, .osl 57 0 l.length, rfl, ?_, rfl, rfl⟩
    simp [convA, idxIn, hget, lsA, List.take_of_length_le]
/-- slices.Clone at int -/
theorem clone84 (l : List Int) (hl : l.length ≤ 1000000) : Con Try.prog 84 [Il l] (.osl 0 0 l.length) [⟨3, 1, true, l.map encI⟩] := by
  refine ⟨⟨_, _, Try.func84, rfl, by decide⟩, ICall.of_body' T12_ok ⟨Try.func84, rfl, by decide⟩ (by simp [Try.f84]) ?_⟩
  refine AWP.goA ?_
  refine AWP.region ?_
  refine AOps.goA ?_
  refine AOps.eqnilC T12_ok rfl rfl rfl (.inl rfl) rfl rfl (by (simp only [acall, aev, aevs, eget, mget, ofConst_int, ofConst_bool, ofConst_nilS, reduceIte, Nat.reduceEqDiff, Option.getD, List.append_nil, List.nil_append, List.cons_append]) <;> rfl) (by rfl) fun b hb => ?_
  refine AOps.asA ?_
  refine AOps.endA ?_
  refine AWP.condA ?_ ?_ <;> intro hc
  · have hn : l = [] := by
      cases l with
      | nil => rfl
      | cons x r => exact absurd (hb (by simp)) (by rw [hc]; simp)
    subst hn
    refine AWP.goA ?_
    refine AWP.thin (Thin.ghost 2 57 3 1 (by rfl) (by rfl)) ?_
    refine AWP.ret ?_
    exact ⟨trivial, [57], by simp, .osl 57 0 0, rfl, rfl, rfl, rfl⟩
  · refine AWP.goA ?_
    refine AWP.region ?_
    refine AOps.goA ?_
    refine AOps.appA (appI (by rfl) hl) ?_
    refine AOps.goA ?_
    refine AOps.endA ?_
    refine AWP.ret ?_
    exact ⟨trivial, [56], by simp, .osl 56 0 l.length, rfl, rfl, rfl, rfl⟩
end Go.Qd
set_option linter.unusedVariables false
set_option linter.unusedSimpArgs false
set_option maxHeartbeats 4000000
set_option maxRecDepth 10000
namespace Go.Qd
open Go Go.Proofs
theorem has38C (l : List Wait) (p : Int) (hl : l.length ≤ 1000000) : Con Try.prog 38 [Wl l, iv p] (.bool (hasW l p)) [] := ⟨⟨_, _, Try.func38, rfl, by decide⟩, has38 l p hl⟩
theorem add33C (l : List Wait) (w : Wait) (b : Bool) (hl : l.length ≤ 1000000) : Con Try.prog 33 [Wl l, .agg (encWait w), .bool b] (Wl (addW l w b)) [] := ⟨⟨_, _, Try.func33, rfl, by decide⟩, add33 l w b hl⟩
/-- waiters.Add, read for good -/
theorem add29C (l : List Wait) (w : Wait) (b : Bool) (hl : l.length ≤ 1000000) : Con Try.prog 29 [Wl l, .agg (encWait w), .bool b] (Wl (addW l w b)) [] := (add29 l w b hl).close (by
  have h : (addW l w b).length = l.length + 1 := addW_len l w b
  simp [convA, enumH, hget, h, lsA, List.take_of_length_le])
/-- The lists of the chapter's example. -/
def pre : Nat → List Wait
  | 0 => []
  | n + 1 => addW (pre n) ⟨n, IntKind.i64.wrap (1 + (IntKind.i64.wrap (2 * (n : Int))).tmod 3), 0⟩ true
theorem pre_len (n : Nat) : (pre n).length = n := by
  induction n with
  | zero => rfl
  | succ n ih => simp [pre, addW_len, ih]
/-- law12.awake -/
theorem awake28 : Con Try.prog 28 [] (.bool true) [] := by
  refine ⟨⟨_, _, Try.func28, rfl, by decide⟩, ICall.of_body' T12_ok ⟨Try.func28, rfl, by decide⟩ (by simp [Try.f28]) ?_⟩
  refine AWP.goA ?_
  refine AWP.loopT (fun i : Nat => ⟨0, Try.f28.ntmps, [(1, Wl (pre i)), (2, iv i)], [], []⟩) (fun i => i ≤ 3) (fun i => 3 - i) 0 (by simp)
    ?start ?_
  case start =>
    refine (Thin.empty 1 (by rfl)).trans (Thin.to [] rfl rfl rfl rfl rfl (by simp [envIn, eget, eput, pre]) rfl)
  rintro i hi
  refine AWP.goA ?_
  refine AWP.condA ?_ ?_ <;> intro hc
  · have hi3 : i < 3 := by simp at hc; omega
    refine AWP.goA ?_
    refine AWP.region ?_
    refine AOps.goA ?_
    refine AOps.conA (add29C (pre i) ⟨i, IntKind.i64.wrap (1 + (IntKind.i64.wrap (2 * (i : Int))).tmod 3), 0⟩ true (by rw [pre_len]; omega)) ?_
    refine AOps.goA ?_
    refine AOps.endA ?_
    refine AWP.goA ?_
    exact ⟨i + 1, by omega, by omega, Thin.to [] rfl rfl rfl rfl rfl (by simp [envIn, eget, wrap_succ (show i < 9223372036854775807 by omega), pre]) rfl⟩
  · have hie : i = 3 := by simp at hc; omega
    subst hie
    have h3 : pre 3 = [⟨1, 3, 0⟩, ⟨2, 2, 0⟩, ⟨0, 1, 0⟩] := by decide
    rw [h3]
    refine AWP.goA ?_
    refine AWP.region ?_
    refine AOps.goF (And.intro idx0W (And.intro idx1W idx2W)) ?_
    refine AOps.conYesA (has30 [⟨1, 3, 0⟩, ⟨2, 2, 0⟩, ⟨0, 1, 0⟩] 2 (by simp)) ?_
    refine AOps.goA ?_
    refine AOps.endA ?_
    refine AWP.ret ?_
    exact ⟨trivial, [], by simp, .bool true, rfl, rfl, rfl, rfl⟩
end Go.Qd
set_option linter.unusedVariables false
set_option linter.unusedSimpArgs false
namespace Go.Qd
open Go Go.Proofs
def fstW (l : List Wait) : Wait := (l.head?).getD ⟨0, 0, 0⟩
/-- waiters.First, read for good -/
theorem first31C (l : List Wait) (hl : l.length ≤ 1000000) : Con Try.prog 31 [Wl l] (.tup [.agg (encWait (fstW l)), Wl l.tail, .bool (!l.isEmpty)]) [] := by
  cases l with
  | nil => exact first31_nil
  | cons x r =>
    refine (first31_cons x r (by simp at hl; omega)).close ?_
    have h : convL (fun _ => none) (enumH 0 [⟨25, 3, true, r.map encWait⟩]) (encWait x) = encWait x := rfl
    have h2 : lsL (encWait x) = encWait x := rfl
    simp [convA, convL, enumH, hget, lsA, lsL, fstW, List.take_of_length_le]
    rfl
theorem first34C (l : List Wait) (hl : l.length ≤ 1000000) : Con Try.prog 34 [Wl l] (.tup [.agg (encWait (fstW l)), Wl l.tail, .bool (!l.isEmpty)]) [] := by
  cases l with
  | nil => exact first34_nil
  | cons x r =>
    refine (first34_cons x r (by simp at hl; omega)).close ?_
    have h : convL (fun _ => none) (enumH 0 [⟨25, 3, true, r.map encWait⟩]) (encWait x) = encWait x := rfl
    have h2 : lsL (encWait x) = encWait x := rfl
    simp [convA, convL, enumH, hget, lsA, lsL, fstW, List.take_of_length_le]
    rfl
end Go.Qd
