/- A part of the library of this claim: rules of an abstract machine (values in place of addresses), proved against the model, and contracts of the functions. -/
import Derived.Test.YtkenbgmadkelcaaW14
set_option linter.unusedVariables false
set_option linter.unusedSimpArgs false
set_option maxHeartbeats 8000000
set_option maxRecDepth 10000
namespace Go.Qd
open Go Go.Proofs
/-- A write of a process's field, where something is frozen. -/
theorem stPz {l : List Proc} {n : Nat} {x : Proc} {t q : Nat} {v : AV} {cs : List AV} {ti : TI} (frz : List Nat) (x' : Proc) (hi : l[n]? = some x) (ht : tget T10 t = some ti) (hc : cellsOf v = some cs) (hl : cs.length = ti.size) (hq : q + cs.length ≤ 18) (hcl : AV.closedAll cs = true) (hr : splice (encProc x) q cs = encProc x') :
    ∀ (fb nt : Nat) (env : Env) (heap : Heap) (k : Nat), k ∉ frz → hget heap k = some (pObj l) → astore T10 ⟨fb, nt, env, heap, frz⟩ t (.ptr k n q) v = some ⟨.tup [], [(k, pObj (l.set n x'))], [k], []⟩ := fun fb nt env heap k hz hk => by
  have hr' : (encProc x).length = 18 := rfl
  unfold pObj at hk ⊢
  rw [← set_encP, ← hr]
  unfold astore
  simp only [ht, hc, hk]
  have hrow : (l.map encProc)[n]? = some (encProc x) := by simp [hi]
  simp only [hrow]
  rw [if_pos ⟨hl, by omega, hz⟩, hcl]; rfl
theorem on47_block (p : Part) (n : Nat) (kind obj till call : Int) (hs : Small 1000000 p) (hn : n < p.procs.length) : Con Try.prog 47 [Pa p, iv n, .fn 55 [] [.vptr [iv kind], .vptr [iv obj], .vptr [iv till], .vptr [iv call]]]
    (.tup [PaO 0 (blockP p n kind obj till call), iv 0]) [pObj (blockP p n kind obj till call).procs] := by
  refine ⟨⟨_, _, Try.func47, rfl, by decide⟩, ICall.of_body' T10_ok ⟨Try.func47, rfl, by decide⟩ (by simp [Try.f47]) ?_⟩
  refine AWP.goA ?_
  refine AWP.goC (own29O p hs) ?_
  have hd : decide ((n : Int) < 0) = false := by simp
  refine AWP.goF hd ?_
  refine AWP.condA ?_ ?_ <;> intro hc
  · simp at hc; omega
  have hix := idxP (l := p.procs) hn
  refine AWP.goF hix ?_
  refine AWP.region ?_
  refine AOps.goF hix ?_
  refine AOps.inlineL T10_ok M10_ok rfl rfl (by (simp only [acall, aev, aevs, eget, reduceIte, Nat.reduceEqDiff, Option.getD, List.append_nil, List.nil_append, List.cons_append]) <;> rfl) ⟨Try.func55, rfl, by decide⟩ (by simp [Try.f55]) ?_
  refine AWP.enterF (show Try.f47.ntmps = 30 from rfl) ?_
  obtain ⟨x, hx⟩ : ∃ x, p.procs[n] = x := ⟨_, rfl⟩
  have hx0 : p.procs[n]? = some x := by rw [List.getElem?_eq_getElem hn, hx]
  have hl0 := ldP (q := 0) (t := 3) (v := iv x.state) hx0 rfl
  have e0 : blockP p n kind obj till call = if x.state = 1 then setP p n { x with state := 2, kind := kind, obj := obj, till := till, call := call } else p := by
    unfold blockP; rw [hx0]
  have s1 := stP (q := 0) (t := 3) (v := iv 2) { x with state := 2 } hx0 rfl rfl rfl (by simp) rfl rfl
  have s2 := stPs (q := 10) (t := 3) (v := iv kind) (x := { x with state := 2 }) { x with state := 2, kind := kind } hn rfl rfl rfl (by simp) rfl rfl
  have s3 := stPs (q := 11) (t := 3) (v := iv obj) (x := { x with state := 2, kind := kind }) { x with state := 2, kind := kind, obj := obj } hn rfl rfl rfl (by simp) rfl rfl
  have s4 := stPs (q := 9) (t := 3) (v := iv till) (x := { x with state := 2, kind := kind, obj := obj }) { x with state := 2, kind := kind, obj := obj, till := till } hn rfl rfl rfl (by simp) rfl rfl
  have s5 := stPs (q := 17) (t := 3) (v := iv call) (x := { x with state := 2, kind := kind, obj := obj, till := till }) { x with state := 2, kind := kind, obj := obj, till := till, call := call } hn rfl rfl rfl (by simp) rfl rfl
  have hA := And.intro s1 (And.intro s2 (And.intro s3 (And.intro s4 s5)))
  refine AWP.goF hl0 ?_
  simp only [List.take_succ_cons, List.take_zero, List.drop_succ_cons, List.drop_zero, keysL, keysA, List.append_nil, List.nil_append, splice_zero_cons, splice_zero_nil, splice_succ, AV.closedAll, AV.closed, Bool.and_true, Bool.and_self]
  refine AWP.condA ?_ ?_ <;> intro hc1
  · have e : blockP p n kind obj till call = setP p n { x with state := 2, kind := kind, obj := obj, till := till, call := call } := by rw [e0, if_pos (by simpa using hc1)]
    apply AWP.anyR Zz_mixed
    focus
      (repeat (apply Trace.cons; (focus (first | exact Loc.opF hA)); (focus exact applyF hA)))
      exact Trace.nil _
    focus kernel_rfl
    simp only [Then]
    refine AWP.goA ?_
    refine AWP.ret ?_
    refine ⟨trivial, iv 0, rfl, [], rfl, ?_⟩
    refine AOps.backF (show Try.f47.ntmps = 30 from rfl) ?_
    refine AOps.goA ?_
    refine AOps.endA ?_
    simp only [Then]
    refine AWP.goA ?_
    refine AWP.ret ?_
    exact ⟨trivial, [88], by simp, .tup [PaM 88 p.procs.length (setP p n { x with state := 2, kind := kind, obj := obj, till := till, call := call }), iv 0], rfl, by rw [e]; simp [convA, convL, idxIn, lsA, lsL, queueP, setP], by rw [e]; rfl, rfl⟩
  · have e : blockP p n kind obj till call = p := by rw [e0, if_neg (by simpa using hc1)]
    refine AWP.goA ?_
    refine AWP.ret ?_
    refine ⟨trivial, iv 0, rfl, [], rfl, ?_⟩
    refine AOps.backF (show Try.f47.ntmps = 30 from rfl) ?_
    refine AOps.goA ?_
    refine AOps.endA ?_
    simp only [Then]
    refine AWP.goA ?_
    refine AWP.ret ?_
    exact ⟨trivial, [88], by simp, .tup [PaM 88 p.procs.length p, iv 0], rfl, by rw [e]; simp [convA, convL, idxIn, lsA, lsL, queueP, setP], by rw [e]; rfl, rfl⟩
theorem on47_go (p : Part) (n : Nat) (code value : Int) (hs : Small 1000000 p) (hn : n < p.procs.length) : Con Try.prog 47 [Pa p, iv n, .fn 58 [] [.vptr [iv n, iv code, iv value]]]
    (.tup [PaO 0 (goP p n code value).1, iv (goP p n code value).2]) [pObj (goP p n code value).1.procs] := by
  refine ⟨⟨_, _, Try.func47, rfl, by decide⟩, ICall.of_body' T10_ok ⟨Try.func47, rfl, by decide⟩ (by simp [Try.f47]) ?_⟩
  refine AWP.goA ?_
  refine AWP.goC (own29O p hs) ?_
  have hd : decide ((n : Int) < 0) = false := by simp
  refine AWP.goF hd ?_
  refine AWP.condA ?_ ?_ <;> intro hc
  · simp at hc; omega
  have hix := idxP (l := p.procs) hn
  refine AWP.goF hix ?_
  refine AWP.region ?_
  refine AOps.goF hix ?_
  refine AOps.inlineL T10_ok M10_ok rfl rfl (by (simp only [acall, aev, aevs, eget, reduceIte, Nat.reduceEqDiff, Option.getD, List.append_nil, List.nil_append, List.cons_append]) <;> rfl) ⟨Try.func58, rfl, by decide⟩ (by simp [Try.f58]) ?_
  refine AWP.enterF (show Try.f47.ntmps = 30 from rfl) ?_
  obtain ⟨x, hx⟩ : ∃ x, p.procs[n] = x := ⟨_, rfl⟩
  have hx0 : p.procs[n]? = some x := by rw [List.getElem?_eq_getElem hn, hx]
  have hl0 := ldP (q := 0) (t := 3) (v := iv x.state) hx0 rfl
  have e0 : goP p n code value = if x.state = 2 then (queueP p n { x with state := 1, till := -1, kind := 0, obj := 0, pend := true, code := code, value := value, r0 := code, r1 := value }, 0) else (p, 1) := by
    unfold goP; rw [hx0]
  have s1 := stP (q := 0) (t := 3) (v := iv 1) { x with state := 1 } hx0 rfl rfl rfl (by simp) rfl rfl
  have s2 := stPs (q := 9) (t := 3) (v := iv (-1)) (x := { x with state := 1 }) { x with state := 1, till := -1 } hn rfl rfl rfl (by simp) rfl rfl
  have s3 := stPs (q := 10) (t := 3) (v := iv 0) (x := { x with state := 1, till := -1 }) { x with state := 1, till := -1, kind := 0 } hn rfl rfl rfl (by simp) rfl rfl
  have s4 := stPs (q := 11) (t := 3) (v := iv 0) (x := { x with state := 1, till := -1, kind := 0 }) { x with state := 1, till := -1, kind := 0, obj := 0 } hn rfl rfl rfl (by simp) rfl rfl
  have s5 := stPs (q := 14) (t := 4) (v := .bool true) (x := { x with state := 1, till := -1, kind := 0, obj := 0 }) { x with state := 1, till := -1, kind := 0, obj := 0, pend := true } hn rfl rfl rfl (by simp) rfl rfl
  have s6 := stPs (q := 15) (t := 3) (v := iv code) (x := { x with state := 1, till := -1, kind := 0, obj := 0, pend := true }) { x with state := 1, till := -1, kind := 0, obj := 0, pend := true, code := code } hn rfl rfl rfl (by simp) rfl rfl
  have s7 := stPs (q := 16) (t := 3) (v := iv value) (x := { x with state := 1, till := -1, kind := 0, obj := 0, pend := true, code := code }) { x with state := 1, till := -1, kind := 0, obj := 0, pend := true, code := code, value := value } hn rfl rfl rfl (by simp) rfl rfl
  have s8 := stPs (q := 4) (t := 3) (v := iv code) (x := { x with state := 1, till := -1, kind := 0, obj := 0, pend := true, code := code, value := value }) { x with state := 1, till := -1, kind := 0, obj := 0, pend := true, code := code, value := value, r0 := code } hn rfl rfl rfl (by simp) rfl rfl
  have s9 := stPs (q := 5) (t := 3) (v := iv value) (x := { x with state := 1, till := -1, kind := 0, obj := 0, pend := true, code := code, value := value, r0 := code }) { x with state := 1, till := -1, kind := 0, obj := 0, pend := true, code := code, value := value, r0 := code, r1 := value } hn rfl rfl rfl (by simp) rfl rfl
  have s10 := stPs (q := 8) (t := 3) (v := iv p.next) (x := { x with state := 1, till := -1, kind := 0, obj := 0, pend := true, code := code, value := value, r0 := code, r1 := value }) { x with state := 1, till := -1, kind := 0, obj := 0, pend := true, code := code, value := value, r0 := code, r1 := value, since := p.next } hn rfl rfl rfl (by simp) rfl rfl
  have hA := And.intro s5 (And.intro s6 s7)
  have ha0 : ∀ (h : Heap) (k : Nat), aindexAddr' T10 h 45 (.ptr k n 4) 0 = some (.ptr k n 4) := fun h k => rfl
  have ha1 : ∀ (h : Heap) (k : Nat), aindexAddr' T10 h 45 (.ptr k n 4) 1 = some (.ptr k n 5) := fun h k => rfl
  have hB := And.intro s8 (And.intro s9 (And.intro ha0 ha1))
  refine AWP.goF hl0 ?_
  simp only [List.take_succ_cons, List.take_zero, List.drop_succ_cons, List.drop_zero, keysL, keysA, List.append_nil, List.nil_append, splice_zero_cons, splice_zero_nil, splice_succ, AV.closedAll, AV.closed, Bool.and_true, Bool.and_self]
  refine AWP.condA ?_ ?_ <;> intro hc1
  · have e : goP p n code value = (p, 1) := by rw [e0, if_neg (by simpa using hc1)]
    refine AWP.goA ?_
    refine AWP.ret ?_
    refine ⟨trivial, iv 1, rfl, [], rfl, ?_⟩
    refine AOps.backF (show Try.f47.ntmps = 30 from rfl) ?_
    refine AOps.goA ?_
    refine AOps.endA ?_
    simp only [Then]
    refine AWP.goA ?_
    refine AWP.ret ?_
    exact ⟨trivial, [88], by simp, .tup [PaM 88 p.procs.length p, iv 1], rfl, by rw [e]; simp [convA, convL, idxIn, lsA, lsL, queueP, setP], by rw [e]; rfl, rfl⟩
  have e : goP p n code value = (queueP p n { x with state := 1, till := -1, kind := 0, obj := 0, pend := true, code := code, value := value, r0 := code, r1 := value }, 0) := by rw [e0, if_pos (by simpa using hc1)]
  refine AWP.goF (And.intro s1 (And.intro s2 (And.intro s3 s4))) ?_
  apply AWP.anyR Zz_mixed
  focus
    (repeat (apply Trace.cons; (focus (first | exact Loc.opF hA)); (focus exact applyF hA)))
    exact Trace.nil _
  focus kernel_rfl
  simp only [Then]
  refine AWP.goA ?_
  apply AWP.anyR Zz_mixed
  focus
    (repeat (apply Trace.cons; (focus (first | exact Loc.opF hB)); (focus exact applyF hB)))
    exact Trace.nil _
  focus kernel_rfl
  simp only [Then]
  refine AWP.goA ?_
  refine AWP.region ?_
  refine AOps.goA ?_
  refine AOps.inlineL T10_ok M10_ok rfl rfl (by (simp only [acall, aev, aevs, eget, reduceIte, Nat.reduceEqDiff, Option.getD, List.append_nil, List.nil_append, List.cons_append]) <;> rfl) ⟨Try.func51, rfl, by decide⟩ (by simp [Try.f51]) ?_
  refine AWP.enterF (show Try.f58.ntmps = 53 from rfl) ?_
  refine AWP.goF s10 ?_
  refine ⟨trivial, .tup [], rfl, [], rfl, ?_⟩
  refine AOps.backF (show Try.f58.ntmps = 53 from rfl) ?_
  refine AOps.goA ?_
  refine AOps.endA ?_
  simp only [Then]
  refine AWP.goA ?_
  refine AWP.ret ?_
  refine ⟨trivial, iv 0, rfl, [], rfl, ?_⟩
  refine AOps.backF (show Try.f47.ntmps = 30 from rfl) ?_
  refine AOps.goA ?_
  refine AOps.endA ?_
  simp only [Then]
  refine AWP.goA ?_
  refine AWP.ret ?_
  exact ⟨trivial, [88], by simp, .tup [PaM 88 p.procs.length (queueP p n { x with state := 1, till := -1, kind := 0, obj := 0, pend := true, code := code, value := value, r0 := code, r1 := value }), iv 0], rfl, by rw [e]; simp [convA, convL, idxIn, lsA, lsL, queueP, setP], by rw [e]; rfl, rfl⟩
theorem leaveP_procs (i : Int) (p : Part) : (leaveP i p).procs = p.procs := rfl
theorem on47_stop (p : Part) (n : Nat) (hs : Small 1000000 p) (hn : n < p.procs.length) : Con Try.prog 47 [Pa p, iv n, .fn 54 [] [.vptr [iv n]]]
    (.tup [PaO 0 (stopP p n).1, iv (stopP p n).2]) [pObj (stopP p n).1.procs] := by
  refine ⟨⟨_, _, Try.func47, rfl, by decide⟩, ICall.of_body' T10_ok ⟨Try.func47, rfl, by decide⟩ (by simp [Try.f47]) ?_⟩
  refine AWP.goA ?_
  refine AWP.goC (own29O p hs) ?_
  have hd : decide ((n : Int) < 0) = false := by simp
  refine AWP.goF hd ?_
  refine AWP.condA ?_ ?_ <;> intro hc
  · simp at hc; omega
  have hix := idxP (l := p.procs) hn
  refine AWP.goF hix ?_
  refine AWP.region ?_
  refine AOps.goF hix ?_
  refine AOps.inlineL T10_ok M10_ok rfl rfl (by (simp only [acall, aev, aevs, eget, reduceIte, Nat.reduceEqDiff, Option.getD, List.append_nil, List.nil_append, List.cons_append]) <;> rfl) ⟨Try.func54, rfl, by decide⟩ (by simp [Try.f54]) ?_
  refine AWP.enterF (show Try.f47.ntmps = 30 from rfl) ?_
  obtain ⟨x, hx⟩ : ∃ x, p.procs[n] = x := ⟨_, rfl⟩
  have hx0 : p.procs[n]? = some x := by rw [List.getElem?_eq_getElem hn, hx]
  have hl0 := ldP (q := 0) (t := 3) (v := iv x.state) hx0 rfl
  have hl1 := ldP (q := 1) (t := 3) (v := iv x.prio) hx0 rfl
  have e0 : stopP p n = if x.state = 0 then (p, 1) else (setP (leaveP n p) n (dormP x.prio), 0) := by
    unfold stopP; rw [hx0]
  refine AWP.goF hl0 ?_
  simp only [List.take_succ_cons, List.take_zero, List.drop_succ_cons, List.drop_zero, keysL, keysA, List.append_nil, List.nil_append, splice_zero_cons, splice_zero_nil, splice_succ, AV.closedAll, AV.closed, Bool.and_true, Bool.and_self]
  refine AWP.condA ?_ ?_ <;> intro hc1
  · have e : stopP p n = (p, 1) := by rw [e0, if_pos (by simpa using hc1)]
    refine AWP.goA ?_
    refine AWP.ret ?_
    refine ⟨trivial, iv 1, rfl, [], rfl, ?_⟩
    refine AOps.backF (show Try.f47.ntmps = 30 from rfl) ?_
    refine AOps.goA ?_
    refine AOps.endA ?_
    simp only [Then]
    refine AWP.goA ?_
    refine AWP.ret ?_
    exact ⟨trivial, [88], by simp, .tup [PaM 88 p.procs.length p, iv 1], rfl, by rw [e]; simp [convA, convL, idxIn, lsA, lsL, queueP, setP], by rw [e]; rfl, rfl⟩
  have e : stopP p n = (setP (leaveP n p) n (dormP x.prio), 0) := by rw [e0, if_neg (by simpa using hc1)]
  refine AWP.goF hl1 ?_
  have cl := leave25O p n hs
  have hA := And.intro hl0 hl1
  apply AWP.anyR Zz_mixed
  focus
    (repeat (apply Trace.cons; (focus (first | exact Loc.opF hA | exact Loc.conA cl)); (focus exact applyF hA)))
    exact Trace.nil _
  focus kernel_rfl
  simp only [Then]
  have cd := dormant49 x.prio
  obtain ⟨pl, hpl⟩ : ∃ pl, leaveP n p = pl := ⟨_, rfl⟩
  have hpp : pl.procs = p.procs := by rw [← hpl]; rfl
  rw [hpl] at e
  simp only [hpl, List.take_succ_cons, List.take_zero, List.drop_succ_cons, List.drop_zero, keysL, keysA, List.append_nil, List.nil_append, splice_zero_cons, splice_zero_nil, splice_succ, AV.closedAll, AV.closed, Bool.and_true, Bool.and_self]
  refine AWP.goA ?_
  have hn2 : n < pl.procs.length := by rw [hpp]; exact hn
  have hix2 := idxP (l := pl.procs) hn2
  have st := stPz (q := 0) (t := 49) (v := .agg (encProc (dormP x.prio))) [88] (dormP x.prio) hx0 rfl rfl rfl (Nat.le_refl _) rfl rfl
  simp only [encProc, dormP] at cd st
  have hB := And.intro hix2 st
  apply AWP.anyR Zz_mixed
  focus
    (repeat (apply Trace.cons; (focus (first | exact Loc.opF hB | exact Loc.conA cd)); (focus exact applyF hB)))
    exact Trace.nil _
  focus kernel_rfl
  simp only [Then]
  refine AWP.goA ?_
  refine AWP.ret ?_
  refine ⟨trivial, iv 0, rfl, [(408, 232)], rfl, ?_⟩
  refine AOps.backF (show Try.f47.ntmps = 30 from rfl) ?_
  refine AOps.goA ?_
  refine AOps.endA ?_
  simp only [Then]
  refine AWP.goA ?_
  refine AWP.ret ?_
  exact ⟨trivial, [232], by simp, .tup [PaM 232 pl.procs.length pl, iv 0], rfl, by rw [e]; simp [convA, convL, idxIn, lsA, lsL, setP], by rw [e]; simp only [setP, hpp]; rfl, rfl⟩
end Go.Qd
