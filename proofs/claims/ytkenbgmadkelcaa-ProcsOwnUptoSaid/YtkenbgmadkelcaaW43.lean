/- A part of the library of this claim: rules of an abstract machine (values in place of addresses), proved against the model, and contracts of the functions. -/
import Derived.Test.YtkenbgmadkelcaaW41
set_option linter.unusedVariables false
set_option linter.unusedSimpArgs false
set_option maxHeartbeats 8000000
set_option maxRecDepth 10000
namespace Go.Qd
open Go Go.Proofs
theorem renO_bf (base k : Nat) (p : Part) : renO base (bfOf k p) = bfOf (base + k) p := by
  unfold bfOf
  rw [renO_open]
  cases p.bufs with
  | nil => rfl
  | cons b t =>
    simp only [List.map_cons, renL_bufs]
    rfl
theorem renO_vl (base : Nat) (p : Part) : renO base (vlOf p) = vlOf p := rfl
theorem convO_bf {ρ : Nat → Option Nat} {h : Heap} {k k' : Nat} {p : Part} (hk : ρ k = some k') : convO ρ h (bfOf k p) = bfOf k' p := by
  unfold bfOf convO
  simp only [Bool.false_eq_true, if_false]
  cases p.bufs with
  | nil => rfl
  | cons b t =>
    simp only [List.map_cons, convL_bufs]
    simp [encBufN, convL, convA, hk]
section
variable {ops : Array Oper} {o : Oper} {rest : List Oper} {s s' : AS} {N : AS → Prop} {out : Out}
variable {ops : Array Oper} {o : Oper} {rest : List Oper} {s s' : AS} {N : AS → Prop} {f : FuncId} {cl l : List AV} {r : AV} {objs : List AObj} {base : Nat}
theorem AOps.conNB (hc : Con Try.prog f cl r objs) (hn : AOps Try.prog ops rest s' N) (hg : o.guard = none := by rfl) (hd : dstOk s o.dst = true := by rfl) (hca : acall M10 s.env o.op = some (f, l) := by (simp only [acall, aev, aevs, eget, mget, ofConst_int, ofConst_bool, ofConst_nilS, reduceIte, Nat.reduceEqDiff, Option.getD, List.append_nil, List.nil_append, List.cons_append, asl26, asl67, asl29, asl30, asl31, asl32, asl33, asl34, asl35, asl23, decide_true, eq_self, beq_self_eq_true]) <;> rfl) (hcl' : closeL s.heap l = cl := by first | rfl | (simp [closeL, closeA, hget, List.take_of_length_le] <;> fail)) (hb : s.key o.dst = base := by (simp only [AS.key, Option.getD]) <;> rfl) (hfree : freeKeys s base objs.length = true := by rfl) (hfk : (List.range objs.length).all (fun i => !(keysL l).contains (base + i)) = true := by rfl) (hs : s.gaveN o.dst base (keysL l) r objs = s' := by (simp only [AS.gaveN, callOut, renO_open, renO_true, renO_bf, renO_vl, renL_bufs, List.map_cons, List.map_nil, encBufN, renA, renL, enumH, keysL, keysA, eput, reduceIte, Nat.reduceEqDiff, Nat.reduceAdd, List.append_nil, List.nil_append, List.cons_append, asl26, asl67, asl29, asl30, asl31, asl32, asl33, asl34, asl35, asl23, decide_true, eq_self, beq_self_eq_true]) <;> rfl) : AOps Try.prog ops (o :: rest) s N := AOps.conN M10_ok hc hg hd (hca) (hcl') hb hfree hfk (hs) hn
theorem Loc.conNA {out : Out} (hc : Con Try.prog f cl r objs) (hg : o.guard = none := by rfl) (hd : dstOk s o.dst = true := by rfl) (hca : acall M10 s.env o.op = some (f, l) := by (simp only [acall, aev, aevs, eget, mget, ofConst_int, ofConst_bool, ofConst_nilS, reduceIte, Nat.reduceEqDiff, Option.getD, List.append_nil, List.nil_append, List.cons_append, asl26, asl67, asl29, asl30, asl31, asl32, asl33, asl34, asl35, asl23, decide_true, eq_self, beq_self_eq_true]) <;> rfl) (hcl' : closeL s.heap l = cl := by first | rfl | (simp [closeL, closeA, hget, List.take_of_length_le] <;> fail)) (hb : s.key o.dst = base := by (simp only [AS.key, Option.getD]) <;> rfl) (hfree : freeKeys s base objs.length = true := by rfl) (hfk : (List.range objs.length).all (fun i => !(keysL l).contains (base + i)) = true := by rfl) (hout : callOutN base (keysL l) r objs = out := by (simp only [AS.gaveN, callOutN, renO_open, renO_true, renO_bf, renO_vl, renL_bufs, List.map_cons, List.map_nil, encBufN, renA, renL, enumH, keysL, keysA, eput, reduceIte, Nat.reduceEqDiff, Nat.reduceAdd, List.append_nil, List.nil_append, List.cons_append, asl26, asl67, asl29, asl30, asl31, asl32, asl33, asl34, asl35, asl23, decide_true, eq_self, beq_self_eq_true]) <;> rfl) : Loc Try.prog ops o out s := Loc.conN M10_ok hc hg hd (hca) (hcl') hb hfree hfk (hout)
end
theorem on47N_stopA (p : Part) (n : Nat) (b0 : Buf) (bt : List Buf) (hbf : p.bufs = b0 :: bt) (hs : Small 1000000 p) (hn : n < p.procs.length) (hz : p.procs[n].state = 0) : Con Try.prog 47 [Pa p, iv n, .fn 54 [] [.vptr [iv n]]]
    (.tup [PaN 0 1 p.procs.length p.bufs.length (stopP p n).1, iv (stopP p n).2]) [pObj (stopP p n).1.procs, bfOf 2 (stopP p n).1, vlOf (stopP p n).1] := by
  refine ⟨⟨_, _, Try.func47, rfl, by decide⟩, ICall.of_body' T10_ok ⟨Try.func47, rfl, by decide⟩ (by simp [Try.f47]) ?_⟩
  refine AWP.goA ?_
  refine AWP.region ?_
  refine AOps.goA ?_
  refine AOps.conNA (own29N p b0 bt hbf hs) ?_
  refine AOps.goA ?_
  refine AOps.endA ?_
  simp only [Then]
  have hd : decide ((n : Int) < 0) = false := by simp
  refine AWP.goF hd ?_
  refine AWP.condA ?_ ?_ <;> intro hc
  · simp at hc; omega
  have hix := idxP (l := p.procs) hn
  refine AWP.goF hix ?_
  refine AWP.region ?_
  refine AOps.goF hix ?_
  refine AOps.inlineL T10_ok M10_ok rfl rfl (by (simp only [acall, aev, aevs, eget, reduceIte, Nat.reduceEqDiff, Option.getD, List.append_nil, List.nil_append, List.cons_append]) <;> rfl) ⟨Try.func54, rfl, by decide⟩ (by simp [Try.f54]) ?_
  refine AWP.enterF (show Try.f47.ntmps = 30 from rfl) ?_
  obtain ⟨x, hx⟩ : ∃ x, p.procs[n] = x := ⟨_, rfl⟩
  rw [hx] at hz
  have hx0 : p.procs[n]? = some x := by rw [List.getElem?_eq_getElem hn, hx]
  have hl0 := ldP (q := 0) (t := 3) (v := iv x.state) hx0 rfl
  have hl1 := ldP (q := 1) (t := 3) (v := iv x.prio) hx0 rfl
  have e0 : stopP p n = if x.state = 0 then (p, 1) else (setP (leaveP n p) n (dormP x.prio), 0) := by
    unfold stopP; rw [hx0]
  refine AWP.goF hl0 ?_
  simp only [List.take_succ_cons, List.take_zero, List.drop_succ_cons, List.drop_zero, keysL, keysA, List.append_nil, List.nil_append, splice_zero_cons, splice_zero_nil, splice_succ, AV.closedAll, AV.closed, Bool.and_true, Bool.and_self]
  refine AWP.condA ?_ ?_ <;> intro hc1
  · have e : stopP p n = (p, 1) := by rw [e0, if_pos (by simpa using hc1)]
    refine AWP.goA ?_
    refine AWP.ret ?_
    refine ⟨trivial, iv 1, rfl, [], rfl, ?_⟩
    refine AOps.backF (And.intro (show Try.f47.ntmps = 30 from rfl) convL_bufs) ?_
    refine AOps.goA ?_
    refine AOps.endA ?_
    simp only [Then]
    refine AWP.goA ?_
    refine AWP.ret ?_
    exact ⟨trivial, [88, 89, 90], by simp, .tup [PaN 88 89 p.procs.length p.bufs.length p, iv 1], rfl, by rw [e]; simp [convA, convL, idxIn, lsA, lsL, queueP, setP], by rw [e]; simp [keepO, hget, convO, convL, convA, idxIn, encBufN, convL_buf, bfOf, vlOf, setP, queueP, hbf], rfl⟩
  exact absurd hz (by simpa using hc1)
theorem on47N_stopB (p : Part) (n : Nat) (b0 : Buf) (bt : List Buf) (hb : p.bufs = b0 :: bt) (hs : Small 1000000 p) (hn : n < p.procs.length) (hz : p.procs[n].state ≠ 0) : Con Try.prog 47 [Pa p, iv n, .fn 54 [] [.vptr [iv n]]]
    (.tup [PaN 0 1 p.procs.length p.bufs.length (stopP p n).1, iv (stopP p n).2]) [pObj (stopP p n).1.procs, bfOf 2 (stopP p n).1, vlOf (stopP p n).1] := by
  refine ⟨⟨_, _, Try.func47, rfl, by decide⟩, ICall.of_body' T10_ok ⟨Try.func47, rfl, by decide⟩ (by simp [Try.f47]) ?_⟩
  refine AWP.goA ?_
  refine AWP.goC (own29O p hs) ?_
  have hd : decide ((n : Int) < 0) = false := by simp
  refine AWP.goF hd ?_
  refine AWP.condA ?_ ?_ <;> intro hc
  · simp at hc; omega
  have hix := idxP (l := p.procs) hn
  refine AWP.goF hix ?_
  refine AWP.region ?_
  refine AOps.goF hix ?_
  refine AOps.inlineL T10_ok M10_ok rfl rfl (by (simp only [acall, aev, aevs, eget, reduceIte, Nat.reduceEqDiff, Option.getD, List.append_nil, List.nil_append, List.cons_append]) <;> rfl) ⟨Try.func54, rfl, by decide⟩ (by simp [Try.f54]) ?_
  refine AWP.enterF (show Try.f47.ntmps = 30 from rfl) ?_
  obtain ⟨x, hx⟩ : ∃ x, p.procs[n] = x := ⟨_, rfl⟩
  rw [hx] at hz
  have hx0 : p.procs[n]? = some x := by rw [List.getElem?_eq_getElem hn, hx]
  have hl0 := ldP (q := 0) (t := 3) (v := iv x.state) hx0 rfl
  have hl1 := ldP (q := 1) (t := 3) (v := iv x.prio) hx0 rfl
  have e0 : stopP p n = if x.state = 0 then (p, 1) else (setP (leaveP n p) n (dormP x.prio), 0) := by
    unfold stopP; rw [hx0]
  refine AWP.goF hl0 ?_
  simp only [List.take_succ_cons, List.take_zero, List.drop_succ_cons, List.drop_zero, keysL, keysA, List.append_nil, List.nil_append, splice_zero_cons, splice_zero_nil, splice_succ, AV.closedAll, AV.closed, Bool.and_true, Bool.and_self]
  refine AWP.condA ?_ ?_ <;> intro hc1
  · exact absurd (by simpa using hc1) hz
  have e : stopP p n = (setP (leaveP n p) n (dormP x.prio), 0) := by rw [e0, if_neg (by simpa using hc1)]
  refine AWP.goF hl1 ?_
  have cl := leave25N p n b0 bt hb hs
  have hA := And.intro hl0 hl1
  apply AWP.anyR Zz_mixed
  focus
    (repeat (apply Trace.cons; (focus (first | exact Loc.opF hA | exact Loc.conNA cl)); (focus exact applyF hA)))
    exact Trace.nil _
  focus kernel_rfl
  simp only [Then]
  have cd := dormant49 x.prio
  obtain ⟨pl, hpl⟩ : ∃ pl, leaveP n p = pl := ⟨_, rfl⟩
  have hpp : pl.procs = p.procs := by rw [← hpl]; rfl
  have hplb : pl.bufs = gBuf (noP n) b0 :: bt.map (gBuf (noP n)) := by rw [← hpl]; simp [leaveP, gPart, hb]
  rw [hpl] at e
  simp only [hpl, List.take_succ_cons, List.take_zero, List.drop_succ_cons, List.drop_zero, keysL, keysA, List.append_nil, List.nil_append, splice_zero_cons, splice_zero_nil, splice_succ, AV.closedAll, AV.closed, Bool.and_true, Bool.and_self]
  refine AWP.goA ?_
  have hix2 := idxP (l := p.procs) hn
  have st := stPz (q := 0) (t := 49) (v := .agg (encProc (dormP x.prio))) [88] (dormP x.prio) hx0 rfl rfl rfl (Nat.le_refl _) rfl rfl
  simp only [encProc, dormP] at cd st
  have hB := And.intro hix2 st
  apply AWP.anyR Zz_mixed
  focus
    (repeat (apply Trace.cons; (focus (first | exact Loc.opF hB | exact Loc.conA cd)); (focus exact applyF hB)))
    exact Trace.nil _
  focus kernel_rfl
  simp only [Then]
  refine AWP.goA ?_
  refine AWP.ret ?_
  refine ⟨trivial, iv 0, rfl, [(408, 232), (409, 233), (410, 234)], rfl, ?_⟩
  refine AOps.backF (And.intro (show Try.f47.ntmps = 30 from rfl) convL_bufs) ?_
  refine AOps.goA ?_
  refine AOps.endA ?_
  simp only [Then]
  refine AWP.goA ?_
  refine AWP.ret ?_
  exact ⟨trivial, [232, 233, 234], by simp, .tup [PaN 232 233 p.procs.length p.bufs.length pl, iv 0], rfl, by rw [e]; simp [convA, convL, idxIn, lsA, lsL, setP], by rw [e]; simp [keepO, hget, convO, convL, convA, idxIn, encBufN, convL_buf, bfOf, vlOf, setP, hplb, hpp, gBuf, dormP], rfl⟩
theorem on47N_stop (p : Part) (n : Nat) (b0 : Buf) (bt : List Buf) (hb : p.bufs = b0 :: bt) (hs : Small 1000000 p) (hn : n < p.procs.length) : Con Try.prog 47 [Pa p, iv n, .fn 54 [] [.vptr [iv n]]]
    (.tup [PaN 0 1 p.procs.length p.bufs.length (stopP p n).1, iv (stopP p n).2]) [pObj (stopP p n).1.procs, bfOf 2 (stopP p n).1, vlOf (stopP p n).1] := by
  by_cases hz : p.procs[n].state = 0
  · exact on47N_stopA p n b0 bt hb hs hn hz
  · exact on47N_stopB p n b0 bt hb hs hn hz
end Go.Qd
