/- A part of the library of this claim: rules of an abstract machine (values in place of addresses), proved against the model, and contracts of the functions. -/
import Derived.Test.YtkenbgmadkelcaaW39
set_option linter.unusedVariables false
set_option linter.unusedSimpArgs false
set_option maxHeartbeats 4000000
set_option maxRecDepth 10000
namespace Go.Qd
open Go Go.Proofs
section
variable {ops : Array Oper} {o : Oper} {rest : List Oper} {s s' : AS} {N : AS → Prop} {out : Out}
variable {ops : Array Oper} {o : Oper} {rest : List Oper} {s s' : AS} {N : AS → Prop} {f : FuncId} {cl l : List AV} {r : AV} {objs : List AObj} {base : Nat}
theorem AOps.conNA (hc : Con Try.prog f cl r objs) (hn : AOps Try.prog ops rest s' N) (hg : o.guard = none := by rfl) (hd : dstOk s o.dst = true := by rfl) (hca : acall M10 s.env o.op = some (f, l) := by (simp only [acall, aev, aevs, eget, mget, ofConst_int, ofConst_bool, ofConst_nilS, reduceIte, Nat.reduceEqDiff, Option.getD, List.append_nil, List.nil_append, List.cons_append, asl26, asl67, asl29, asl30, asl31, asl32, asl33, asl34, asl35, asl23, decide_true, eq_self, beq_self_eq_true]) <;> rfl) (hcl' : closeL s.heap l = cl := by first | rfl | (simp [closeL, closeA, hget, List.take_of_length_le] <;> fail)) (hb : s.key o.dst = base := by (simp only [AS.key, Option.getD]) <;> rfl) (hfree : freeKeys s base objs.length = true := by rfl) (hfk : (List.range objs.length).all (fun i => !(keysL l).contains (base + i)) = true := by rfl) (hs : s.gaveN o.dst base (keysL l) r objs = s' := by (simp only [AS.gaveN, callOut, renO_open, renO_true, renL_bufs, List.map_cons, List.map_nil, encBufN, renA, renL, enumH, keysL, keysA, eput, reduceIte, Nat.reduceEqDiff, Nat.reduceAdd, List.append_nil, List.nil_append, List.cons_append, asl26, asl67, asl29, asl30, asl31, asl32, asl33, asl34, asl35, asl23, decide_true, eq_self, beq_self_eq_true]) <;> rfl) : AOps Try.prog ops (o :: rest) s N := AOps.conN M10_ok hc hg hd (hca) (hcl') hb hfree hfk (hs) hn
end
/-- A partition whose processes and buffers lie in objects of one's own. -/
abbrev PaN (kp kb m n : Nat) (p : Part) : AV := .agg [iv p.mode, iv p.begun, iv p.next, Il p.mem, .osl kp 0 m, .lst (p.boards.map encBoard), .osl kb 0 n, .lst (p.semas.map encSema), .lst (p.events.map encEvent), .lst (p.samples.map encSample), .lst (p.queues.map encQueue), iv p.lat0, Il p.lines, iv p.lat2, Il p.given]
/-- procs.waits: the processes, the buffers and the first one's values are the copy's own -/
theorem waits60N (g : List Wait → List Wait) (F : Nat) (p : Part) (b0 : Buf) (bt : List Buf) (hb : p.bufs = b0 :: bt) (hs : Small 1000000 p) (hof : ∀ l : List Wait, l.length ≤ 1000000 → Con Try.prog F (Wl l :: []) (Wl (g l)) []) :
    Con Try.prog 60 [Pa p, .fn F [] []] (PaN 0 1 p.procs.length p.bufs.length (gPart g p)) [pObj p.procs, bfObj 2 (gBuf g b0) (bt.map (gBuf g)), vlObj b0] := by
  refine ⟨⟨_, _, Try.func60, rfl, by decide⟩, ICall.of_body' T10_ok ⟨Try.func60, rfl, by decide⟩ (by simp [Try.f60]) ?_⟩
  have c1 := each82 g F [] p.boards hs.boards (fun _ => rfl) rfl (fun b hb => hof b.l (hs.boardL b hb))
  have c2 := each84N g F [] b0 bt (by rw [← hb]; exact hs.bufs) (by rw [← hb]; exact hs.bufV) (fun _ => rfl) rfl (by rw [← hb]; exact fun b hb => hof b.l (hs.bufL b hb))
  rw [← hb] at c2
  have c3 := each87 g F [] p.semas hs.semas (fun _ => rfl) rfl (fun b hb => hof b.l (hs.semaL b hb))
  have c4 := each89 g F [] p.events hs.events (fun _ => rfl) rfl (fun b hb => hof b.l (hs.eventL b hb))
  have c5 := each91 p.queues hs.queues hs.queueV
  refine AWP.goC c1 ?_
  refine AWP.region ?_
  refine AOps.goA ?_
  refine AOps.conNA c2 ?_
  refine AOps.goA ?_
  refine AOps.endA ?_
  simp only [Then]
  refine AWP.goC (And.intro c3 (And.intro c4 c5)) ?_
  refine AWP.goC (And.intro (clone93 p.procs hs.procs) (And.intro (clone94C p.samples hs.samples) (And.intro (clone86C p.mem hs.mem) (And.intro (clone86C p.lines hs.lines) (clone86C p.given hs.given))))) ?_
  refine AWP.ret ?_
  exact ⟨trivial, [248, 104, 105], by simp, PaN 248 104 p.procs.length p.bufs.length (gPart g p), rfl, rfl, by simp [keepO, hget, convO, convL, convA, idxIn, encBufN, convL_buf], rfl⟩
theorem waits60NL (g : List Wait → List Wait) (i : Int) (p : Part) (b0 : Buf) (bt : List Buf) (hb : p.bufs = b0 :: bt) (hs : Small 1000000 p) (hof : ∀ l : List Wait, l.length ≤ 1000000 → Con Try.prog 61 (Wl l :: [.vptr [iv i]]) (Wl (g l)) []) :
    Con Try.prog 60 [Pa p, .fn 61 [] [.vptr [iv i]]] (PaN 0 1 p.procs.length p.bufs.length (gPart g p)) [pObj p.procs, bfObj 2 (gBuf g b0) (bt.map (gBuf g)), vlObj b0] := by
  refine ⟨⟨_, _, Try.func60, rfl, by decide⟩, ICall.of_body' T10_ok ⟨Try.func60, rfl, by decide⟩ (by simp [Try.f60]) ?_⟩
  have c1 := each82 g 61 [.vptr [iv i]] p.boards hs.boards (fun _ => rfl) rfl (fun b hb => hof b.l (hs.boardL b hb))
  have c2 := each84N g 61 [.vptr [iv i]] b0 bt (by rw [← hb]; exact hs.bufs) (by rw [← hb]; exact hs.bufV) (fun _ => rfl) rfl (by rw [← hb]; exact fun b hb => hof b.l (hs.bufL b hb))
  rw [← hb] at c2
  have c3 := each87 g 61 [.vptr [iv i]] p.semas hs.semas (fun _ => rfl) rfl (fun b hb => hof b.l (hs.semaL b hb))
  have c4 := each89 g 61 [.vptr [iv i]] p.events hs.events (fun _ => rfl) rfl (fun b hb => hof b.l (hs.eventL b hb))
  have c5 := each91 p.queues hs.queues hs.queueV
  refine AWP.goC c1 ?_
  refine AWP.region ?_
  refine AOps.goA ?_
  refine AOps.conNA c2 ?_
  refine AOps.goA ?_
  refine AOps.endA ?_
  simp only [Then]
  refine AWP.goC (And.intro c3 (And.intro c4 c5)) ?_
  refine AWP.goC (And.intro (clone93 p.procs hs.procs) (And.intro (clone94C p.samples hs.samples) (And.intro (clone86C p.mem hs.mem) (And.intro (clone86C p.lines hs.lines) (clone86C p.given hs.given))))) ?_
  refine AWP.ret ?_
  exact ⟨trivial, [248, 104, 105], by simp, PaN 248 104 p.procs.length p.bufs.length (gPart g p), rfl, rfl, by simp [keepO, hget, convO, convL, convA, idxIn, encBufN, convL_buf], rfl⟩
/-- procs.Own -/
theorem own29N (p : Part) (b0 : Buf) (bt : List Buf) (hb : p.bufs = b0 :: bt) (hs : Small 1000000 p) : Con Try.prog 29 [Pa p] (PaN 0 1 p.procs.length p.bufs.length p) [pObj p.procs, bfObj 2 b0 bt, vlObj b0] := by
  refine ⟨⟨_, _, Try.func29, rfl, by decide⟩, ICall.of_body' T10_ok ⟨Try.func29, rfl, by decide⟩ (by simp [Try.f29]) ?_⟩
  have c := waits60N id 63 p b0 bt hb hs (fun l hl => clone63C l hl)
  rw [gPart_id, show gBuf id = id from rfl, List.map_id, id] at c
  refine AWP.goA ?_
  refine AWP.region ?_
  refine AOps.goA ?_
  refine AOps.conNA c ?_
  refine AOps.goA ?_
  refine AOps.endA ?_
  simp only [Then]
  refine AWP.ret ?_
  exact ⟨trivial, [32, 33, 34], by simp, PaN 32 33 p.procs.length p.bufs.length p, rfl, rfl, by simp [keepO, hget, convO, convL, convA, idxIn, encBufN, convL_buf], rfl⟩
/-- procs.Leave -/
theorem leave25N (p : Part) (i : Int) (b0 : Buf) (bt : List Buf) (hb : p.bufs = b0 :: bt) (hs : Small 1000000 p) : Con Try.prog 25 [Pa p, iv i] (PaN 0 1 p.procs.length p.bufs.length (leaveP i p)) [pObj p.procs, bfObj 2 (gBuf (noP i) b0) (bt.map (gBuf (noP i))), vlObj b0] := by
  refine ⟨⟨_, _, Try.func25, rfl, by decide⟩, ICall.of_body' T10_ok ⟨Try.func25, rfl, by decide⟩ (by simp [Try.f25]) ?_⟩
  have c := waits60NL (noP i) i p b0 bt hb hs (fun l hl => leave61 l i hl)
  refine AWP.goA ?_
  refine AWP.region ?_
  refine AOps.goA ?_
  refine AOps.conNA c ?_
  refine AOps.goA ?_
  refine AOps.endA ?_
  simp only [Then]
  refine AWP.ret ?_
  exact ⟨trivial, [56, 57, 58], by simp, PaN 56 57 p.procs.length p.bufs.length (gPart (noP i) p), rfl, rfl, by simp [keepO, hget, convO, convL, convA, idxIn, encBufN, convL_buf], rfl⟩
end Go.Qd
