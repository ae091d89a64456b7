/- A part of the library of this claim: rules of an abstract machine (values in place of addresses), proved against the model, and contracts of the functions. -/
import Derived.Test.YtkenbgmadkelcaaW10
set_option linter.unusedVariables false
set_option linter.unusedSimpArgs false
set_option maxHeartbeats 4000000
set_option maxRecDepth 10000
namespace Go.Qd
open Go Go.Proofs
/-- A partition whose processes lie in an object of one's own. -/
abbrev PaO (k : Nat) (p : Part) : AV := .agg [iv p.mode, iv p.begun, iv p.next, Il p.mem, .osl k 0 p.procs.length, .lst (p.boards.map encBoard), .lst (p.bufs.map encBuf), .lst (p.semas.map encSema), .lst (p.events.map encEvent), .lst (p.samples.map encSample), .lst (p.queues.map encQueue), iv p.lat0, Il p.lines, iv p.lat2, Il p.given]
abbrev pObj (l : List Proc) : AObj := ⟨49, 18, true, l.map encProc⟩
theorem PaO_close (p : Part) : lsA (convA (fun _ => none) (enumH 0 [pObj p.procs]) (PaO 0 p)) = Pa p := by
  simp [convA, convL, enumH, hget, lsA, lsL, List.take_of_length_le]
/-- procs.waits, with a function that hangs on nothing: the processes are the copy's own -/
theorem waits60O (g : List Wait → List Wait) (F : Nat) (p : Part) (hs : Small 1000000 p) (hof : ∀ l : List Wait, l.length ≤ 1000000 → Con Try.prog F (Wl l :: []) (Wl (g l)) []) : Con Try.prog 60 [Pa p, .fn F [] []] (PaO 0 (gPart g p)) [pObj p.procs] := by
  refine ⟨⟨_, _, Try.func60, rfl, by decide⟩, ICall.of_body' T10_ok ⟨Try.func60, rfl, by decide⟩ (by simp [Try.f60]) ?_⟩
  have c1 := each82 g F [] p.boards hs.boards (fun _ => rfl) rfl (fun b hb => hof b.l (hs.boardL b hb))
  have c2 := each84 g F [] p.bufs hs.bufs hs.bufV (fun _ => rfl) rfl (fun b hb => hof b.l (hs.bufL b hb))
  have c3 := each87 g F [] p.semas hs.semas (fun _ => rfl) rfl (fun b hb => hof b.l (hs.semaL b hb))
  have c4 := each89 g F [] p.events hs.events (fun _ => rfl) rfl (fun b hb => hof b.l (hs.eventL b hb))
  have c5 := each91 p.queues hs.queues hs.queueV
  refine AWP.goC (And.intro c1 (And.intro c2 (And.intro c3 (And.intro c4 c5)))) ?_
  refine AWP.goC (And.intro (clone93 p.procs hs.procs) (And.intro (clone94C p.samples hs.samples) (And.intro (clone86C p.mem hs.mem) (And.intro (clone86C p.lines hs.lines) (clone86C p.given hs.given))))) ?_
  refine AWP.ret ?_
  exact ⟨trivial, [248], by simp, PaO 248 (gPart g p), rfl, rfl, rfl, rfl⟩
/-- procs.waits, with Leave's function: the processes are the copy's own -/
theorem waits60L (g : List Wait → List Wait) (i : Int) (p : Part) (hs : Small 1000000 p) (hof : ∀ l : List Wait, l.length ≤ 1000000 → Con Try.prog 61 (Wl l :: [.vptr [iv i]]) (Wl (g l)) []) : Con Try.prog 60 [Pa p, .fn 61 [] [.vptr [iv i]]] (PaO 0 (gPart g p)) [pObj p.procs] := by
  refine ⟨⟨_, _, Try.func60, rfl, by decide⟩, ICall.of_body' T10_ok ⟨Try.func60, rfl, by decide⟩ (by simp [Try.f60]) ?_⟩
  have c1 := each82 g 61 [.vptr [iv i]] p.boards hs.boards (fun _ => rfl) rfl (fun b hb => hof b.l (hs.boardL b hb))
  have c2 := each84 g 61 [.vptr [iv i]] p.bufs hs.bufs hs.bufV (fun _ => rfl) rfl (fun b hb => hof b.l (hs.bufL b hb))
  have c3 := each87 g 61 [.vptr [iv i]] p.semas hs.semas (fun _ => rfl) rfl (fun b hb => hof b.l (hs.semaL b hb))
  have c4 := each89 g 61 [.vptr [iv i]] p.events hs.events (fun _ => rfl) rfl (fun b hb => hof b.l (hs.eventL b hb))
  have c5 := each91 p.queues hs.queues hs.queueV
  refine AWP.goC (And.intro c1 (And.intro c2 (And.intro c3 (And.intro c4 c5)))) ?_
  refine AWP.goC (And.intro (clone93 p.procs hs.procs) (And.intro (clone94C p.samples hs.samples) (And.intro (clone86C p.mem hs.mem) (And.intro (clone86C p.lines hs.lines) (clone86C p.given hs.given))))) ?_
  refine AWP.ret ?_
  exact ⟨trivial, [248], by simp, PaO 248 (gPart g p), rfl, rfl, rfl, rfl⟩
/-- procs.Own: the processes are the copy's own -/
theorem own29O (p : Part) (hs : Small 1000000 p) : Con Try.prog 29 [Pa p] (PaO 0 p) [pObj p.procs] := by
  refine ⟨⟨_, _, Try.func29, rfl, by decide⟩, ICall.of_body' T10_ok ⟨Try.func29, rfl, by decide⟩ (by simp [Try.f29]) ?_⟩
  have c := waits60O id 63 p hs (fun l hl => clone63C l hl)
  rw [gPart_id] at c
  refine AWP.goC c ?_
  refine AWP.ret ?_
  exact ⟨trivial, [32], by simp, PaO 32 p, rfl, rfl, rfl, rfl⟩
/-- A partition that a process has left. -/
def leaveP (i : Int) (p : Part) : Part := gPart (noP i) p
/-- procs.Leave: the processes are the copy's own -/
theorem leave25O (p : Part) (i : Int) (hs : Small 1000000 p) : Con Try.prog 25 [Pa p, iv i] (PaO 0 (leaveP i p)) [pObj p.procs] := by
  refine ⟨⟨_, _, Try.func25, rfl, by decide⟩, ICall.of_body' T10_ok ⟨Try.func25, rfl, by decide⟩ (by simp [Try.f25]) ?_⟩
  have c := waits60L (noP i) i p hs (fun l hl => leave61 l i hl)
  refine AWP.goC c ?_
  refine AWP.ret ?_
  exact ⟨trivial, [56], by simp, PaO 56 (gPart (noP i) p), rfl, rfl, rfl, rfl⟩
/-- procs.Leave -/
theorem leave25 (p : Part) (i : Int) (hs : Small 1000000 p) : Con Try.prog 25 [Pa p, iv i] (Pa (leaveP i p)) [] :=
  (leave25O p i hs).close (PaO_close (leaveP i p))
end Go.Qd
