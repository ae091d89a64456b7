/- A part of the library of this claim: rules of an abstract machine (values in place of addresses), proved against the model, and contracts of the functions. -/
import Derived.Test.YtkenbgmadkelcaaW17
set_option linter.unusedVariables false
set_option linter.unusedSimpArgs false
set_option maxHeartbeats 8000000
set_option maxRecDepth 10000
namespace Go.Qd
open Go Go.Proofs
/-- ref10.Leave -/
theorem leave26 (p : Part) (i : Int) (hs : Small 1000000 p) : Con Try.prog 26 [Pa p, iv i] (Pa (leaveP i p)) [] := by
  refine ⟨⟨_, _, Try.func26, rfl, by decide⟩, ICall.of_body' T10_ok ⟨Try.func26, rfl, by decide⟩ (by simp [Try.f26]) ?_⟩
  refine AWP.goA ?_
  refine AWP.region ?_
  refine AOps.goA ?_
  refine AOps.appA (app30 hs.boards _ _ (by rfl)) ?_
  refine AOps.goA ?_
  refine AOps.endA ?_
  simp only [Then, InBlock]
  refine AWP.goA ?_
  refine AWP.loopT (fun k : Nat => ⟨0, Try.f26.ntmps, [(1, iv i), (2, .ptr 16 0 0), (4, .ptr 32 0 0), (5, iv k)], [(16, ⟨39, 15, false, [[iv p.mode, iv p.begun, iv p.next, Il p.mem, Pl p.procs, .osl 88 0 p.boards.length, .lst (p.bufs.map encBuf), .lst (p.semas.map encSema), .lst (p.events.map encEvent), .lst (p.samples.map encSample), .lst (p.queues.map encQueue), iv p.lat0, Il p.lines, iv p.lat2, Il p.given]]⟩), (32, ⟨39, 15, true, [[.int .i64 0, .int .i64 0, .int .i64 0, .esl, .esl, .esl, .esl, .esl, .esl, .esl, .esl, .int .i64 0, .esl, .int .i64 0, .esl]]⟩), (88, ⟨78, 3, true, (upto (gBoard (noP i)) p.boards k).map encBoard⟩)], []⟩) (fun k => k ≤ p.boards.length) (fun k => p.boards.length - k) 0 (by simp)
    (Thin.to [] rfl rfl rfl rfl rfl (by simp [envIn, eget, eput]) (by simp [upto_0, killsH])) ?_
  rintro k hk
  refine AWP.goA ?_
  refine AWP.condA ?_ ?_ <;> intro hc
  · have hil : k < p.boards.length := by simpa using hc
    have hix : ∀ (h : Heap) (kk : Nat), keySize h (.osl kk 0 p.boards.length) 3 = true → aindexAddr' T10 h 30 (.osl kk 0 p.boards.length) (k : Int) = some (.ptr kk k 0) := idxOb (e := 78) rfl rfl rfl hil
    have hld : ∀ (h : Heap) (kk : Nat), hget h kk = some ⟨78, 3, true, (upto (gBoard (noP i)) p.boards k).map encBoard⟩ → aload T10 h 67 (.ptr kk k 2) = some ⟨Wl p.boards[k].l, [], [kk], []⟩ := load_at (upto_get _ _ _ _ hil) rfl
    have hst : ∀ (fb nt : Nat) (env : Env) (heap : Heap) (kk : Nat), hget heap kk = some ⟨78, 3, true, (upto (gBoard (noP i)) p.boards k).map encBoard⟩ → astore T10 ⟨fb, nt, env, heap, []⟩ 67 (.ptr kk k 2) (Wl (noP i p.boards[k].l)) = some ⟨.tup [], [(kk, ⟨78, 3, true, (upto (gBoard (noP i)) p.boards (k + 1)).map encBoard⟩)], [kk], []⟩ := fun fb nt env heap kk hkk => by
      rw [← upto_set _ _ _ _ hil]
      exact store_at (cs := [Wl (noP i p.boards[k].l)]) (r := encBoard p.boards[k]) rfl rfl (upto_get _ _ _ _ hil) rfl (by simp [encBoard]) rfl rfl fb nt env heap kk hkk
    have hw := wrap_succ (show k < 9223372036854775807 by have := hs.boards; omega)
    have hA := And.intro hix (And.intro hld hst)
    refine AWP.goA ?_
    apply AWP.anyR Zz_mixed
    focus
      (repeat (apply Trace.cons; (focus (first | exact Loc.opF hA | exact Loc.conA (without65 p.boards[k].l i (hs.boardL _ (List.getElem_mem hil))))); (focus exact applyF hA)))
      exact Trace.nil _
    focus kernel_rfl
    simp only [Then, InBlock]
    refine AWP.goF hw ?_
    exact ⟨k + 1, by omega, by omega, Thin.to [] rfl rfl rfl rfl rfl (by simp [envIn, eget]) rfl⟩
  have hie0 : k = p.boards.length := by simp at hc; omega
  subst hie0
  simp only [upto_all]
  refine AWP.goA ?_
  refine AWP.region ?_
  refine AOps.goA ?_
  refine AOps.appA (app31 hs.bufs _ _ (by rfl)) ?_
  refine AOps.goA ?_
  refine AOps.endA ?_
  simp only [Then, InBlock]
  refine AWP.goA ?_
  refine AWP.loopT (fun k : Nat => ⟨0, Try.f26.ntmps, [(1, iv i), (2, .ptr 16 0 0), (4, .ptr 32 0 0), (6, iv k)], [(16, ⟨39, 15, false, [[iv p.mode, iv p.begun, iv p.next, Il p.mem, Pl p.procs, .osl 88 0 p.boards.length, .osl 280 0 p.bufs.length, .lst (p.semas.map encSema), .lst (p.events.map encEvent), .lst (p.samples.map encSample), .lst (p.queues.map encQueue), iv p.lat0, Il p.lines, iv p.lat2, Il p.given]]⟩), (32, ⟨39, 15, true, [[.int .i64 0, .int .i64 0, .int .i64 0, .esl, .esl, .esl, .esl, .esl, .esl, .esl, .esl, .int .i64 0, .esl, .int .i64 0, .esl]]⟩), (88, ⟨78, 3, true, (p.boards.map (gBoard (noP i))).map encBoard⟩), (280, ⟨69, 4, true, (upto (gBuf (noP i)) p.bufs k).map encBuf⟩)], []⟩) (fun k => k ≤ p.bufs.length) (fun k => p.bufs.length - k) 0 (by simp)
    (Thin.to [] rfl rfl rfl rfl rfl (by simp [envIn, eget, eput]) (by simp [upto_0, killsH])) ?_
  rintro k hk
  refine AWP.goA ?_
  refine AWP.condA ?_ ?_ <;> intro hc
  · have hil : k < p.bufs.length := by simpa using hc
    have hix : ∀ (h : Heap) (kk : Nat), keySize h (.osl kk 0 p.bufs.length) 4 = true → aindexAddr' T10 h 31 (.osl kk 0 p.bufs.length) (k : Int) = some (.ptr kk k 0) := idxOb (e := 69) rfl rfl rfl hil
    have hld : ∀ (h : Heap) (kk : Nat), hget h kk = some ⟨69, 4, true, (upto (gBuf (noP i)) p.bufs k).map encBuf⟩ → aload T10 h 67 (.ptr kk k 3) = some ⟨Wl p.bufs[k].l, [], [kk], []⟩ := load_at (upto_get _ _ _ _ hil) rfl
    have hst : ∀ (fb nt : Nat) (env : Env) (heap : Heap) (kk : Nat), hget heap kk = some ⟨69, 4, true, (upto (gBuf (noP i)) p.bufs k).map encBuf⟩ → astore T10 ⟨fb, nt, env, heap, []⟩ 67 (.ptr kk k 3) (Wl (noP i p.bufs[k].l)) = some ⟨.tup [], [(kk, ⟨69, 4, true, (upto (gBuf (noP i)) p.bufs (k + 1)).map encBuf⟩)], [kk], []⟩ := fun fb nt env heap kk hkk => by
      rw [← upto_set _ _ _ _ hil]
      exact store_at (cs := [Wl (noP i p.bufs[k].l)]) (r := encBuf p.bufs[k]) rfl rfl (upto_get _ _ _ _ hil) rfl (by simp [encBuf]) rfl rfl fb nt env heap kk hkk
    have hw := wrap_succ (show k < 9223372036854775807 by have := hs.bufs; omega)
    have hA := And.intro hix (And.intro hld hst)
    refine AWP.goA ?_
    apply AWP.anyR Zz_mixed
    focus
      (repeat (apply Trace.cons; (focus (first | exact Loc.opF hA | exact Loc.conA (without65 p.bufs[k].l i (hs.bufL _ (List.getElem_mem hil))))); (focus exact applyF hA)))
      exact Trace.nil _
    focus kernel_rfl
    simp only [Then, InBlock]
    refine AWP.goF hw ?_
    exact ⟨k + 1, by omega, by omega, Thin.to [] rfl rfl rfl rfl rfl (by simp [envIn, eget]) rfl⟩
  have hie1 : k = p.bufs.length := by simp at hc; omega
  subst hie1
  simp only [upto_all]
  refine AWP.goA ?_
  refine AWP.region ?_
  refine AOps.goA ?_
  refine AOps.appA (app32 hs.semas _ _ (by rfl)) ?_
  refine AOps.goA ?_
  refine AOps.endA ?_
  simp only [Then, InBlock]
  refine AWP.goA ?_
  refine AWP.loopT (fun k : Nat => ⟨0, Try.f26.ntmps, [(1, iv i), (2, .ptr 16 0 0), (4, .ptr 32 0 0), (7, iv k)], [(16, ⟨39, 15, false, [[iv p.mode, iv p.begun, iv p.next, Il p.mem, Pl p.procs, .osl 88 0 p.boards.length, .osl 280 0 p.bufs.length, .osl 472 0 p.semas.length, .lst (p.events.map encEvent), .lst (p.samples.map encSample), .lst (p.queues.map encQueue), iv p.lat0, Il p.lines, iv p.lat2, Il p.given]]⟩), (32, ⟨39, 15, true, [[.int .i64 0, .int .i64 0, .int .i64 0, .esl, .esl, .esl, .esl, .esl, .esl, .esl, .esl, .int .i64 0, .esl, .int .i64 0, .esl]]⟩), (88, ⟨78, 3, true, (p.boards.map (gBoard (noP i))).map encBoard⟩), (280, ⟨69, 4, true, (p.bufs.map (gBuf (noP i))).map encBuf⟩), (472, ⟨80, 4, true, (upto (gSema (noP i)) p.semas k).map encSema⟩)], []⟩) (fun k => k ≤ p.semas.length) (fun k => p.semas.length - k) 0 (by simp)
    (Thin.to [] rfl rfl rfl rfl rfl (by simp [envIn, eget, eput]) (by simp [upto_0, killsH])) ?_
  rintro k hk
  refine AWP.goA ?_
  refine AWP.condA ?_ ?_ <;> intro hc
  · have hil : k < p.semas.length := by simpa using hc
    have hix : ∀ (h : Heap) (kk : Nat), keySize h (.osl kk 0 p.semas.length) 4 = true → aindexAddr' T10 h 32 (.osl kk 0 p.semas.length) (k : Int) = some (.ptr kk k 0) := idxOb (e := 80) rfl rfl rfl hil
    have hld : ∀ (h : Heap) (kk : Nat), hget h kk = some ⟨80, 4, true, (upto (gSema (noP i)) p.semas k).map encSema⟩ → aload T10 h 67 (.ptr kk k 3) = some ⟨Wl p.semas[k].l, [], [kk], []⟩ := load_at (upto_get _ _ _ _ hil) rfl
    have hst : ∀ (fb nt : Nat) (env : Env) (heap : Heap) (kk : Nat), hget heap kk = some ⟨80, 4, true, (upto (gSema (noP i)) p.semas k).map encSema⟩ → astore T10 ⟨fb, nt, env, heap, []⟩ 67 (.ptr kk k 3) (Wl (noP i p.semas[k].l)) = some ⟨.tup [], [(kk, ⟨80, 4, true, (upto (gSema (noP i)) p.semas (k + 1)).map encSema⟩)], [kk], []⟩ := fun fb nt env heap kk hkk => by
      rw [← upto_set _ _ _ _ hil]
      exact store_at (cs := [Wl (noP i p.semas[k].l)]) (r := encSema p.semas[k]) rfl rfl (upto_get _ _ _ _ hil) rfl (by simp [encSema]) rfl rfl fb nt env heap kk hkk
    have hw := wrap_succ (show k < 9223372036854775807 by have := hs.semas; omega)
    have hA := And.intro hix (And.intro hld hst)
    refine AWP.goA ?_
    apply AWP.anyR Zz_mixed
    focus
      (repeat (apply Trace.cons; (focus (first | exact Loc.opF hA | exact Loc.conA (without65 p.semas[k].l i (hs.semaL _ (List.getElem_mem hil))))); (focus exact applyF hA)))
      exact Trace.nil _
    focus kernel_rfl
    simp only [Then, InBlock]
    refine AWP.goF hw ?_
    exact ⟨k + 1, by omega, by omega, Thin.to [] rfl rfl rfl rfl rfl (by simp [envIn, eget]) rfl⟩
  have hie2 : k = p.semas.length := by simp at hc; omega
  subst hie2
  simp only [upto_all]
  refine AWP.goA ?_
  refine AWP.region ?_
  refine AOps.goA ?_
  refine AOps.appA (app33 hs.events _ _ (by rfl)) ?_
  refine AOps.goA ?_
  refine AOps.endA ?_
  simp only [Then, InBlock]
  refine AWP.goA ?_
  refine AWP.loopT (fun k : Nat => ⟨0, Try.f26.ntmps, [(1, iv i), (2, .ptr 16 0 0), (4, .ptr 32 0 0), (8, iv k)], [(16, ⟨39, 15, false, [[iv p.mode, iv p.begun, iv p.next, Il p.mem, Pl p.procs, .osl 88 0 p.boards.length, .osl 280 0 p.bufs.length, .osl 472 0 p.semas.length, .osl 664 0 p.events.length, .lst (p.samples.map encSample), .lst (p.queues.map encQueue), iv p.lat0, Il p.lines, iv p.lat2, Il p.given]]⟩), (32, ⟨39, 15, true, [[.int .i64 0, .int .i64 0, .int .i64 0, .esl, .esl, .esl, .esl, .esl, .esl, .esl, .esl, .int .i64 0, .esl, .int .i64 0, .esl]]⟩), (88, ⟨78, 3, true, (p.boards.map (gBoard (noP i))).map encBoard⟩), (280, ⟨69, 4, true, (p.bufs.map (gBuf (noP i))).map encBuf⟩), (472, ⟨80, 4, true, (p.semas.map (gSema (noP i))).map encSema⟩), (664, ⟨82, 2, true, (upto (gEvent (noP i)) p.events k).map encEvent⟩)], []⟩) (fun k => k ≤ p.events.length) (fun k => p.events.length - k) 0 (by simp)
    (Thin.to [] rfl rfl rfl rfl rfl (by simp [envIn, eget, eput]) (by simp [upto_0, killsH])) ?_
  rintro k hk
  refine AWP.goA ?_
  refine AWP.condA ?_ ?_ <;> intro hc
  · have hil : k < p.events.length := by simpa using hc
    have hix : ∀ (h : Heap) (kk : Nat), keySize h (.osl kk 0 p.events.length) 2 = true → aindexAddr' T10 h 33 (.osl kk 0 p.events.length) (k : Int) = some (.ptr kk k 0) := idxOb (e := 82) rfl rfl rfl hil
    have hld : ∀ (h : Heap) (kk : Nat), hget h kk = some ⟨82, 2, true, (upto (gEvent (noP i)) p.events k).map encEvent⟩ → aload T10 h 67 (.ptr kk k 1) = some ⟨Wl p.events[k].l, [], [kk], []⟩ := load_at (upto_get _ _ _ _ hil) rfl
    have hst : ∀ (fb nt : Nat) (env : Env) (heap : Heap) (kk : Nat), hget heap kk = some ⟨82, 2, true, (upto (gEvent (noP i)) p.events k).map encEvent⟩ → astore T10 ⟨fb, nt, env, heap, []⟩ 67 (.ptr kk k 1) (Wl (noP i p.events[k].l)) = some ⟨.tup [], [(kk, ⟨82, 2, true, (upto (gEvent (noP i)) p.events (k + 1)).map encEvent⟩)], [kk], []⟩ := fun fb nt env heap kk hkk => by
      rw [← upto_set _ _ _ _ hil]
      exact store_at (cs := [Wl (noP i p.events[k].l)]) (r := encEvent p.events[k]) rfl rfl (upto_get _ _ _ _ hil) rfl (by simp [encEvent]) rfl rfl fb nt env heap kk hkk
    have hw := wrap_succ (show k < 9223372036854775807 by have := hs.events; omega)
    have hA := And.intro hix (And.intro hld hst)
    refine AWP.goA ?_
    apply AWP.anyR Zz_mixed
    focus
      (repeat (apply Trace.cons; (focus (first | exact Loc.opF hA | exact Loc.conA (without65 p.events[k].l i (hs.eventL _ (List.getElem_mem hil))))); (focus exact applyF hA)))
      exact Trace.nil _
    focus kernel_rfl
    simp only [Then, InBlock]
    refine AWP.goF hw ?_
    exact ⟨k + 1, by omega, by omega, Thin.to [] rfl rfl rfl rfl rfl (by simp [envIn, eget]) rfl⟩
  have hie3 : k = p.events.length := by simp at hc; omega
  subst hie3
  simp only [upto_all]
  refine AWP.goA ?_
  refine AWP.ret ?_
  exact ⟨trivial, [], by simp, .agg [iv p.mode, iv p.begun, iv p.next, Il p.mem, Pl p.procs, .osl 88 0 p.boards.length, .osl 280 0 p.bufs.length, .osl 472 0 p.semas.length, .osl 664 0 p.events.length, .lst (p.samples.map encSample), .lst (p.queues.map encQueue), iv p.lat0, Il p.lines, iv p.lat2, Il p.given], rfl, by simp [convA, convL, idxIn, hget, lsA, lsL, List.take_of_length_le, leaveP, gPart], rfl, rfl⟩
end Go.Qd
