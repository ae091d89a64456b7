/- A part of the library of this claim: rules of an abstract machine (values in place of addresses), proved against the model, and contracts of the functions. -/
import Derived.Test.YtkenbgmadkelcaaW12
set_option linter.unusedVariables false
set_option linter.unusedSimpArgs false
set_option maxHeartbeats 8000000
set_option maxRecDepth 10000
namespace Go.Qd
open Go Go.Proofs
/-- A partition, with the length of its processes' list by itself. -/
abbrev PaM (k m : Nat) (p : Part) : AV := .agg [iv p.mode, iv p.begun, iv p.next, Il p.mem, .osl k 0 m, .lst (p.boards.map encBoard), .lst (p.bufs.map encBuf), .lst (p.semas.map encSema), .lst (p.events.map encEvent), .lst (p.samples.map encSample), .lst (p.queues.map encQueue), iv p.lat0, Il p.lines, iv p.lat2, Il p.given]
def nextP (p : Part) : Int := IntKind.i64.wrap (p.next + 1)
/-- A partition with another process, queued. -/
def queueP (p : Part) (n : Nat) (x : Proc) : Part := { p with procs := p.procs.set n { x with since := p.next }, next := nextP p }
def setP (p : Part) (n : Nat) (x : Proc) : Part := { p with procs := p.procs.set n x }
def startP (c : Conf) (p : Part) (n : Nat) (now : Int) : Part × Int := match c.procs[n]? with
  | none => (p, 3)
  | some f => match p.procs[n]? with
    | none => (p, 3)
    | some x => if x.state = 0 then (queueP p n { dormP f.prio with state := 1, pc := f.entry, due := behindP now f.limit, next := behindP now f.period }, 0) else (p, 1)
theorem on47_start (c : Conf) (p : Part) (n : Nat) (now : Int) (hs : Small 1000000 p) (hn : n < p.procs.length) : Con Try.prog 47 [Pa p, iv n, .fn 48 [] [.vptr [iv n], .vptr (encConf c), .vptr [iv now]]]
    (.tup [PaO 0 (startP c p n now).1, iv (startP c p n now).2]) [pObj (startP c p n now).1.procs] := by
  refine ⟨⟨_, _, Try.func47, rfl, by decide⟩, ICall.of_body' T10_ok ⟨Try.func47, rfl, by decide⟩ (by simp [Try.f47]) ?_⟩
  refine AWP.goA ?_
  refine AWP.goC (own29O p hs) ?_
  have hd : decide ((n : Int) < 0) = false := by simp
  refine AWP.goF hd ?_
  refine AWP.condA ?_ ?_ <;> intro hc
  · simp at hc; omega
  have hix := idxP (l := p.procs) hn
  refine AWP.goF hix ?_
  refine AWP.region ?_
  refine AOps.goF hix ?_
  refine AOps.inlineL T10_ok M10_ok rfl rfl (by (simp only [acall, aev, aevs, eget, reduceIte, Nat.reduceEqDiff, Option.getD, List.append_nil, List.nil_append, List.cons_append]) <;> rfl) ⟨Try.func48, rfl, by decide⟩ (by simp [Try.f48]) ?_
  refine AWP.enterF (show Try.f47.ntmps = 30 from rfl) ?_
  obtain ⟨x, hx⟩ : ∃ x, p.procs[n] = x := ⟨_, rfl⟩
  have hx0 : p.procs[n]? = some x := by rw [List.getElem?_eq_getElem hn, hx]
  refine AWP.goA ?_
  refine AWP.condA ?_ ?_ <;> intro hc1
  · have hcn : c.procs.length ≤ n := by simpa using hc1
    have e : startP c p n now = (p, 3) := by unfold startP; rw [List.getElem?_eq_none hcn]
    refine AWP.goA ?_
    refine AWP.ret ?_
    refine ⟨trivial, iv 3, rfl, [], rfl, ?_⟩
    refine AOps.backF (show Try.f47.ntmps = 30 from rfl) ?_
    refine AOps.goA ?_
    refine AOps.endA ?_
    simp only [Then]
    refine AWP.goA ?_
    refine AWP.ret ?_
    exact ⟨trivial, [88], by simp, .tup [PaM 88 p.procs.length p, iv 3], rfl, by rw [e]; simp [convA, convL, idxIn, lsA, lsL, queueP, setP], by rw [e]; rfl, rfl⟩
  have hcl : n < c.procs.length := by simpa using hc1
  have hidf := idxF (l := c.procs) hcl
  have hl0 := ldP (q := 0) (t := 3) (v := iv x.state) hx0 rfl
  refine AWP.goF hl0 ?_
  refine AWP.condA ?_ ?_ <;> intro hc2
  · have e : startP c p n now = (p, 1) := by
      unfold startP; rw [List.getElem?_eq_getElem hcl, hx0]
      simp only
      rw [if_neg (by simpa using hc2)]
    refine AWP.goA ?_
    refine AWP.ret ?_
    refine ⟨trivial, iv 1, rfl, [], rfl, ?_⟩
    refine AOps.backF (show Try.f47.ntmps = 30 from rfl) ?_
    refine AOps.goA ?_
    refine AOps.endA ?_
    simp only [Then]
    refine AWP.goA ?_
    refine AWP.ret ?_
    exact ⟨trivial, [88], by simp, .tup [PaM 88 p.procs.length p, iv 1], rfl, by rw [e]; simp [convA, convL, idxIn, lsA, lsL, queueP, setP], by rw [e]; rfl, rfl⟩
  obtain ⟨fa, fb, fc, fd, fe, hff⟩ : ∃ a b c' d e, c.procs[n] = ⟨a, b, c', d, e⟩ := ⟨_, _, _, _, _, rfl⟩
  rw [hff] at hidf
  simp only [encPConf] at hidf
  have e : startP c p n now = (queueP p n { dormP fa with state := 1, pc := fd, due := behindP now fc, next := behindP now fb }, 0) := by
    unfold startP; rw [List.getElem?_eq_getElem hcl, hx0, hff]
    simp only
    rw [if_pos (by simpa using hc2)]
  have cd := dormant49 fa
  have s1 := stP (q := 0) (t := 49) (v := .agg (encProc (dormP fa))) (dormP fa) hx0 rfl rfl rfl (Nat.le_refl _) rfl rfl
  have s2 := stPs (q := 0) (t := 3) (v := iv 1) (x := dormP fa) { dormP fa with state := 1 } hn rfl rfl rfl (by simp) rfl rfl
  have s3 := stPs (q := 3) (t := 3) (v := iv fd) (x := { dormP fa with state := 1 }) { dormP fa with state := 1, pc := fd } hn rfl rfl rfl (by simp) rfl rfl
  have s4 := stPs (q := 12) (t := 3) (v := iv (behindP now fc)) (x := { dormP fa with state := 1, pc := fd }) { dormP fa with state := 1, pc := fd, due := behindP now fc } hn rfl rfl rfl (by simp) rfl rfl
  have s5 := stPs (q := 13) (t := 3) (v := iv (behindP now fb)) (x := { dormP fa with state := 1, pc := fd, due := behindP now fc }) { dormP fa with state := 1, pc := fd, due := behindP now fc, next := behindP now fb } hn rfl rfl rfl (by simp) rfl rfl
  have s6 := stPs (q := 8) (t := 3) (v := iv p.next) (x := { dormP fa with state := 1, pc := fd, due := behindP now fc, next := behindP now fb }) { dormP fa with state := 1, pc := fd, due := behindP now fc, next := behindP now fb, since := p.next } hn rfl rfl rfl (by simp) rfl rfl
  simp only [encProc, dormP] at cd s1
  simp only [dormP] at s2 s3 s4 s5 s6 e
  have hA := And.intro s2 (And.intro s3 (And.intro s4 s5))
  refine AWP.goF hidf ?_
  simp only [List.take_succ_cons, List.take_zero, List.drop_succ_cons, List.drop_zero, keysL, keysA, List.append_nil, List.nil_append, splice_zero_cons, splice_zero_nil, splice_succ, AV.closedAll, AV.closed, Bool.and_true, Bool.and_self]
  refine AWP.goFC s1 cd ?_
  apply AWP.anyR Zz_mixed
  focus
    (repeat (apply Trace.cons; (focus (first | exact Loc.opF hA)); (focus exact applyF hA)))
    exact Trace.nil _
  focus kernel_rfl
  simp only [Then]
  refine AWP.goA ?_
  apply AWP.anyR Zz_mixed
  focus
    (repeat (apply Trace.cons; (focus (first | exact Loc.opF hA | exact Loc.conA (behind50 now fc) | exact Loc.conA (behind50 now fb))); (focus exact applyF hA)))
    exact Trace.nil _
  focus kernel_rfl
  simp only [Then]
  refine AWP.goA ?_
  refine AWP.region ?_
  refine AOps.goA ?_
  refine AOps.inlineL T10_ok M10_ok rfl rfl (by (simp only [acall, aev, aevs, eget, reduceIte, Nat.reduceEqDiff, Option.getD, List.append_nil, List.nil_append, List.cons_append]) <;> rfl) ⟨Try.func51, rfl, by decide⟩ (by simp [Try.f51]) ?_
  refine AWP.enterF (show Try.f48.ntmps = 57 from rfl) ?_
  refine AWP.goF s6 ?_
  refine ⟨trivial, .tup [], rfl, [], rfl, ?_⟩
  refine AOps.backF (show Try.f48.ntmps = 57 from rfl) ?_
  refine AOps.goA ?_
  refine AOps.endA ?_
  simp only [Then]
  refine AWP.goA ?_
  refine AWP.ret ?_
  refine ⟨trivial, iv 0, rfl, [], rfl, ?_⟩
  refine AOps.backF (show Try.f47.ntmps = 30 from rfl) ?_
  refine AOps.goA ?_
  refine AOps.endA ?_
  simp only [Then]
  refine AWP.goA ?_
  refine AWP.ret ?_
  exact ⟨trivial, [88], by simp, .tup [PaM 88 p.procs.length (queueP p n { state := 1, prio := fa, susp := false, pc := fd, r0 := 0, r1 := 0, r2 := 0, r3 := 0, since := 0, till := -1, kind := 0, obj := 0, due := behindP now fc, next := behindP now fb, pend := false, code := 0, value := 0, call := 0 }), iv 0], rfl, by rw [e]; simp [convA, convL, idxIn, lsA, lsL, queueP, setP], by rw [e]; rfl, rfl⟩
end Go.Qd
