/- A part of the library of this claim: rules of an abstract machine (values in place of addresses), proved against the model, and contracts of the functions. -/
import Derived.Test.YtkenbgmadkelcaaW13
set_option linter.unusedVariables false
set_option linter.unusedSimpArgs false
set_option maxHeartbeats 8000000
set_option maxRecDepth 10000
namespace Go.Qd
open Go Go.Proofs
def suspendP (c : Conf) (p : Part) (n : Nat) : Part × Int := match c.procs[n]? with
  | none => (p, 3)
  | some f => match p.procs[n]? with
    | none => (p, 3)
    | some x => if x.state = 0 ∨ 0 < f.period then (p, 4) else if x.susp = true then (p, 1) else (setP p n { x with susp := true }, 0)
def resumeP (p : Part) (n : Nat) : Part × Int := match p.procs[n]? with
  | none => (p, 3)
  | some x => if x.state = 0 then (p, 4) else if x.susp = true then (if x.state = 1 then queueP p n { x with susp := false } else setP p n { x with susp := false }, 0) else (p, 1)
def prioP (p : Part) (n : Nat) (v : Int) : Part × Int := if v < 0 ∨ 15 < v then (p, 3) else match p.procs[n]? with
  | none => (p, 3)
  | some x => if x.state = 0 then (p, 4) else (if x.state = 1 then queueP p n { x with prio := v } else setP p n { x with prio := v }, 0)
def blockP (p : Part) (n : Nat) (kind obj till call : Int) : Part := match p.procs[n]? with
  | none => p
  | some x => if x.state = 1 then setP p n { x with state := 2, kind := kind, obj := obj, till := till, call := call } else p
def goP (p : Part) (n : Nat) (code value : Int) : Part × Int := match p.procs[n]? with
  | none => (p, 3)
  | some x => if x.state = 2 then (queueP p n { x with state := 1, till := -1, kind := 0, obj := 0, pend := true, code := code, value := value, r0 := code, r1 := value }, 0) else (p, 1)
def stopP (p : Part) (n : Nat) : Part × Int := match p.procs[n]? with
  | none => (p, 3)
  | some x => if x.state = 0 then (p, 1) else (setP (leaveP n p) n (dormP x.prio), 0)
theorem on47_suspend (c : Conf) (p : Part) (n : Nat) (hs : Small 1000000 p) (hn : n < p.procs.length) : Con Try.prog 47 [Pa p, iv n, .fn 67 [] [.vptr [iv n], .vptr (encConf c)]]
    (.tup [PaO 0 (suspendP c p n).1, iv (suspendP c p n).2]) [pObj (suspendP c p n).1.procs] := by
  refine ⟨⟨_, _, Try.func47, rfl, by decide⟩, ICall.of_body' T10_ok ⟨Try.func47, rfl, by decide⟩ (by simp [Try.f47]) ?_⟩
  refine AWP.goA ?_
  refine AWP.goC (own29O p hs) ?_
  have hd : decide ((n : Int) < 0) = false := by simp
  refine AWP.goF hd ?_
  refine AWP.condA ?_ ?_ <;> intro hc
  · simp at hc; omega
  have hix := idxP (l := p.procs) hn
  refine AWP.goF hix ?_
  refine AWP.region ?_
  refine AOps.goF hix ?_
  refine AOps.inlineL T10_ok M10_ok rfl rfl (by (simp only [acall, aev, aevs, eget, reduceIte, Nat.reduceEqDiff, Option.getD, List.append_nil, List.nil_append, List.cons_append]) <;> rfl) ⟨Try.func67, rfl, by decide⟩ (by simp [Try.f67]) ?_
  refine AWP.enterF (show Try.f47.ntmps = 30 from rfl) ?_
  obtain ⟨x, hx⟩ : ∃ x, p.procs[n] = x := ⟨_, rfl⟩
  have hx0 : p.procs[n]? = some x := by rw [List.getElem?_eq_getElem hn, hx]
  refine AWP.goA ?_
  refine AWP.condA ?_ ?_ <;> intro hc1
  · have hcn : c.procs.length ≤ n := by simpa using hc1
    have e : suspendP c p n = (p, 3) := by unfold suspendP; rw [List.getElem?_eq_none hcn]
    refine AWP.goA ?_
    refine AWP.ret ?_
    refine ⟨trivial, iv 3, rfl, [], rfl, ?_⟩
    refine AOps.backF (show Try.f47.ntmps = 30 from rfl) ?_
    refine AOps.goA ?_
    refine AOps.endA ?_
    simp only [Then]
    refine AWP.goA ?_
    refine AWP.ret ?_
    exact ⟨trivial, [88], by simp, .tup [PaM 88 p.procs.length p, iv 3], rfl, by rw [e]; simp [convA, convL, idxIn, lsA, lsL, queueP, setP], by rw [e]; rfl, rfl⟩
  have hcl : n < c.procs.length := by simpa using hc1
  have hidf := idxF (l := c.procs) hcl
  obtain ⟨fa, fb, fc, fd, fe, hff⟩ : ∃ a b c' d e, c.procs[n] = ⟨a, b, c', d, e⟩ := ⟨_, _, _, _, _, rfl⟩
  rw [hff] at hidf
  simp only [encPConf] at hidf
  have hl0 := ldP (q := 0) (t := 3) (v := iv x.state) hx0 rfl
  have hl2 := ldP (q := 2) (t := 4) (v := .bool x.susp) hx0 rfl
  have e0 : suspendP c p n = if x.state = 0 ∨ 0 < fb then (p, 4) else if x.susp = true then (p, 1) else (setP p n { x with susp := true }, 0) := by
    unfold suspendP; rw [List.getElem?_eq_getElem hcl, hx0, hff]
  have st := stP (q := 2) (t := 4) (v := .bool true) { x with susp := true } hx0 rfl rfl rfl (by simp) rfl rfl
  have hA0 := And.intro hl0 (And.intro hl2 hidf)
  by_cases h0 : x.state = 0
  · have hb : (x.state == 0) = true := by simpa using h0
    have e : suspendP c p n = (p, 4) := by rw [e0, if_pos (.inl h0)]
    refine AWP.goF (And.intro hb hA0) ?_
    refine AWP.condA ?_ ?_ <;> intro hc2
    · refine AWP.goA ?_
      refine AWP.ret ?_
      refine ⟨trivial, iv 4, rfl, [], rfl, ?_⟩
      refine AOps.backF (show Try.f47.ntmps = 30 from rfl) ?_
      refine AOps.goA ?_
      refine AOps.endA ?_
      simp only [Then]
      refine AWP.goA ?_
      refine AWP.ret ?_
      exact ⟨trivial, [88], by simp, .tup [PaM 88 p.procs.length p, iv 4], rfl, by rw [e]; simp [convA, convL, idxIn, lsA, lsL, queueP, setP], by rw [e]; rfl, rfl⟩
    · simp at hc2
  · have hb : (x.state == 0) = false := by simpa using h0
    refine AWP.goF (And.intro hb hA0) ?_
    refine AWP.condA ?_ ?_ <;> intro hc2
    · have e : suspendP c p n = (p, 4) := by rw [e0, if_pos (.inr (by simpa using hc2))]
      refine AWP.goA ?_
      refine AWP.ret ?_
      refine ⟨trivial, iv 4, rfl, [], rfl, ?_⟩
      refine AOps.backF (show Try.f47.ntmps = 30 from rfl) ?_
      refine AOps.goA ?_
      refine AOps.endA ?_
      simp only [Then]
      refine AWP.goA ?_
      refine AWP.ret ?_
      exact ⟨trivial, [88], by simp, .tup [PaM 88 p.procs.length p, iv 4], rfl, by rw [e]; simp [convA, convL, idxIn, lsA, lsL, queueP, setP], by rw [e]; rfl, rfl⟩
    have h1 : ¬ 0 < fb := by simpa using hc2
    refine AWP.goF hA0 ?_
    refine AWP.condA ?_ ?_ <;> intro hc3
    · have e : suspendP c p n = (p, 1) := by rw [e0, if_neg (fun h => h.elim h0 h1), if_pos hc3]
      refine AWP.goA ?_
      refine AWP.ret ?_
      refine ⟨trivial, iv 1, rfl, [], rfl, ?_⟩
      refine AOps.backF (show Try.f47.ntmps = 30 from rfl) ?_
      refine AOps.goA ?_
      refine AOps.endA ?_
      simp only [Then]
      refine AWP.goA ?_
      refine AWP.ret ?_
      exact ⟨trivial, [88], by simp, .tup [PaM 88 p.procs.length p, iv 1], rfl, by rw [e]; simp [convA, convL, idxIn, lsA, lsL, queueP, setP], by rw [e]; rfl, rfl⟩
    have e : suspendP c p n = (setP p n { x with susp := true }, 0) := by rw [e0, if_neg (fun h => h.elim h0 h1), if_neg (by simpa using hc3)]
    simp only [List.take_succ_cons, List.take_zero, List.drop_succ_cons, List.drop_zero, keysL, keysA, List.append_nil, List.nil_append, splice_zero_cons, splice_zero_nil, splice_succ, AV.closedAll, AV.closed, Bool.and_true, Bool.and_self]
    refine AWP.goF (And.intro st hA0) ?_
    refine AWP.ret ?_
    refine ⟨trivial, iv 0, rfl, [], rfl, ?_⟩
    refine AOps.backF (show Try.f47.ntmps = 30 from rfl) ?_
    refine AOps.goA ?_
    refine AOps.endA ?_
    simp only [Then]
    refine AWP.goA ?_
    refine AWP.ret ?_
    exact ⟨trivial, [88], by simp, .tup [PaM 88 p.procs.length (setP p n { x with susp := true }), iv 0], rfl, by rw [e]; simp [convA, convL, idxIn, lsA, lsL, queueP, setP], by rw [e]; rfl, rfl⟩
theorem on47_resume (p : Part) (n : Nat) (hs : Small 1000000 p) (hn : n < p.procs.length) : Con Try.prog 47 [Pa p, iv n, .fn 68 [] []]
    (.tup [PaO 0 (resumeP p n).1, iv (resumeP p n).2]) [pObj (resumeP p n).1.procs] := by
  refine ⟨⟨_, _, Try.func47, rfl, by decide⟩, ICall.of_body' T10_ok ⟨Try.func47, rfl, by decide⟩ (by simp [Try.f47]) ?_⟩
  refine AWP.goA ?_
  refine AWP.goC (own29O p hs) ?_
  have hd : decide ((n : Int) < 0) = false := by simp
  refine AWP.goF hd ?_
  refine AWP.condA ?_ ?_ <;> intro hc
  · simp at hc; omega
  have hix := idxP (l := p.procs) hn
  refine AWP.goF hix ?_
  refine AWP.region ?_
  refine AOps.goF hix ?_
  refine AOps.inlineL T10_ok M10_ok rfl rfl (by (simp only [acall, aev, aevs, eget, reduceIte, Nat.reduceEqDiff, Option.getD, List.append_nil, List.nil_append, List.cons_append]) <;> rfl) ⟨Try.func68, rfl, by decide⟩ (by simp [Try.f68]) ?_
  refine AWP.enterF (show Try.f47.ntmps = 30 from rfl) ?_
  obtain ⟨x, hx⟩ : ∃ x, p.procs[n] = x := ⟨_, rfl⟩
  have hx0 : p.procs[n]? = some x := by rw [List.getElem?_eq_getElem hn, hx]
  have hl0 := ldP (q := 0) (t := 3) (v := iv x.state) hx0 rfl
  have hl2 := ldP (q := 2) (t := 4) (v := .bool x.susp) hx0 rfl
  have e0 : resumeP p n = if x.state = 0 then (p, 4) else if x.susp = true then (if x.state = 1 then queueP p n { x with susp := false } else setP p n { x with susp := false }, 0) else (p, 1) := by
    unfold resumeP; rw [hx0]
  have st := stP (q := 2) (t := 4) (v := .bool false) { x with susp := false } hx0 rfl rfl rfl (by simp) rfl rfl
  have hl1 := ldP (l := p.procs.set n { x with susp := false }) (n := n) (x := { x with susp := false }) (q := 0) (t := 3) (v := iv x.state) (by simp [hn]) rfl
  have sq := stPs (q := 8) (t := 3) (v := iv p.next) (x := { x with susp := false }) { x with susp := false, since := p.next } hn rfl rfl rfl (by simp) rfl rfl
  refine AWP.goF hl0 ?_
  refine AWP.condA ?_ ?_ <;> intro hc1
  · have e : resumeP p n = (p, 4) := by rw [e0, if_pos (by simpa using hc1)]
    refine AWP.goA ?_
    refine AWP.ret ?_
    refine ⟨trivial, iv 4, rfl, [], rfl, ?_⟩
    refine AOps.backF (show Try.f47.ntmps = 30 from rfl) ?_
    refine AOps.goA ?_
    refine AOps.endA ?_
    simp only [Then]
    refine AWP.goA ?_
    refine AWP.ret ?_
    exact ⟨trivial, [88], by simp, .tup [PaM 88 p.procs.length p, iv 4], rfl, by rw [e]; simp [convA, convL, idxIn, lsA, lsL, queueP, setP], by rw [e]; rfl, rfl⟩
  rw [if_neg (by simpa using hc1)] at e0
  refine AWP.goF hl2 ?_
  refine AWP.condA ?_ ?_ <;> intro hc2
  · have e : resumeP p n = (p, 1) := by rw [e0, if_neg (by simpa using hc2)]
    refine AWP.goA ?_
    refine AWP.ret ?_
    refine ⟨trivial, iv 1, rfl, [], rfl, ?_⟩
    refine AOps.backF (show Try.f47.ntmps = 30 from rfl) ?_
    refine AOps.goA ?_
    refine AOps.endA ?_
    simp only [Then]
    refine AWP.goA ?_
    refine AWP.ret ?_
    exact ⟨trivial, [88], by simp, .tup [PaM 88 p.procs.length p, iv 1], rfl, by rw [e]; simp [convA, convL, idxIn, lsA, lsL, queueP, setP], by rw [e]; rfl, rfl⟩
  rw [if_pos (by simpa using hc2)] at e0
  simp only [List.take_succ_cons, List.take_zero, List.drop_succ_cons, List.drop_zero, keysL, keysA, List.append_nil, List.nil_append, splice_zero_cons, splice_zero_nil, splice_succ, AV.closedAll, AV.closed, Bool.and_true, Bool.and_self]
  refine AWP.goF (And.intro st hl1) ?_
  refine AWP.condA ?_ ?_ <;> intro hc3
  · have e := e0
    rw [if_pos (by simpa using hc3)] at e
    refine AWP.goA ?_
    refine AWP.region ?_
    refine AOps.goA ?_
    refine AOps.inlineL T10_ok M10_ok rfl rfl (by (simp only [acall, aev, aevs, eget, reduceIte, Nat.reduceEqDiff, Option.getD, List.append_nil, List.nil_append, List.cons_append]) <;> rfl) ⟨Try.func51, rfl, by decide⟩ (by simp [Try.f51]) ?_
    refine AWP.enterF (show Try.f68.ntmps = 28 from rfl) ?_
    refine AWP.goF sq ?_
    refine ⟨trivial, .tup [], rfl, [], rfl, ?_⟩
    refine AOps.backF (show Try.f68.ntmps = 28 from rfl) ?_
    refine AOps.goA ?_
    refine AOps.endA ?_
    simp only [Then]
    refine AWP.goA ?_
    refine AWP.ret ?_
    refine ⟨trivial, iv 0, rfl, [], rfl, ?_⟩
    refine AOps.backF (show Try.f47.ntmps = 30 from rfl) ?_
    refine AOps.goA ?_
    refine AOps.endA ?_
    simp only [Then]
    refine AWP.goA ?_
    refine AWP.ret ?_
    exact ⟨trivial, [88], by simp, .tup [PaM 88 p.procs.length (queueP p n { x with susp := false }), iv 0], rfl, by rw [e]; simp [convA, convL, idxIn, lsA, lsL, queueP, setP], by rw [e]; rfl, rfl⟩
  · have e := e0
    rw [if_neg (by simpa using hc3)] at e
    refine AWP.goA ?_
    refine AWP.ret ?_
    refine ⟨trivial, iv 0, rfl, [], rfl, ?_⟩
    refine AOps.backF (show Try.f47.ntmps = 30 from rfl) ?_
    refine AOps.goA ?_
    refine AOps.endA ?_
    simp only [Then]
    refine AWP.goA ?_
    refine AWP.ret ?_
    exact ⟨trivial, [88], by simp, .tup [PaM 88 p.procs.length (setP p n { x with susp := false }), iv 0], rfl, by rw [e]; simp [convA, convL, idxIn, lsA, lsL, queueP, setP], by rw [e]; rfl, rfl⟩
theorem on47_prio (p : Part) (n : Nat) (v : Int) (hs : Small 1000000 p) (hn : n < p.procs.length) : Con Try.prog 47 [Pa p, iv n, .fn 96 [] [.vptr [iv v]]]
    (.tup [PaO 0 (prioP p n v).1, iv (prioP p n v).2]) [pObj (prioP p n v).1.procs] := by
  refine ⟨⟨_, _, Try.func47, rfl, by decide⟩, ICall.of_body' T10_ok ⟨Try.func47, rfl, by decide⟩ (by simp [Try.f47]) ?_⟩
  refine AWP.goA ?_
  refine AWP.goC (own29O p hs) ?_
  have hd : decide ((n : Int) < 0) = false := by simp
  refine AWP.goF hd ?_
  refine AWP.condA ?_ ?_ <;> intro hc
  · simp at hc; omega
  have hix := idxP (l := p.procs) hn
  refine AWP.goF hix ?_
  refine AWP.region ?_
  refine AOps.goF hix ?_
  refine AOps.inlineL T10_ok M10_ok rfl rfl (by (simp only [acall, aev, aevs, eget, reduceIte, Nat.reduceEqDiff, Option.getD, List.append_nil, List.nil_append, List.cons_append]) <;> rfl) ⟨Try.func96, rfl, by decide⟩ (by simp [Try.f96]) ?_
  refine AWP.enterF (show Try.f47.ntmps = 30 from rfl) ?_
  obtain ⟨x, hx⟩ : ∃ x, p.procs[n] = x := ⟨_, rfl⟩
  have hx0 : p.procs[n]? = some x := by rw [List.getElem?_eq_getElem hn, hx]
  have hl0 := ldP (q := 0) (t := 3) (v := iv x.state) hx0 rfl
  have st := stP (q := 1) (t := 3) (v := iv v) { x with prio := v } hx0 rfl rfl rfl (by simp) rfl rfl
  have hl1 := ldP (l := p.procs.set n { x with prio := v }) (n := n) (x := { x with prio := v }) (q := 0) (t := 3) (v := iv x.state) (by simp [hn]) rfl
  have sq := stPs (q := 8) (t := 3) (v := iv p.next) (x := { x with prio := v }) { x with prio := v, since := p.next } hn rfl rfl rfl (by simp) rfl rfl
  by_cases h0 : v < 0
  · have hb : decide (v < 0) = true := by simpa using h0
    have e : prioP p n v = (p, 3) := by unfold prioP; rw [if_pos (.inl h0)]
    refine AWP.goF hb ?_
    refine AWP.condA ?_ ?_ <;> intro hc1
    · refine AWP.goA ?_
      refine AWP.ret ?_
      refine ⟨trivial, iv 3, rfl, [], rfl, ?_⟩
      refine AOps.backF (show Try.f47.ntmps = 30 from rfl) ?_
      refine AOps.goA ?_
      refine AOps.endA ?_
      simp only [Then]
      refine AWP.goA ?_
      refine AWP.ret ?_
      exact ⟨trivial, [88], by simp, .tup [PaM 88 p.procs.length p, iv 3], rfl, by rw [e]; simp [convA, convL, idxIn, lsA, lsL, queueP, setP], by rw [e]; rfl, rfl⟩
    · simp at hc1
  have hb : decide (v < 0) = false := by simpa using h0
  refine AWP.goF hb ?_
  refine AWP.condA ?_ ?_ <;> intro hc1
  · have e : prioP p n v = (p, 3) := by unfold prioP; rw [if_pos (.inr (by simpa using hc1))]
    refine AWP.goA ?_
    refine AWP.ret ?_
    refine ⟨trivial, iv 3, rfl, [], rfl, ?_⟩
    refine AOps.backF (show Try.f47.ntmps = 30 from rfl) ?_
    refine AOps.goA ?_
    refine AOps.endA ?_
    simp only [Then]
    refine AWP.goA ?_
    refine AWP.ret ?_
    exact ⟨trivial, [88], by simp, .tup [PaM 88 p.procs.length p, iv 3], rfl, by rw [e]; simp [convA, convL, idxIn, lsA, lsL, queueP, setP], by rw [e]; rfl, rfl⟩
  have h1 : ¬ 15 < v := by simpa using hc1
  have e0 : prioP p n v = if x.state = 0 then (p, 4) else (if x.state = 1 then queueP p n { x with prio := v } else setP p n { x with prio := v }, 0) := by
    unfold prioP; rw [if_neg (fun h => h.elim h0 h1), hx0]
  refine AWP.goF hl0 ?_
  refine AWP.condA ?_ ?_ <;> intro hc2
  · have e : prioP p n v = (p, 4) := by rw [e0, if_pos (by simpa using hc2)]
    refine AWP.goA ?_
    refine AWP.ret ?_
    refine ⟨trivial, iv 4, rfl, [], rfl, ?_⟩
    refine AOps.backF (show Try.f47.ntmps = 30 from rfl) ?_
    refine AOps.goA ?_
    refine AOps.endA ?_
    simp only [Then]
    refine AWP.goA ?_
    refine AWP.ret ?_
    exact ⟨trivial, [88], by simp, .tup [PaM 88 p.procs.length p, iv 4], rfl, by rw [e]; simp [convA, convL, idxIn, lsA, lsL, queueP, setP], by rw [e]; rfl, rfl⟩
  rw [if_neg (by simpa using hc2)] at e0
  simp only [List.take_succ_cons, List.take_zero, List.drop_succ_cons, List.drop_zero, keysL, keysA, List.append_nil, List.nil_append, splice_zero_cons, splice_zero_nil, splice_succ, AV.closedAll, AV.closed, Bool.and_true, Bool.and_self]
  refine AWP.goF (And.intro st hl1) ?_
  refine AWP.condA ?_ ?_ <;> intro hc3
  · have e := e0
    rw [if_pos (by simpa using hc3)] at e
    refine AWP.goA ?_
    refine AWP.region ?_
    refine AOps.goA ?_
    refine AOps.inlineL T10_ok M10_ok rfl rfl (by (simp only [acall, aev, aevs, eget, reduceIte, Nat.reduceEqDiff, Option.getD, List.append_nil, List.nil_append, List.cons_append]) <;> rfl) ⟨Try.func51, rfl, by decide⟩ (by simp [Try.f51]) ?_
    refine AWP.enterF (show Try.f96.ntmps = 31 from rfl) ?_
    refine AWP.goF sq ?_
    refine ⟨trivial, .tup [], rfl, [], rfl, ?_⟩
    refine AOps.backF (show Try.f96.ntmps = 31 from rfl) ?_
    refine AOps.goA ?_
    refine AOps.endA ?_
    simp only [Then]
    refine AWP.goA ?_
    refine AWP.ret ?_
    refine ⟨trivial, iv 0, rfl, [], rfl, ?_⟩
    refine AOps.backF (show Try.f47.ntmps = 30 from rfl) ?_
    refine AOps.goA ?_
    refine AOps.endA ?_
    simp only [Then]
    refine AWP.goA ?_
    refine AWP.ret ?_
    exact ⟨trivial, [88], by simp, .tup [PaM 88 p.procs.length (queueP p n { x with prio := v }), iv 0], rfl, by rw [e]; simp [convA, convL, idxIn, lsA, lsL, queueP, setP], by rw [e]; rfl, rfl⟩
  · have e := e0
    rw [if_neg (by simpa using hc3)] at e
    refine AWP.goA ?_
    refine AWP.ret ?_
    refine ⟨trivial, iv 0, rfl, [], rfl, ?_⟩
    refine AOps.backF (show Try.f47.ntmps = 30 from rfl) ?_
    refine AOps.goA ?_
    refine AOps.endA ?_
    simp only [Then]
    refine AWP.goA ?_
    refine AWP.ret ?_
    exact ⟨trivial, [88], by simp, .tup [PaM 88 p.procs.length (setP p n { x with prio := v }), iv 0], rfl, by rw [e]; simp [convA, convL, idxIn, lsA, lsL, queueP, setP], by rw [e]; rfl, rfl⟩
end Go.Qd
