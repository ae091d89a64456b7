/- A part of the library of this claim: rules of an abstract machine (values in place of addresses), proved against the model, and contracts of the functions. -/
import Derived.Test.YtkenbgmadkelcaaW18
set_option linter.unusedVariables false
set_option linter.unusedSimpArgs false
set_option maxHeartbeats 8000000
set_option maxRecDepth 10000
namespace Go.Qd
open Go Go.Proofs
theorem there_in {p : Part} {n : Nat} (hn : n < p.procs.length) : thereB p n = true := by simp [thereB]; omega
theorem there_out {p : Part} {i : Int} (h : i < 0 ∨ (p.procs.length : Int) ≤ i) : thereB p i = false := by
  unfold thereB
  rcases h with h | h
  · have : decide (i ≥ 0) = false := by simpa using h
    rw [this]; rfl
  · have : decide (i < p.procs.length) = false := by simpa using h
    rw [this, Bool.and_false]
/-- ref10.Block -/
theorem rblock22 (p : Part) (i kind obj till call : Int) (hs : p.procs.length ≤ 1000000) : Con Try.prog 22 [Pa p, iv i, iv kind, iv obj, iv till, iv call] (Pa (opQ (fun n => blockP p n kind obj till call) p i)) [] := by
  rcases inOut i p.procs.length with h | ⟨n, rfl, hn⟩
  · rw [opQ_out _ p i h]
    have c56 := there56 p i
    rw [there_out h] at c56
    refine ⟨⟨_, _, Try.func22, rfl, by decide⟩, ICall.of_body' T10_ok ⟨Try.func22, rfl, by decide⟩ (by simp [Try.f22]) ?_⟩
    refine AWP.goC c56 ?_
    refine AWP.condA ?_ ?_ <;> intro hc
    · refine AWP.goA ?_
      refine AWP.ret ?_
      exact ⟨trivial, [], by simp, Pa p, rfl, rfl, rfl, rfl⟩
    · cases hc
  · rw [opQ_in _ p n hn]
    have c56 := there56 p n
    rw [there_in hn] at c56
    obtain ⟨x, hx⟩ : ∃ x, p.procs[n] = x := ⟨_, rfl⟩
    have hx0 : p.procs[n]? = some x := by rw [List.getElem?_eq_getElem hn, hx]
    have hix := idx29 (l := p.procs) hn
    rw [hx] at hix
    simp only [encProc] at hix
    have e0 : blockP p n kind obj till call = if x.state = 1 then setP p n { x with state := 2, kind := kind, obj := obj, till := till, call := call } else p := by
      unfold blockP; rw [hx0]
    have c57 := with57 p n { x with state := 2, kind := kind, obj := obj, till := till, call := call } hs hn
    simp only [encProc] at c57
    refine ⟨⟨_, _, Try.func22, rfl, by decide⟩, ICall.of_body' T10_ok ⟨Try.func22, rfl, by decide⟩ (by simp [Try.f22]) ?_⟩
    refine AWP.goC c56 ?_
    refine AWP.condA ?_ ?_ <;> intro hc
    · cases hc
    refine AWP.goF hix ?_
    simp only [List.take_succ_cons, List.take_zero, List.drop_succ_cons, List.drop_zero, keysL, keysA, List.append_nil, List.nil_append, splice_zero_cons, splice_zero_nil, splice_succ, AV.closedAll, AV.closed, Bool.and_true, Bool.and_self]
    refine AWP.condA ?_ ?_ <;> intro hc2
    · rw [if_neg (by simpa using hc2)] at e0
      refine AWP.goA ?_
      refine AWP.ret ?_
      exact ⟨trivial, [], by simp, Pa p, rfl, by rw [e0]; rfl, rfl, rfl⟩
    · rw [if_pos (by simpa using hc2)] at e0
      rw [e0]
      refine AWP.goC c57 ?_
      refine AWP.ret ?_
      exact ⟨trivial, [], by simp, Pa (setP p n { x with state := 2, kind := kind, obj := obj, till := till, call := call }), rfl, rfl, rfl, rfl⟩
/-- ref10.Go -/
theorem rgo24 (p : Part) (i code value : Int) (hs : p.procs.length ≤ 1000000) : Con Try.prog 24 [Pa p, .agg [iv i, iv code, iv value]] (Pa (opQ (fun n => (goP p n code value).1) p i)) [] := by
  rcases inOut i p.procs.length with h | ⟨n, rfl, hn⟩
  · rw [opQ_out _ p i h]
    have c56 := there56 p i
    rw [there_out h] at c56
    refine ⟨⟨_, _, Try.func24, rfl, by decide⟩, ICall.of_body' T10_ok ⟨Try.func24, rfl, by decide⟩ (by simp [Try.f24]) ?_⟩
    refine AWP.goC c56 ?_
    refine AWP.condA ?_ ?_ <;> intro hc
    · refine AWP.goA ?_
      refine AWP.ret ?_
      exact ⟨trivial, [], by simp, Pa p, rfl, rfl, rfl, rfl⟩
    · cases hc
  · rw [opQ_in _ p n hn]
    have c56 := there56 p n
    rw [there_in hn] at c56
    obtain ⟨x, hx⟩ : ∃ x, p.procs[n] = x := ⟨_, rfl⟩
    have hx0 : p.procs[n]? = some x := by rw [List.getElem?_eq_getElem hn, hx]
    have hix := idx29 (l := p.procs) hn
    rw [hx] at hix
    simp only [encProc] at hix
    have e0 : (goP p n code value).1 = if x.state = 2 then queueP p n { x with state := 1, till := -1, kind := 0, obj := 0, pend := true, code := code, value := value, r0 := code, r1 := value } else p := by
      unfold goP; rw [hx0]; simp only; split <;> rfl
    have c59 := queued59 p { x with state := 1, till := -1, kind := 0, obj := 0, pend := true, code := code, value := value, r0 := code, r1 := value }
    have c57 := with57 { p with next := nextP p } n { x with state := 1, till := -1, kind := 0, obj := 0, pend := true, code := code, value := value, r0 := code, r1 := value, since := p.next } hs hn
    simp only [encProc] at c57 c59
    have ha0 : ∀ (h : Heap) (k : Nat), aindexAddr' T10 h 45 (.ptr k 0 4) 0 = some (.ptr k 0 4) := fun h k => rfl
    have ha1 : ∀ (h : Heap) (k : Nat), aindexAddr' T10 h 45 (.ptr k 0 4) 1 = some (.ptr k 0 5) := fun h k => rfl
    refine ⟨⟨_, _, Try.func24, rfl, by decide⟩, ICall.of_body' T10_ok ⟨Try.func24, rfl, by decide⟩ (by simp [Try.f24]) ?_⟩
    refine AWP.goC c56 ?_
    refine AWP.condA ?_ ?_ <;> intro hc
    · cases hc
    refine AWP.goF hix ?_
    simp only [List.take_succ_cons, List.take_zero, List.drop_succ_cons, List.drop_zero, keysL, keysA, List.append_nil, List.nil_append, splice_zero_cons, splice_zero_nil, splice_succ, AV.closedAll, AV.closed, Bool.and_true, Bool.and_self]
    refine AWP.condA ?_ ?_ <;> intro hc2
    · rw [if_neg (by simpa using hc2)] at e0
      refine AWP.goA ?_
      refine AWP.ret ?_
      exact ⟨trivial, [], by simp, Pa p, rfl, by rw [e0]; rfl, rfl, rfl⟩
    · rw [if_pos (by simpa using hc2)] at e0
      rw [e0]
      refine AWP.goFC (And.intro ha0 ha1) (And.intro c59 c57) ?_
      refine AWP.ret ?_
      exact ⟨trivial, [], by simp, Pa (queueP p n { x with state := 1, till := -1, kind := 0, obj := 0, pend := true, code := code, value := value, r0 := code, r1 := value }), rfl, rfl, rfl, rfl⟩
/-- ref10.Stop -/
theorem rstop71 (p : Part) (i : Int) (hs : Small 1000000 p) : Con Try.prog 71 [Pa p, iv i] (.tup [Pa (opP (fun n => stopP p n) p i).1, iv (opP (fun n => stopP p n) p i).2]) [] := by
  rcases inOut i p.procs.length with h | ⟨n, rfl, hn⟩
  · rw [opP_out _ p i h]
    have c56 := there56 p i
    rw [there_out h] at c56
    refine ⟨⟨_, _, Try.func71, rfl, by decide⟩, ICall.of_body' T10_ok ⟨Try.func71, rfl, by decide⟩ (by simp [Try.f71]) ?_⟩
    refine AWP.goC c56 ?_
    refine AWP.condA ?_ ?_ <;> intro hc
    · refine AWP.goA ?_
      refine AWP.ret ?_
      exact ⟨trivial, [], by simp, .tup [Pa p, iv 3], rfl, rfl, rfl, rfl⟩
    · cases hc
  · rw [opP_in _ p n hn]
    have c56 := there56 p n
    rw [there_in hn] at c56
    obtain ⟨x, hx⟩ : ∃ x, p.procs[n] = x := ⟨_, rfl⟩
    have hx0 : p.procs[n]? = some x := by rw [List.getElem?_eq_getElem hn, hx]
    have hix := idx29 (l := p.procs) hn
    rw [hx] at hix
    simp only [encProc] at hix
    have e0 : stopP p n = if x.state = 0 then (p, 1) else (setP (leaveP n p) n (dormP x.prio), 0) := by
      unfold stopP; rw [hx0]
    have c26 := leave26 p n hs
    have c66 := dormant66 x.prio
    have c57 := with57 (leaveP n p) n (dormP x.prio) hs.procs hn
    simp only [encProc, dormP] at c57 c66 e0
    refine ⟨⟨_, _, Try.func71, rfl, by decide⟩, ICall.of_body' T10_ok ⟨Try.func71, rfl, by decide⟩ (by simp [Try.f71]) ?_⟩
    refine AWP.goC c56 ?_
    refine AWP.condA ?_ ?_ <;> intro hc
    · cases hc
    refine AWP.goF hix ?_
    simp only [List.take_succ_cons, List.take_zero, List.drop_succ_cons, List.drop_zero, keysL, keysA, List.append_nil, List.nil_append, splice_zero_cons, splice_zero_nil, splice_succ, AV.closedAll, AV.closed, Bool.and_true, Bool.and_self]
    refine AWP.condA ?_ ?_ <;> intro hc2
    · rw [if_pos (by simpa using hc2)] at e0
      refine AWP.goA ?_
      refine AWP.ret ?_
      exact ⟨trivial, [], by simp, .tup [Pa p, iv 1], rfl, by rw [e0]; rfl, rfl, rfl⟩
    · rw [if_neg (by simpa using hc2)] at e0
      rw [e0]
      refine AWP.goFC hix (And.intro c26 (And.intro c66 c57)) ?_
      refine AWP.ret ?_
      exact ⟨trivial, [], by simp, .tup [Pa (setP (leaveP n p) n (dormP x.prio)), iv 0], rfl, rfl, rfl, rfl⟩
/-- ref10.Suspend -/
theorem rsuspend72 (c : Conf) (p : Part) (i : Int) (hs : Small 1000000 p) : Con Try.prog 72 [Cf c, Pa p, iv i] (.tup [Pa (opP (fun n => suspendP c p n) p i).1, iv (opP (fun n => suspendP c p n) p i).2]) [] := by
  rcases inOut i p.procs.length with h | ⟨n, rfl, hn⟩
  · rw [opP_out _ p i h]
    have c56 := there56 p i
    rw [there_out h] at c56
    refine ⟨⟨_, _, Try.func72, rfl, by decide⟩, ICall.of_body' T10_ok ⟨Try.func72, rfl, by decide⟩ (by simp [Try.f72]) ?_⟩
    refine AWP.goC c56 ?_
    refine AWP.condA ?_ ?_ <;> intro hc
    · refine AWP.goA ?_
      refine AWP.ret ?_
      exact ⟨trivial, [], by simp, .tup [Pa p, iv 3], rfl, rfl, rfl, rfl⟩
    · cases hc
  · rw [opP_in _ p n hn]
    have c56 := there56 p n
    rw [there_in hn] at c56
    obtain ⟨x, hx⟩ : ∃ x, p.procs[n] = x := ⟨_, rfl⟩
    have hx0 : p.procs[n]? = some x := by rw [List.getElem?_eq_getElem hn, hx]
    have hix := idx29 (l := p.procs) hn
    rw [hx] at hix
    simp only [encProc] at hix
    have c57 := with57 p n { x with susp := true } hs.procs hn
    simp only [encProc] at c57
    refine ⟨⟨_, _, Try.func72, rfl, by decide⟩, ICall.of_body' T10_ok ⟨Try.func72, rfl, by decide⟩ (by simp [Try.f72]) ?_⟩
    refine AWP.goC c56 ?_
    refine AWP.condA ?_ ?_ <;> intro hc
    · have hcn : c.procs.length ≤ n := by simpa using hc
      have e : suspendP c p n = (p, 3) := by unfold suspendP; rw [List.getElem?_eq_none hcn]
      refine AWP.goA ?_
      refine AWP.ret ?_
      exact ⟨trivial, [], by simp, .tup [Pa p, iv 3], rfl, by rw [e]; rfl, rfl, rfl⟩
    have hcl : n < c.procs.length := by simpa using hc
    have hidf := idxF (l := c.procs) hcl
    obtain ⟨fa, fb, fc, fd, fe, hff⟩ : ∃ a b c' d e, c.procs[n] = ⟨a, b, c', d, e⟩ := ⟨_, _, _, _, _, rfl⟩
    rw [hff] at hidf
    simp only [encPConf] at hidf
    have e0 : suspendP c p n = if x.state = 0 ∨ 0 < fb then (p, 4) else if x.susp = true then (p, 1) else (setP p n { x with susp := true }, 0) := by
      unfold suspendP; rw [List.getElem?_eq_getElem hcl, hx0, hff]
    by_cases h0 : x.state = 0
    · have hb : (x.state == 0) = true := by simpa using h0
      have e : suspendP c p n = (p, 4) := by rw [e0, if_pos (.inl h0)]
      refine AWP.goF (And.intro hb (And.intro hix hidf)) ?_
      simp only [List.take_succ_cons, List.take_zero, List.drop_succ_cons, List.drop_zero, keysL, keysA, List.append_nil, List.nil_append, splice_zero_cons, splice_zero_nil, splice_succ, AV.closedAll, AV.closed, Bool.and_true, Bool.and_self]
      refine AWP.goF (And.intro hb (And.intro hix hidf)) ?_
      refine AWP.condA ?_ ?_ <;> intro hc2
      · refine AWP.goA ?_
        refine AWP.ret ?_
        exact ⟨trivial, [], by simp, .tup [Pa p, iv 4], rfl, by rw [e]; rfl, rfl, rfl⟩
      · simp at hc2
    · have hb : (x.state == 0) = false := by simpa using h0
      refine AWP.goF (And.intro hb (And.intro hix hidf)) ?_
      simp only [List.take_succ_cons, List.take_zero, List.drop_succ_cons, List.drop_zero, keysL, keysA, List.append_nil, List.nil_append, splice_zero_cons, splice_zero_nil, splice_succ, AV.closedAll, AV.closed, Bool.and_true, Bool.and_self]
      refine AWP.goF (And.intro hb (And.intro hix hidf)) ?_
      refine AWP.condA ?_ ?_ <;> intro hc2
      · have e : suspendP c p n = (p, 4) := by rw [e0, if_pos (.inr (by simpa using hc2))]
        refine AWP.goA ?_
        refine AWP.ret ?_
        exact ⟨trivial, [], by simp, .tup [Pa p, iv 4], rfl, by rw [e]; rfl, rfl, rfl⟩
      have h1 : ¬ 0 < fb := by simpa using hc2
      refine AWP.goA ?_
      refine AWP.condA ?_ ?_ <;> intro hc3
      · have e : suspendP c p n = (p, 1) := by rw [e0, if_neg (fun h => h.elim h0 h1), if_pos hc3]
        refine AWP.goA ?_
        refine AWP.ret ?_
        exact ⟨trivial, [], by simp, .tup [Pa p, iv 1], rfl, by rw [e]; rfl, rfl, rfl⟩
      have e : suspendP c p n = (setP p n { x with susp := true }, 0) := by rw [e0, if_neg (fun h => h.elim h0 h1), if_neg (by simpa using hc3)]
      rw [e]
      refine AWP.goC c57 ?_
      refine AWP.ret ?_
      exact ⟨trivial, [], by simp, .tup [Pa (setP p n { x with susp := true }), iv 0], rfl, rfl, rfl, rfl⟩
/-- ref10.Resume -/
theorem rresume73 (p : Part) (i : Int) (hs : Small 1000000 p) : Con Try.prog 73 [Pa p, iv i] (.tup [Pa (opP (fun n => resumeP p n) p i).1, iv (opP (fun n => resumeP p n) p i).2]) [] := by
  rcases inOut i p.procs.length with h | ⟨n, rfl, hn⟩
  · rw [opP_out _ p i h]
    have c56 := there56 p i
    rw [there_out h] at c56
    refine ⟨⟨_, _, Try.func73, rfl, by decide⟩, ICall.of_body' T10_ok ⟨Try.func73, rfl, by decide⟩ (by simp [Try.f73]) ?_⟩
    refine AWP.goC c56 ?_
    refine AWP.condA ?_ ?_ <;> intro hc
    · refine AWP.goA ?_
      refine AWP.ret ?_
      exact ⟨trivial, [], by simp, .tup [Pa p, iv 3], rfl, rfl, rfl, rfl⟩
    · cases hc
  · rw [opP_in _ p n hn]
    have c56 := there56 p n
    rw [there_in hn] at c56
    obtain ⟨x, hx⟩ : ∃ x, p.procs[n] = x := ⟨_, rfl⟩
    have hx0 : p.procs[n]? = some x := by rw [List.getElem?_eq_getElem hn, hx]
    have hix := idx29 (l := p.procs) hn
    rw [hx] at hix
    simp only [encProc] at hix
    have c59 := queued59 p { x with susp := false }
    have c57a := with57 { p with next := nextP p } n { x with susp := false, since := p.next } hs.procs hn
    have c57b := with57 p n { x with susp := false } hs.procs hn
    simp only [encProc] at c57a c57b c59
    have e0 : resumeP p n = if x.state = 0 then (p, 4) else if x.susp = true then (if x.state = 1 then queueP p n { x with susp := false } else setP p n { x with susp := false }, 0) else (p, 1) := by
      unfold resumeP; rw [hx0]
    refine ⟨⟨_, _, Try.func73, rfl, by decide⟩, ICall.of_body' T10_ok ⟨Try.func73, rfl, by decide⟩ (by simp [Try.f73]) ?_⟩
    refine AWP.goC c56 ?_
    refine AWP.condA ?_ ?_ <;> intro hc
    · cases hc
    refine AWP.goF hix ?_
    simp only [List.take_succ_cons, List.take_zero, List.drop_succ_cons, List.drop_zero, keysL, keysA, List.append_nil, List.nil_append, splice_zero_cons, splice_zero_nil, splice_succ, AV.closedAll, AV.closed, Bool.and_true, Bool.and_self]
    refine AWP.condA ?_ ?_ <;> intro hc2
    · rw [if_pos (by simpa using hc2)] at e0
      refine AWP.goA ?_
      refine AWP.ret ?_
      exact ⟨trivial, [], by simp, .tup [Pa p, iv 4], rfl, by rw [e0]; rfl, rfl, rfl⟩
    rw [if_neg (by simpa using hc2)] at e0
    refine AWP.goA ?_
    refine AWP.condA ?_ ?_ <;> intro hc3
    · rw [if_neg (by simpa using hc3)] at e0
      refine AWP.goA ?_
      refine AWP.ret ?_
      exact ⟨trivial, [], by simp, .tup [Pa p, iv 1], rfl, by rw [e0]; rfl, rfl, rfl⟩
    rw [if_pos (by simpa using hc3)] at e0
    refine AWP.goA ?_
    refine AWP.condA ?_ ?_ <;> intro hc9
    · rw [if_pos (by simpa using hc9)] at e0
      rw [e0]
      refine AWP.goC c59 ?_
      simp only [List.take_succ_cons, List.take_zero, List.drop_succ_cons, List.drop_zero, keysL, keysA, List.append_nil, List.nil_append, splice_zero_cons, splice_zero_nil, splice_succ, AV.closedAll, AV.closed, Bool.and_true, Bool.and_self]
      refine AWP.goC c57a ?_
      refine AWP.ret ?_
      exact ⟨trivial, [], by simp, .tup [Pa (queueP p n { x with susp := false }), iv 0], rfl, rfl, rfl, rfl⟩
    · rw [if_neg (by simpa using hc9)] at e0
      rw [e0]
      refine AWP.goC c57b ?_
      refine AWP.ret ?_
      exact ⟨trivial, [], by simp, .tup [Pa (setP p n { x with susp := false }), iv 0], rfl, rfl, rfl, rfl⟩
/-- ref10.Prio -/
theorem rprio74 (p : Part) (i v : Int) (hs : Small 1000000 p) : Con Try.prog 74 [Pa p, iv i, iv v] (.tup [Pa (opP (fun n => prioP p n v) p i).1, iv (opP (fun n => prioP p n v) p i).2]) [] := by
  rcases inOut i p.procs.length with h | ⟨n, rfl, hn⟩
  · rw [opP_out _ p i h]
    have c56 := there56 p i
    rw [there_out h] at c56
    refine ⟨⟨_, _, Try.func74, rfl, by decide⟩, ICall.of_body' T10_ok ⟨Try.func74, rfl, by decide⟩ (by simp [Try.f74]) ?_⟩
    refine AWP.goC c56 ?_
    refine AWP.condA ?_ ?_ <;> intro hc
    · refine AWP.goA ?_
      refine AWP.ret ?_
      exact ⟨trivial, [], by simp, .tup [Pa p, iv 3], rfl, rfl, rfl, rfl⟩
    · cases hc
  · rw [opP_in _ p n hn]
    have c56 := there56 p n
    rw [there_in hn] at c56
    obtain ⟨x, hx⟩ : ∃ x, p.procs[n] = x := ⟨_, rfl⟩
    have hx0 : p.procs[n]? = some x := by rw [List.getElem?_eq_getElem hn, hx]
    have hix := idx29 (l := p.procs) hn
    rw [hx] at hix
    simp only [encProc] at hix
    have c59 := queued59 p { x with prio := v }
    have c57a := with57 { p with next := nextP p } n { x with prio := v, since := p.next } hs.procs hn
    have c57b := with57 p n { x with prio := v } hs.procs hn
    simp only [encProc] at c57a c57b c59
    refine ⟨⟨_, _, Try.func74, rfl, by decide⟩, ICall.of_body' T10_ok ⟨Try.func74, rfl, by decide⟩ (by simp [Try.f74]) ?_⟩
    by_cases h0 : v < 0
    · have hb : decide (v < 0) = true := by simpa using h0
      have e : prioP p n v = (p, 3) := by unfold prioP; rw [if_pos (.inl h0)]
      refine AWP.goFC hb c56 ?_
      refine AWP.condA ?_ ?_ <;> intro hc
      · refine AWP.goA ?_
        refine AWP.ret ?_
        exact ⟨trivial, [], by simp, .tup [Pa p, iv 3], rfl, by rw [e]; rfl, rfl, rfl⟩
      · cases hc
    have hb : decide (v < 0) = false := by simpa using h0
    refine AWP.goFC hb c56 ?_
    refine AWP.condA ?_ ?_ <;> intro hc
    · have e : prioP p n v = (p, 3) := by unfold prioP; rw [if_pos (.inr (by simpa using hc))]
      refine AWP.goA ?_
      refine AWP.ret ?_
      exact ⟨trivial, [], by simp, .tup [Pa p, iv 3], rfl, by rw [e]; rfl, rfl, rfl⟩
    have h1 : ¬ 15 < v := by simpa using hc
    have e0 : prioP p n v = if x.state = 0 then (p, 4) else (if x.state = 1 then queueP p n { x with prio := v } else setP p n { x with prio := v }, 0) := by
      unfold prioP; rw [if_neg (fun h => h.elim h0 h1), hx0]
    refine AWP.goF hix ?_
    simp only [List.take_succ_cons, List.take_zero, List.drop_succ_cons, List.drop_zero, keysL, keysA, List.append_nil, List.nil_append, splice_zero_cons, splice_zero_nil, splice_succ, AV.closedAll, AV.closed, Bool.and_true, Bool.and_self]
    refine AWP.condA ?_ ?_ <;> intro hc2
    · rw [if_pos (by simpa using hc2)] at e0
      refine AWP.goA ?_
      refine AWP.ret ?_
      exact ⟨trivial, [], by simp, .tup [Pa p, iv 4], rfl, by rw [e0]; rfl, rfl, rfl⟩
    rw [if_neg (by simpa using hc2)] at e0
    refine AWP.goA ?_
    refine AWP.condA ?_ ?_ <;> intro hc9
    · rw [if_pos (by simpa using hc9)] at e0
      rw [e0]
      refine AWP.goC c59 ?_
      simp only [List.take_succ_cons, List.take_zero, List.drop_succ_cons, List.drop_zero, keysL, keysA, List.append_nil, List.nil_append, splice_zero_cons, splice_zero_nil, splice_succ, AV.closedAll, AV.closed, Bool.and_true, Bool.and_self]
      refine AWP.goC c57a ?_
      refine AWP.ret ?_
      exact ⟨trivial, [], by simp, .tup [Pa (queueP p n { x with prio := v }), iv 0], rfl, rfl, rfl, rfl⟩
    · rw [if_neg (by simpa using hc9)] at e0
      rw [e0]
      refine AWP.goC c57b ?_
      refine AWP.ret ?_
      exact ⟨trivial, [], by simp, .tup [Pa (setP p n { x with prio := v }), iv 0], rfl, rfl, rfl, rfl⟩
end Go.Qd
