/- A part of the library of this claim: rules of an abstract machine (values in place of addresses), proved against the model, and contracts of the functions. -/
import Derived.Test.YtkenbgmadkelcaaW19
set_option linter.unusedVariables false
set_option linter.unusedSimpArgs false
set_option maxHeartbeats 8000000
set_option maxRecDepth 10000
namespace Go.Qd
open Go Go.Proofs
/-- ref10.Start -/
theorem rstart70 (c : Conf) (p : Part) (i now : Int) (hs : Small 1000000 p) : Con Try.prog 70 [Cf c, Pa p, iv i, iv now] (.tup [Pa (opP (fun n => startP c p n now) p i).1, iv (opP (fun n => startP c p n now) p i).2]) [] := by
  rcases inOut i p.procs.length with h | ⟨n, rfl, hn⟩
  · rw [opP_out _ p i h]
    have c56 := there56 p i
    rw [there_out h] at c56
    refine ⟨⟨_, _, Try.func70, rfl, by decide⟩, ICall.of_body' T10_ok ⟨Try.func70, rfl, by decide⟩ (by simp [Try.f70]) ?_⟩
    refine AWP.goC c56 ?_
    refine AWP.condA ?_ ?_ <;> intro hc
    · refine AWP.goA ?_
      refine AWP.ret ?_
      exact ⟨trivial, [], by simp, .tup [Pa p, iv 3], rfl, rfl, rfl, rfl⟩
    · cases hc
  · rw [opP_in _ p n hn]
    have c56 := there56 p n
    rw [there_in hn] at c56
    obtain ⟨x, hx⟩ : ∃ x, p.procs[n] = x := ⟨_, rfl⟩
    have hx0 : p.procs[n]? = some x := by rw [List.getElem?_eq_getElem hn, hx]
    have hix := idx29 (l := p.procs) hn
    rw [hx] at hix
    simp only [encProc] at hix
    refine ⟨⟨_, _, Try.func70, rfl, by decide⟩, ICall.of_body' T10_ok ⟨Try.func70, rfl, by decide⟩ (by simp [Try.f70]) ?_⟩
    refine AWP.goC c56 ?_
    refine AWP.condA ?_ ?_ <;> intro hc
    · have hcn : c.procs.length ≤ n := by simpa using hc
      have e : startP c p n now = (p, 3) := by unfold startP; rw [List.getElem?_eq_none hcn]
      refine AWP.goA ?_
      refine AWP.ret ?_
      exact ⟨trivial, [], by simp, .tup [Pa p, iv 3], rfl, by rw [e]; rfl, rfl, rfl⟩
    have hcl : n < c.procs.length := by simpa using hc
    have hidf := idxF (l := c.procs) hcl
    obtain ⟨fa, fb, fc, fd, fe, hff⟩ : ∃ a b c' d e, c.procs[n] = ⟨a, b, c', d, e⟩ := ⟨_, _, _, _, _, rfl⟩
    rw [hff] at hidf
    simp only [encPConf] at hidf
    have e0 : startP c p n now = if x.state = 0 then (queueP p n { dormP fa with state := 1, pc := fd, due := behindP now fc, next := behindP now fb }, 0) else (p, 1) := by
      unfold startP; rw [List.getElem?_eq_getElem hcl, hx0, hff]
    refine AWP.goF hix ?_
    try simp only [List.take_succ_cons, List.take_zero, List.drop_succ_cons, List.drop_zero, keysL, keysA, List.append_nil, List.nil_append, splice_zero_cons, splice_zero_nil, splice_succ, AV.closedAll, AV.closed, Bool.and_true, Bool.and_self]
    refine AWP.condA ?_ ?_ <;> intro hc2
    · rw [if_neg (by simpa using hc2)] at e0
      refine AWP.goA ?_
      refine AWP.ret ?_
      exact ⟨trivial, [], by simp, .tup [Pa p, iv 1], rfl, by rw [e0]; rfl, rfl, rfl⟩
    rw [if_pos (by simpa using hc2)] at e0
    have c66 := dormant66 fa
    simp only [encProc, dormP] at c66
    refine AWP.goF hidf ?_
    try simp only [List.take_succ_cons, List.take_zero, List.drop_succ_cons, List.drop_zero, keysL, keysA, List.append_nil, List.nil_append, splice_zero_cons, splice_zero_nil, splice_succ, AV.closedAll, AV.closed, Bool.and_true, Bool.and_self]
    refine AWP.goC c66 ?_
    try simp only [List.take_succ_cons, List.take_zero, List.drop_succ_cons, List.drop_zero, keysL, keysA, List.append_nil, List.nil_append, splice_zero_cons, splice_zero_nil, splice_succ, AV.closedAll, AV.closed, Bool.and_true, Bool.and_self]
    refine AWP.goA ?_
    refine AWP.condA ?_ ?_ <;> intro hc3
    · have hD : behindP now fc = IntKind.i64.wrap (now + fc) := if_pos (by simpa using hc3)
      refine AWP.goA ?_
      refine AWP.condA ?_ ?_ <;> intro hc4
      · have hN : behindP now fb = IntKind.i64.wrap (now + fb) := if_pos (by simpa using hc4)
        rw [hD, hN] at e0
        have c59 := queued59 p { dormP fa with state := 1, pc := fd, due := IntKind.i64.wrap (now + fc), next := IntKind.i64.wrap (now + fb) }
        have c57 := with57 { p with next := nextP p } n { dormP fa with state := 1, pc := fd, due := IntKind.i64.wrap (now + fc), next := IntKind.i64.wrap (now + fb), since := p.next } hs.procs hn
        simp only [encProc, dormP] at c57 c59 e0
        rw [e0]
        refine AWP.goC c59 ?_
        try simp only [List.take_succ_cons, List.take_zero, List.drop_succ_cons, List.drop_zero, keysL, keysA, List.append_nil, List.nil_append, splice_zero_cons, splice_zero_nil, splice_succ, AV.closedAll, AV.closed, Bool.and_true, Bool.and_self]
        refine AWP.goC c57 ?_
        refine AWP.ret ?_
        exact ⟨trivial, [], by simp, .tup [Pa (queueP p n { dormP fa with state := 1, pc := fd, due := IntKind.i64.wrap (now + fc), next := IntKind.i64.wrap (now + fb) }), iv 0], rfl, rfl, rfl, rfl⟩
      · have hN : behindP now fb = -1 := if_neg (by simpa using hc4)
        rw [hD, hN] at e0
        have c59 := queued59 p { dormP fa with state := 1, pc := fd, due := IntKind.i64.wrap (now + fc), next := -1 }
        have c57 := with57 { p with next := nextP p } n { dormP fa with state := 1, pc := fd, due := IntKind.i64.wrap (now + fc), next := -1, since := p.next } hs.procs hn
        simp only [encProc, dormP] at c57 c59 e0
        rw [e0]
        refine AWP.goC c59 ?_
        try simp only [List.take_succ_cons, List.take_zero, List.drop_succ_cons, List.drop_zero, keysL, keysA, List.append_nil, List.nil_append, splice_zero_cons, splice_zero_nil, splice_succ, AV.closedAll, AV.closed, Bool.and_true, Bool.and_self]
        refine AWP.goC c57 ?_
        refine AWP.ret ?_
        exact ⟨trivial, [], by simp, .tup [Pa (queueP p n { dormP fa with state := 1, pc := fd, due := IntKind.i64.wrap (now + fc), next := -1 }), iv 0], rfl, rfl, rfl, rfl⟩
    · have hD : behindP now fc = -1 := if_neg (by simpa using hc3)
      refine AWP.goA ?_
      refine AWP.condA ?_ ?_ <;> intro hc4
      · have hN : behindP now fb = IntKind.i64.wrap (now + fb) := if_pos (by simpa using hc4)
        rw [hD, hN] at e0
        have c59 := queued59 p { dormP fa with state := 1, pc := fd, due := -1, next := IntKind.i64.wrap (now + fb) }
        have c57 := with57 { p with next := nextP p } n { dormP fa with state := 1, pc := fd, due := -1, next := IntKind.i64.wrap (now + fb), since := p.next } hs.procs hn
        simp only [encProc, dormP] at c57 c59 e0
        rw [e0]
        refine AWP.goC c59 ?_
        try simp only [List.take_succ_cons, List.take_zero, List.drop_succ_cons, List.drop_zero, keysL, keysA, List.append_nil, List.nil_append, splice_zero_cons, splice_zero_nil, splice_succ, AV.closedAll, AV.closed, Bool.and_true, Bool.and_self]
        refine AWP.goC c57 ?_
        refine AWP.ret ?_
        exact ⟨trivial, [], by simp, .tup [Pa (queueP p n { dormP fa with state := 1, pc := fd, due := -1, next := IntKind.i64.wrap (now + fb) }), iv 0], rfl, rfl, rfl, rfl⟩
      · have hN : behindP now fb = -1 := if_neg (by simpa using hc4)
        rw [hD, hN] at e0
        have c59 := queued59 p { dormP fa with state := 1, pc := fd, due := -1, next := -1 }
        have c57 := with57 { p with next := nextP p } n { dormP fa with state := 1, pc := fd, due := -1, next := -1, since := p.next } hs.procs hn
        simp only [encProc, dormP] at c57 c59 e0
        rw [e0]
        refine AWP.goC c59 ?_
        try simp only [List.take_succ_cons, List.take_zero, List.drop_succ_cons, List.drop_zero, keysL, keysA, List.append_nil, List.nil_append, splice_zero_cons, splice_zero_nil, splice_succ, AV.closedAll, AV.closed, Bool.and_true, Bool.and_self]
        refine AWP.goC c57 ?_
        refine AWP.ret ?_
        exact ⟨trivial, [], by simp, .tup [Pa (queueP p n { dormP fa with state := 1, pc := fd, due := -1, next := -1 }), iv 0], rfl, rfl, rfl, rfl⟩
end Go.Qd
