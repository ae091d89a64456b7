/- A part of the library of this claim: rules of an abstract machine (values in place of addresses), proved against the model, and contracts of the functions. -/
import Derived.Test.YtkenbgmadkelcaaW16
set_option linter.unusedVariables false
set_option linter.unusedSimpArgs false
set_option maxHeartbeats 8000000
set_option maxRecDepth 10000
namespace Go.Qd
open Go Go.Proofs
def thereB (p : Part) (i : Int) : Bool := decide (i ≥ 0) && decide (i < p.procs.length)
/-- ref10.there -/
theorem there56 (p : Part) (i : Int) : Con Try.prog 56 [Pa p, iv i] (.bool (thereB p i)) [] := by
  refine ⟨⟨_, _, Try.func56, rfl, by decide⟩, ICall.of_body' T10_ok ⟨Try.func56, rfl, by decide⟩ (by simp [Try.f56]) ?_⟩
  unfold thereB
  by_cases h : i ≥ 0
  · have hd : decide (i ≥ 0) = true := by simpa using h
    rw [hd]
    refine AWP.goF hd ?_
    refine AWP.ret ?_
    exact ⟨trivial, [], by simp, .bool (decide (i < p.procs.length)), rfl, rfl, rfl, rfl⟩
  · have hd : decide (i ≥ 0) = false := by simpa using h
    rw [hd]
    refine AWP.goF hd ?_
    refine AWP.ret ?_
    exact ⟨trivial, [], by simp, .bool false, rfl, rfl, rfl, rfl⟩
/-- ref10.with -/
theorem with57 (p : Part) (n : Nat) (x : Proc) (hs : p.procs.length ≤ 1000000) (hn : n < p.procs.length) : Con Try.prog 57 [Pa p, iv n, .agg (encProc x)] (Pa (setP p n x)) [] := by
  simp only [encProc]
  refine ⟨⟨_, _, Try.func57, rfl, by decide⟩, ICall.of_body' T10_ok ⟨Try.func57, rfl, by decide⟩ (by simp [Try.f57]) ?_⟩
  refine AWP.goA ?_
  refine AWP.region ?_
  refine AOps.goA ?_
  refine AOps.appA (app29 hs _ _ (by rfl)) ?_
  refine AOps.goA ?_
  refine AOps.endA ?_
  simp only [Then, List.take_succ_cons, List.take_zero, List.drop_succ_cons, List.drop_zero, keysL, keysA, List.append_nil, List.nil_append, splice_zero_cons, splice_zero_nil, splice_succ, AV.closedAll, AV.closed, Bool.and_true, Bool.and_self]
  obtain ⟨x0, hx⟩ : ∃ x, p.procs[n] = x := ⟨_, rfl⟩
  have hx0 : p.procs[n]? = some x0 := by rw [List.getElem?_eq_getElem hn, hx]
  have hix := idxP (l := p.procs) hn
  have st := stP (q := 0) (t := 49) (v := .agg (List.take 18 (encProc x))) x hx0 rfl rfl rfl (Nat.le_refl _) rfl rfl
  simp only [encProc] at st
  refine AWP.goF (And.intro hix st) ?_
  refine AWP.ret ?_
  exact ⟨trivial, [], by simp, PaM 80 p.procs.length (setP p n x), rfl, by simp [convA, convL, idxIn, hget, lsA, lsL, setP, List.take_of_length_le], rfl, rfl⟩
/-- ref10.queued -/
theorem queued59 (p : Part) (x : Proc) : Con Try.prog 59 [Pa p, .agg (encProc x)] (.tup [Pa { p with next := nextP p }, .agg (encProc { x with since := p.next })]) [] := by
  simp only [encProc]
  refine ⟨⟨_, _, Try.func59, rfl, by decide⟩, ICall.of_body' T10_ok ⟨Try.func59, rfl, by decide⟩ (by simp [Try.f59]) ?_⟩
  refine AWP.goA ?_
  refine AWP.ret ?_
  exact ⟨trivial, [], by simp, .tup [Pa { p with next := nextP p }, .agg (encProc { x with since := p.next })], rfl, rfl, rfl, rfl⟩
abbrev pRow (r : List Wait) : AObj := ⟨102, 3, true, r.map encWait⟩
/-- ref10.without -/
theorem without65 (l : List Wait) (i : Int) (hl : l.length ≤ 1000000) : Con Try.prog 65 [Wl l, iv i] (Wl (noP i l)) [] := by
  refine ⟨⟨_, _, Try.func65, rfl, by decide⟩, ICall.of_body' T10_ok ⟨Try.func65, rfl, by decide⟩ (by simp [Try.f65]) ?_⟩
  refine AWP.goA ?_
  refine AWP.loopT (fun j : Nat => ⟨0, Try.f65.ntmps, [(0, Wl l), (1, iv i), (5, .osl 208 0 (noP i (l.take j)).length), (6, iv j)], [(208, pRow (noP i (l.take j)))], []⟩) (fun j => j ≤ l.length) (fun j => l.length - j) 0 (by simp)
    ((Thin.ghost 5 208 102 3 (by rfl) (by rfl)).trans (Thin.to [] rfl rfl rfl rfl rfl (by simp [envIn, eget, eput, noP]) rfl)) ?_
  rintro j hj
  refine AWP.goA ?_
  refine AWP.condA ?_ ?_ <;> intro hc
  · have hjl : j < l.length := by simpa using hc
    have hw := wrap_succ (show j < 9223372036854775807 by omega)
    have hix := idx67 (l := l) hjl
    have hlen := noP_len i (l.take j)
    have hlen2 : (noP i (l.take j)).length ≤ 1000000 := by simp at hlen; omega
    obtain ⟨wa, wb, wc, hww⟩ : ∃ a b c, l[j] = ⟨a, b, c⟩ := ⟨_, _, _, rfl⟩
    rw [hww] at hix
    simp only [encWait] at hix
    refine AWP.goF hix ?_
    refine AWP.condA ?_ ?_ <;> intro hc2
    · have hp : wa ≠ i := by simpa using hc2
      have e : noP i (l.take (j + 1)) = noP i (l.take j) ++ [⟨wa, wb, wc⟩] := by rw [noP_succ i l j hjl, hww]; simp [noP, hp]
      have e2 : pRow (noP i (l.take (j + 1))) = ⟨102, 3, true, (noP i (l.take j)).map encWait ++ [[iv wa, iv wb, iv wc]]⟩ := by rw [e]; simp [encWait]
      refine AWP.goF (And.intro hix hw) ?_
      exact ⟨j + 1, by omega, by omega, Thin.to [200] rfl rfl rfl rfl rfl (by simp [envIn, eget, e]) (by rw [e2]; rfl)⟩
    · have hp : wa = i := by simpa using hc2
      have e : noP i (l.take (j + 1)) = noP i (l.take j) := by rw [noP_succ i l j hjl, hww]; simp [noP, hp]
      refine AWP.goF hw ?_
      exact ⟨j + 1, by omega, by omega, Thin.to [] rfl rfl rfl rfl rfl (by simp [envIn, eget, e]) (by rw [e]; rfl)⟩
  · have hje : j = l.length := by simp at hc; omega
    subst hje
    refine AWP.goA ?_
    refine AWP.ret ?_
    exact ⟨trivial, [], by simp, .osl 208 0 (noP i (l.take l.length)).length, rfl, by simp [convA, convL, idxIn, hget, lsA, lsL, List.take_of_length_le], rfl, rfl⟩
/-- Processes as they are at first. -/
def newP (l : List PConf) : List Proc := l.map fun f => dormP f.prio
theorem newP_succ (l : List PConf) (j : Nat) (hj : j < l.length) : newP (l.take (j + 1)) = newP (l.take j) ++ [dormP l[j].prio] := by
  unfold newP; rw [List.take_succ_eq_append_getElem hj, List.map_append]; rfl
theorem newP_len (l : List PConf) : (newP l).length = l.length := by simp [newP]
/-- procs.New -/
theorem new27 (c : Conf) (hl : c.procs.length ≤ 1000000) : Con Try.prog 27 [Cf c] (Pl (newP c.procs)) [] := by
  refine ⟨⟨_, _, Try.func27, rfl, by decide⟩, ICall.of_body' T10_ok ⟨Try.func27, rfl, by decide⟩ (by simp [Try.f27]) ?_⟩
  refine AWP.goA ?_
  refine AWP.loopT (fun j : Nat => ⟨0, Try.f27.ntmps, [(3, .osl 144 0 (newP (c.procs.take j)).length), (7, Fl c.procs), (8, iv c.procs.length), (9, iv j)], [(144, pObj (newP (c.procs.take j)))], []⟩) (fun j => j ≤ c.procs.length) (fun j => c.procs.length - j) 0 (by simp)
    ((Thin.ghost 3 144 49 18 (by rfl) (by rfl)).trans (Thin.to [8] rfl rfl rfl rfl rfl (by simp [envIn, eget, eput, newP]) rfl)) ?_
  rintro j hj
  refine AWP.goA ?_
  refine AWP.condA ?_ ?_ <;> intro hc
  · have hjl : j < c.procs.length := by simpa using hc
    have hw := wrap_succ (show j < 9223372036854775807 by omega)
    have hix := idxF (l := c.procs) hjl
    have hlen := newP_len (c.procs.take j)
    have hlen2 : (newP (c.procs.take j)).length ≤ 1000000 := by simp at hlen; omega
    obtain ⟨fa, fb, fc, fd, fe, hff⟩ : ∃ a b c' d e, c.procs[j] = ⟨a, b, c', d, e⟩ := ⟨_, _, _, _, _, rfl⟩
    rw [hff] at hix
    simp only [encPConf] at hix
    have cd := dormant49 fa
    simp only [encProc, dormP] at cd
    have e : newP (c.procs.take (j + 1)) = newP (c.procs.take j) ++ [dormP fa] := by rw [newP_succ _ j hjl, hff]
    have e2 : pObj (newP (c.procs.take (j + 1))) = ⟨49, 18, true, (newP (c.procs.take j)).map encProc ++ [encProc (dormP fa)]⟩ := by rw [e]; simp
    refine AWP.goF hix ?_
    simp only [List.take_succ_cons, List.take_zero, List.drop_succ_cons, List.drop_zero, keysL, keysA, List.append_nil, List.nil_append, splice_zero_cons, splice_zero_nil, splice_succ, AV.closedAll, AV.closed, Bool.and_true, Bool.and_self]
    refine AWP.goFC hw cd ?_
    exact ⟨j + 1, by omega, by omega, Thin.to [40, 136] rfl rfl rfl rfl rfl (by simp [envIn, eget, e]) (by rw [e2]; rfl)⟩
  · have hje : j = c.procs.length := by simp at hc; omega
    subst hje
    refine AWP.goA ?_
    refine AWP.ret ?_
    exact ⟨trivial, [], by simp, .osl 144 0 (newP (c.procs.take c.procs.length)).length, rfl, by simp [convA, convL, idxIn, hget, lsA, lsL, List.take_of_length_le], rfl, rfl⟩
/-- ref10.New -/
theorem new28 (c : Conf) (hl : c.procs.length ≤ 1000000) : Con Try.prog 28 [Cf c] (Pl (newP c.procs)) [] := by
  refine ⟨⟨_, _, Try.func28, rfl, by decide⟩, ICall.of_body' T10_ok ⟨Try.func28, rfl, by decide⟩ (by simp [Try.f28]) ?_⟩
  refine AWP.goA ?_
  refine AWP.loopT (fun j : Nat => ⟨0, Try.f28.ntmps, [(1, .ptr 8 0 0), (3, .osl 168 0 (newP (c.procs.take j)).length), (4, iv j)], [(8, ⟨28, 11, true, [encConf c]⟩), (168, pObj (newP (c.procs.take j)))], []⟩) (fun j => j ≤ c.procs.length) (fun j => c.procs.length - j) 0 (by simp)
    ((Thin.ghost 3 168 49 18 (by rfl) (by rfl)).trans (Thin.to [] rfl rfl rfl rfl rfl (by simp [envIn, eget, eput, newP]) rfl)) ?_
  rintro j hj
  refine AWP.goA ?_
  refine AWP.condA ?_ ?_ <;> intro hc
  · have hjl : j < c.procs.length := by simpa using hc
    have hw := wrap_succ (show j < 9223372036854775807 by omega)
    have hix := idxF (l := c.procs) hjl
    have hlen := newP_len (c.procs.take j)
    have hlen2 : (newP (c.procs.take j)).length ≤ 1000000 := by simp at hlen; omega
    obtain ⟨fa, fb, fc, fd, fe, hff⟩ : ∃ a b c' d e, c.procs[j] = ⟨a, b, c', d, e⟩ := ⟨_, _, _, _, _, rfl⟩
    rw [hff] at hix
    simp only [encPConf] at hix
    have cd := dormant66 fa
    simp only [encProc, dormP] at cd
    have e : newP (c.procs.take (j + 1)) = newP (c.procs.take j) ++ [dormP fa] := by rw [newP_succ _ j hjl, hff]
    have e2 : pObj (newP (c.procs.take (j + 1))) = ⟨49, 18, true, (newP (c.procs.take j)).map encProc ++ [encProc (dormP fa)]⟩ := by rw [e]; simp
    refine AWP.goFC (And.intro hix hw) cd ?_
    exact ⟨j + 1, by omega, by omega, Thin.to [160] rfl rfl rfl rfl rfl (by simp [envIn, eget, e]) (by rw [e2]; rfl)⟩
  · have hje : j = c.procs.length := by simp at hc; omega
    subst hje
    refine AWP.goA ?_
    refine AWP.ret ?_
    exact ⟨trivial, [], by simp, .osl 168 0 (newP (c.procs.take c.procs.length)).length, rfl, by simp [convA, convL, idxIn, hget, lsA, lsL, List.take_of_length_le], rfl, rfl⟩
end Go.Qd
