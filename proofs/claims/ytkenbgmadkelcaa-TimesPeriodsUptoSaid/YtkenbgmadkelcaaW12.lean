/- A part of the library of this claim: rules of an abstract machine (values in place of addresses), proved against the model, and contracts of the functions. -/
import Derived.Test.YtkenbgmadkelcaaW11
set_option linter.unusedVariables false
set_option linter.unusedSimpArgs false
set_option maxHeartbeats 4000000
set_option maxRecDepth 10000
namespace Go.Qd
open Go Go.Proofs
/-- What a partition is configured as. -/
structure Conf where
  words : Int
  regs : List (List AV)
  procs : List PConf
  boards : Int
  bufs : List (List AV)
  semas : List (List AV)
  events : Int
  samples : List (List AV)
  queues : List (List AV)
  latch : Int
  table : List (List AV)
abbrev encConf (c : Conf) : List AV := [iv c.words, .lst c.regs, Fl c.procs, iv c.boards, .lst c.bufs, .lst c.semas, iv c.events, .lst c.samples, .lst c.queues, iv c.latch, .lst c.table]
abbrev Cf (c : Conf) : AV := .agg (encConf c)
theorem set_encP (l : List Proc) (k : Nat) (x : Proc) : (l.map encProc).set k (encProc x) = (l.set k x).map encProc := by rw [List.map_set]
/-- A read of a process's field. -/
theorem ldP {l : List Proc} {n : Nat} {x : Proc} {t q : Nat} {v : AV} (hi : l[n]? = some x) (hv : aload T10 [] t (.vptr ((encProc x).drop q)) = some ⟨v, [], [], []⟩) : ∀ (h : Heap) (k : Nat), hget h k = some (pObj l) → aload T10 h t (.ptr k n q) = some ⟨v, [], [k], []⟩ :=
  load_at (r := encProc x) (by simp [hi]) hv
/-- A write of a process's field. -/
theorem stP {l : List Proc} {n : Nat} {x : Proc} {t q : Nat} {v : AV} {cs : List AV} {ti : TI} (x' : Proc) (hi : l[n]? = some x) (ht : tget T10 t = some ti) (hc : cellsOf v = some cs) (hl : cs.length = ti.size) (hq : q + cs.length ≤ 18) (hcl : AV.closedAll cs = true) (hr : splice (encProc x) q cs = encProc x') :
    ∀ (fb nt : Nat) (env : Env) (heap : Heap) (k : Nat), hget heap k = some (pObj l) → astore T10 ⟨fb, nt, env, heap, []⟩ t (.ptr k n q) v = some ⟨.tup [], [(k, pObj (l.set n x'))], [k], []⟩ := fun fb nt env heap k hk => by
  unfold pObj at hk ⊢
  rw [← set_encP]
  exact store_at (cs := cs) (r := encProc x) ht hc (by simp [hi]) hl (by simpa [encProc] using hq) (by simpa using hcl) hr fb nt env heap k hk
theorem stPs {l : List Proc} {n : Nat} {x : Proc} {t q : Nat} {v : AV} {cs : List AV} {ti : TI} (x' : Proc) (hi : n < l.length) (ht : tget T10 t = some ti) (hc : cellsOf v = some cs) (hl : cs.length = ti.size) (hq : q + cs.length ≤ 18) (hcl : AV.closedAll cs = true) (hr : splice (encProc x) q cs = encProc x') :
    ∀ (fb nt : Nat) (env : Env) (heap : Heap) (k : Nat), hget heap k = some (pObj (l.set n x)) → astore T10 ⟨fb, nt, env, heap, []⟩ t (.ptr k n q) v = some ⟨.tup [], [(k, pObj (l.set n x'))], [k], []⟩ := by
  have := stP (l := l.set n x) (n := n) (x := x) x' (by simp [hi]) ht hc hl hq hcl hr
  simpa using this
theorem idxP {l : List Proc} {n : Nat} (hi : n < l.length) : ∀ (h : Heap) (k : Nat), keySize h (.osl k 0 l.length) 18 = true → aindexAddr' T10 h 29 (.osl k 0 l.length) (n : Int) = some (.ptr k n 0) := idxOb (e := 49) rfl rfl rfl hi
theorem idxF {l : List PConf} {n : Nat} (hi : n < l.length) (h : Heap) : aindexAddr' T10 h 23 (Fl l) (n : Int) = some (.vptr (encPConf l[n])) :=
  index_lst (e := 51) rfl rfl rfl (by simp [hi]) rfl
/-- procs.on, of no process that is there -/
theorem on47_out (F : Nat) (caps : List AV) (p : Part) (i : Int) (hs : Small 1000000 p) (hi : i < 0 ∨ (p.procs.length : Int) ≤ i) : Con Try.prog 47 [Pa p, iv i, .fn F [] caps] (.tup [PaO 0 p, iv 3]) [pObj p.procs] := by
  refine ⟨⟨_, _, Try.func47, rfl, by decide⟩, ICall.of_body' T10_ok ⟨Try.func47, rfl, by decide⟩ (by simp [Try.f47]) ?_⟩
  refine AWP.goA ?_
  refine AWP.goC (own29O p hs) ?_
  rcases Int.lt_or_le i 0 with h0 | h0
  · have hd : decide (i < 0) = true := by simpa using h0
    refine AWP.goF hd ?_
    refine AWP.condA ?_ ?_ <;> intro hc
    · refine AWP.goA ?_
      refine AWP.ret ?_
      exact ⟨trivial, [88], by simp, .tup [PaO 88 p, iv 3], rfl, rfl, rfl, rfl⟩
    · cases hc
  · have hd : decide (i < 0) = false := by simpa using h0
    refine AWP.goF hd ?_
    refine AWP.condA ?_ ?_ <;> intro hc
    · refine AWP.goA ?_
      refine AWP.ret ?_
      exact ⟨trivial, [88], by simp, .tup [PaO 88 p, iv 3], rfl, rfl, rfl, rfl⟩
    · simp at hc; omega
end Go.Qd
