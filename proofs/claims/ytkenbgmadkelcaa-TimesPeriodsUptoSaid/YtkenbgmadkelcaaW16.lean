/- A part of the library of this claim: rules of an abstract machine (values in place of addresses), proved against the model, and contracts of the functions. -/
import Derived.Test.YtkenbgmadkelcaaW15
set_option linter.unusedVariables false
set_option linter.unusedSimpArgs false
set_option maxHeartbeats 8000000
set_option maxRecDepth 10000
namespace Go.Qd
open Go Go.Proofs
/-- What is done to a process, if it's there. -/
def opP (f : Nat → Part × Int) (p : Part) (i : Int) : Part × Int := if 0 ≤ i ∧ i < p.procs.length then f i.toNat else (p, 3)
def opQ (f : Nat → Part) (p : Part) (i : Int) : Part := if 0 ≤ i ∧ i < p.procs.length then f i.toNat else p
theorem opP_in (f : Nat → Part × Int) (p : Part) (n : Nat) (hn : n < p.procs.length) : opP f p n = f n := by
  unfold opP; rw [if_pos ⟨by omega, by omega⟩]; rfl
theorem opP_out (f : Nat → Part × Int) (p : Part) (i : Int) (hi : i < 0 ∨ (p.procs.length : Int) ≤ i) : opP f p i = (p, 3) := by
  unfold opP; rw [if_neg (by omega)]
theorem opQ_in (f : Nat → Part) (p : Part) (n : Nat) (hn : n < p.procs.length) : opQ f p n = f n := by
  unfold opQ; rw [if_pos ⟨by omega, by omega⟩]; rfl
theorem opQ_out (f : Nat → Part) (p : Part) (i : Int) (hi : i < 0 ∨ (p.procs.length : Int) ≤ i) : opQ f p i = p := by
  unfold opQ; rw [if_neg (by omega)]
theorem inOut (i : Int) (l : Nat) : (i < 0 ∨ (l : Int) ≤ i) ∨ ∃ n : Nat, i = n ∧ n < l := by
  rcases Int.lt_or_le i 0 with h | h
  · exact .inl (.inl h)
  · obtain ⟨n, rfl⟩ := Int.eq_ofNat_of_zero_le h
    by_cases h2 : n < l
    · exact .inr ⟨n, rfl, h2⟩
    · exact .inl (.inr (by omega))
theorem PaO_close2 (p : Part) (c : Int) : lsA (convA (fun _ => none) (enumH 0 [pObj p.procs]) (.tup [PaO 0 p, iv c])) = .tup [Pa p, iv c] := by
  simp [convA, convL, enumH, hget, lsA, lsL, List.take_of_length_le]
/-- procs.Start: the processes are the copy's own -/
theorem start18O (c : Conf) (p : Part) (i now : Int) (hs : Small 1000000 p) : Con Try.prog 18 [Cf c, Pa p, iv i, iv now] (.tup [PaO 0 (opP (fun n => startP c p n now) p i).1, iv (opP (fun n => startP c p n now) p i).2]) [pObj (opP (fun n => startP c p n now) p i).1.procs] := by
  refine ⟨⟨_, _, Try.func18, rfl, by decide⟩, ICall.of_body' T10_ok ⟨Try.func18, rfl, by decide⟩ (by simp [Try.f18]) ?_⟩
  have c47 : Con Try.prog 47 [Pa p, iv i, .fn 48 [] [.vptr [iv i], .vptr (encConf c), .vptr [iv now]]] (.tup [PaO 0 (opP (fun n => startP c p n now) p i).1, iv (opP (fun n => startP c p n now) p i).2]) [pObj (opP (fun n => startP c p n now) p i).1.procs] := by
    rcases inOut i p.procs.length with h | ⟨n, rfl, h⟩
    · rw [opP_out _ p i h]; exact on47_out 48 _ p i hs h
    · rw [opP_in _ p n h]; exact on47_start c p n now hs h
  obtain ⟨r, hr⟩ : ∃ r, opP (fun n => startP c p n now) p i = r := ⟨_, rfl⟩
  rw [hr] at c47 ⊢
  refine AWP.goC c47 ?_
  refine AWP.ret ?_
  exact ⟨trivial, [104], by simp, .tup [PaO 104 r.1, iv r.2], rfl, rfl, rfl, rfl⟩
theorem start18 (c : Conf) (p : Part) (i now : Int) (hs : Small 1000000 p) : Con Try.prog 18 [Cf c, Pa p, iv i, iv now] (.tup [Pa (opP (fun n => startP c p n now) p i).1, iv (opP (fun n => startP c p n now) p i).2]) [] :=
  (start18O c p i now hs).close (PaO_close2 _ _)
/-- procs.Stop: the processes are the copy's own -/
theorem stop20O (p : Part) (i : Int) (hs : Small 1000000 p) : Con Try.prog 20 [Pa p, iv i] (.tup [PaO 0 (opP (fun n => stopP p n) p i).1, iv (opP (fun n => stopP p n) p i).2]) [pObj (opP (fun n => stopP p n) p i).1.procs] := by
  refine ⟨⟨_, _, Try.func20, rfl, by decide⟩, ICall.of_body' T10_ok ⟨Try.func20, rfl, by decide⟩ (by simp [Try.f20]) ?_⟩
  have c47 : Con Try.prog 47 [Pa p, iv i, .fn 54 [] [.vptr [iv i]]] (.tup [PaO 0 (opP (fun n => stopP p n) p i).1, iv (opP (fun n => stopP p n) p i).2]) [pObj (opP (fun n => stopP p n) p i).1.procs] := by
    rcases inOut i p.procs.length with h | ⟨n, rfl, h⟩
    · rw [opP_out _ p i h]; exact on47_out 54 _ p i hs h
    · rw [opP_in _ p n h]; exact on47_stop p n hs h
  obtain ⟨r, hr⟩ : ∃ r, opP (fun n => stopP p n) p i = r := ⟨_, rfl⟩
  rw [hr] at c47 ⊢
  refine AWP.goC c47 ?_
  refine AWP.ret ?_
  exact ⟨trivial, [72], by simp, .tup [PaO 72 r.1, iv r.2], rfl, rfl, rfl, rfl⟩
theorem stop20 (p : Part) (i : Int) (hs : Small 1000000 p) : Con Try.prog 20 [Pa p, iv i] (.tup [Pa (opP (fun n => stopP p n) p i).1, iv (opP (fun n => stopP p n) p i).2]) [] :=
  (stop20O p i hs).close (PaO_close2 _ _)
/-- procs.Suspend: the processes are the copy's own -/
theorem suspend30O (c : Conf) (p : Part) (i : Int) (hs : Small 1000000 p) : Con Try.prog 30 [Cf c, Pa p, iv i] (.tup [PaO 0 (opP (fun n => suspendP c p n) p i).1, iv (opP (fun n => suspendP c p n) p i).2]) [pObj (opP (fun n => suspendP c p n) p i).1.procs] := by
  refine ⟨⟨_, _, Try.func30, rfl, by decide⟩, ICall.of_body' T10_ok ⟨Try.func30, rfl, by decide⟩ (by simp [Try.f30]) ?_⟩
  have c47 : Con Try.prog 47 [Pa p, iv i, .fn 67 [] [.vptr [iv i], .vptr (encConf c)]] (.tup [PaO 0 (opP (fun n => suspendP c p n) p i).1, iv (opP (fun n => suspendP c p n) p i).2]) [pObj (opP (fun n => suspendP c p n) p i).1.procs] := by
    rcases inOut i p.procs.length with h | ⟨n, rfl, h⟩
    · rw [opP_out _ p i h]; exact on47_out 67 _ p i hs h
    · rw [opP_in _ p n h]; exact on47_suspend c p n hs h
  obtain ⟨r, hr⟩ : ∃ r, opP (fun n => suspendP c p n) p i = r := ⟨_, rfl⟩
  rw [hr] at c47 ⊢
  refine AWP.goC c47 ?_
  refine AWP.ret ?_
  exact ⟨trivial, [88], by simp, .tup [PaO 88 r.1, iv r.2], rfl, rfl, rfl, rfl⟩
theorem suspend30 (c : Conf) (p : Part) (i : Int) (hs : Small 1000000 p) : Con Try.prog 30 [Cf c, Pa p, iv i] (.tup [Pa (opP (fun n => suspendP c p n) p i).1, iv (opP (fun n => suspendP c p n) p i).2]) [] :=
  (suspend30O c p i hs).close (PaO_close2 _ _)
/-- procs.Resume: the processes are the copy's own -/
theorem resume31O (p : Part) (i : Int) (hs : Small 1000000 p) : Con Try.prog 31 [Pa p, iv i] (.tup [PaO 0 (opP (fun n => resumeP p n) p i).1, iv (opP (fun n => resumeP p n) p i).2]) [pObj (opP (fun n => resumeP p n) p i).1.procs] := by
  refine ⟨⟨_, _, Try.func31, rfl, by decide⟩, ICall.of_body' T10_ok ⟨Try.func31, rfl, by decide⟩ (by simp [Try.f31]) ?_⟩
  have c47 : Con Try.prog 47 [Pa p, iv i, .fn 68 [] []] (.tup [PaO 0 (opP (fun n => resumeP p n) p i).1, iv (opP (fun n => resumeP p n) p i).2]) [pObj (opP (fun n => resumeP p n) p i).1.procs] := by
    rcases inOut i p.procs.length with h | ⟨n, rfl, h⟩
    · rw [opP_out _ p i h]; exact on47_out 68 _ p i hs h
    · rw [opP_in _ p n h]; exact on47_resume p n hs h
  obtain ⟨r, hr⟩ : ∃ r, opP (fun n => resumeP p n) p i = r := ⟨_, rfl⟩
  rw [hr] at c47 ⊢
  refine AWP.goC c47 ?_
  refine AWP.ret ?_
  exact ⟨trivial, [64], by simp, .tup [PaO 64 r.1, iv r.2], rfl, rfl, rfl, rfl⟩
theorem resume31 (p : Part) (i : Int) (hs : Small 1000000 p) : Con Try.prog 31 [Pa p, iv i] (.tup [Pa (opP (fun n => resumeP p n) p i).1, iv (opP (fun n => resumeP p n) p i).2]) [] :=
  (resume31O p i hs).close (PaO_close2 _ _)
/-- procs.Prio: the processes are the copy's own -/
theorem prio69O (p : Part) (i v : Int) (hs : Small 1000000 p) : Con Try.prog 69 [Pa p, iv i, iv v] (.tup [PaO 0 (opP (fun n => prioP p n v) p i).1, iv (opP (fun n => prioP p n v) p i).2]) [pObj (opP (fun n => prioP p n v) p i).1.procs] := by
  refine ⟨⟨_, _, Try.func69, rfl, by decide⟩, ICall.of_body' T10_ok ⟨Try.func69, rfl, by decide⟩ (by simp [Try.f69]) ?_⟩
  have c47 : Con Try.prog 47 [Pa p, iv i, .fn 96 [] [.vptr [iv v]]] (.tup [PaO 0 (opP (fun n => prioP p n v) p i).1, iv (opP (fun n => prioP p n v) p i).2]) [pObj (opP (fun n => prioP p n v) p i).1.procs] := by
    rcases inOut i p.procs.length with h | ⟨n, rfl, h⟩
    · rw [opP_out _ p i h]; exact on47_out 96 _ p i hs h
    · rw [opP_in _ p n h]; exact on47_prio p n v hs h
  obtain ⟨r, hr⟩ : ∃ r, opP (fun n => prioP p n v) p i = r := ⟨_, rfl⟩
  rw [hr] at c47 ⊢
  refine AWP.goC c47 ?_
  refine AWP.ret ?_
  exact ⟨trivial, [88], by simp, .tup [PaO 88 r.1, iv r.2], rfl, rfl, rfl, rfl⟩
theorem prio69 (p : Part) (i v : Int) (hs : Small 1000000 p) : Con Try.prog 69 [Pa p, iv i, iv v] (.tup [Pa (opP (fun n => prioP p n v) p i).1, iv (opP (fun n => prioP p n v) p i).2]) [] :=
  (prio69O p i v hs).close (PaO_close2 _ _)
/-- procs.Block: the processes are the copy's own -/
theorem block21O (p : Part) (i kind obj till call : Int) (hs : Small 1000000 p) : Con Try.prog 21 [Pa p, iv i, iv kind, iv obj, iv till, iv call] (PaO 0 (opQ (fun n => blockP p n kind obj till call) p i)) [pObj (opQ (fun n => blockP p n kind obj till call) p i).procs] := by
  refine ⟨⟨_, _, Try.func21, rfl, by decide⟩, ICall.of_body' T10_ok ⟨Try.func21, rfl, by decide⟩ (by simp [Try.f21]) ?_⟩
  obtain ⟨k, c47⟩ : ∃ k, Con Try.prog 47 [Pa p, iv i, .fn 55 [] [.vptr [iv kind], .vptr [iv obj], .vptr [iv till], .vptr [iv call]]] (.tup [PaO 0 (opQ (fun n => blockP p n kind obj till call) p i), iv k]) [pObj (opQ (fun n => blockP p n kind obj till call) p i).procs] := by
    rcases inOut i p.procs.length with h | ⟨n, rfl, h⟩
    · rw [opQ_out _ p i h]; exact ⟨3, on47_out 55 _ p i hs h⟩
    · rw [opQ_in _ p n h]; exact ⟨0, on47_block p n kind obj till call hs h⟩
  obtain ⟨r, hr⟩ : ∃ r, opQ (fun n => blockP p n kind obj till call) p i = r := ⟨_, rfl⟩
  rw [hr] at c47 ⊢
  refine AWP.goC c47 ?_
  refine AWP.ret ?_
  exact ⟨trivial, [152], by simp, PaO 152 r, rfl, rfl, rfl, rfl⟩
theorem block21 (p : Part) (i kind obj till call : Int) (hs : Small 1000000 p) : Con Try.prog 21 [Pa p, iv i, iv kind, iv obj, iv till, iv call] (Pa (opQ (fun n => blockP p n kind obj till call) p i)) [] :=
  (block21O p i kind obj till call hs).close (PaO_close _)
/-- procs.Go: the processes are the copy's own -/
theorem go23O (p : Part) (i code value : Int) (hs : Small 1000000 p) : Con Try.prog 23 [Pa p, .agg [iv i, iv code, iv value]] (PaO 0 (opQ (fun n => (goP p n code value).1) p i)) [pObj (opQ (fun n => (goP p n code value).1) p i).procs] := by
  refine ⟨⟨_, _, Try.func23, rfl, by decide⟩, ICall.of_body' T10_ok ⟨Try.func23, rfl, by decide⟩ (by simp [Try.f23]) ?_⟩
  obtain ⟨k, c47⟩ : ∃ k, Con Try.prog 47 [Pa p, iv i, .fn 58 [] [.vptr [iv i, iv code, iv value]]] (.tup [PaO 0 (opQ (fun n => (goP p n code value).1) p i), iv k]) [pObj (opQ (fun n => (goP p n code value).1) p i).procs] := by
    rcases inOut i p.procs.length with h | ⟨n, rfl, h⟩
    · rw [opQ_out _ p i h]; exact ⟨3, on47_out 58 _ p i hs h⟩
    · rw [opQ_in _ p n h]; exact ⟨_, on47_go p n code value hs h⟩
  obtain ⟨r, hr⟩ : ∃ r, opQ (fun n => (goP p n code value).1) p i = r := ⟨_, rfl⟩
  rw [hr] at c47 ⊢
  refine AWP.goC c47 ?_
  refine AWP.ret ?_
  exact ⟨trivial, [96], by simp, PaO 96 r, rfl, rfl, rfl, rfl⟩
theorem go23 (p : Part) (i code value : Int) (hs : Small 1000000 p) : Con Try.prog 23 [Pa p, .agg [iv i, iv code, iv value]] (Pa (opQ (fun n => (goP p n code value).1) p i)) [] :=
  (go23O p i code value hs).close (PaO_close _)
end Go.Qd
