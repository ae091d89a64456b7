/- A part of the library of this claim: rules of an abstract machine (values in place of addresses), proved against the model, and contracts of the functions. -/
import Derived.Test.YtkenbgmadkelcaaW42
import Derived.Test.YtkenbgmadkelcaaW43
set_option linter.unusedVariables false
set_option linter.unusedSimpArgs false
set_option maxHeartbeats 8000000
set_option maxRecDepth 10000
namespace Go.Qd
open Go Go.Proofs
theorem start18N (c : Conf) (p : Part) (i now : Int) (b0 : Buf) (bt : List Buf) (hbf : p.bufs = b0 :: bt) (hs : Small 1000000 p) : Con Try.prog 18 [Cf c, Pa p, iv i, iv now] (.tup [PaN 0 1 p.procs.length p.bufs.length (opP (fun n => startP c p n now) p i).1, iv (opP (fun n => startP c p n now) p i).2]) [pObj (opP (fun n => startP c p n now) p i).1.procs, bfOf 2 (opP (fun n => startP c p n now) p i).1, vlOf (opP (fun n => startP c p n now) p i).1] := by
  refine ⟨⟨_, _, Try.func18, rfl, by decide⟩, ICall.of_body' T10_ok ⟨Try.func18, rfl, by decide⟩ (by simp [Try.f18]) ?_⟩
  have c47 : Con Try.prog 47 [Pa p, iv i, .fn 48 [] [.vptr [iv i], .vptr (encConf c), .vptr [iv now]]] (.tup [PaN 0 1 p.procs.length p.bufs.length (opP (fun n => startP c p n now) p i).1, iv (opP (fun n => startP c p n now) p i).2]) [pObj (opP (fun n => startP c p n now) p i).1.procs, bfOf 2 (opP (fun n => startP c p n now) p i).1, vlOf (opP (fun n => startP c p n now) p i).1] := by
    rcases inOut i p.procs.length with h | ⟨n, rfl, h⟩
    · rw [opP_out _ p i h]; exact on47N_out 48 _ p i b0 bt hbf hs h
    · rw [opP_in _ p n h]; exact on47N_start c p n now b0 bt hbf hs h
  obtain ⟨r, hr⟩ : ∃ r, opP (fun n => startP c p n now) p i = r := ⟨_, rfl⟩
  rw [hr] at c47 ⊢
  refine AWP.goA ?_
  refine AWP.region ?_
  refine AOps.goA ?_
  refine AOps.conNB c47 ?_
  refine AOps.goA ?_
  refine AOps.endA ?_
  simp only [Then]
  refine AWP.goA ?_
  refine AWP.ret ?_
  exact ⟨trivial, [104, 105, 106], by simp, .tup [PaN 104 105 p.procs.length p.bufs.length r.1, iv r.2], rfl, rfl, by simp only [keepO, hget, reduceIte, Nat.reduceEqDiff]; rw [convO_bf (ρ := idxIn [104, 105, 106] 0) (k := 106) (k' := 2) rfl]; rfl, rfl⟩
theorem stop20N (p : Part) (i : Int) (b0 : Buf) (bt : List Buf) (hbf : p.bufs = b0 :: bt) (hs : Small 1000000 p) : Con Try.prog 20 [Pa p, iv i] (.tup [PaN 0 1 p.procs.length p.bufs.length (opP (fun n => stopP p n) p i).1, iv (opP (fun n => stopP p n) p i).2]) [pObj (opP (fun n => stopP p n) p i).1.procs, bfOf 2 (opP (fun n => stopP p n) p i).1, vlOf (opP (fun n => stopP p n) p i).1] := by
  refine ⟨⟨_, _, Try.func20, rfl, by decide⟩, ICall.of_body' T10_ok ⟨Try.func20, rfl, by decide⟩ (by simp [Try.f20]) ?_⟩
  have c47 : Con Try.prog 47 [Pa p, iv i, .fn 54 [] [.vptr [iv i]]] (.tup [PaN 0 1 p.procs.length p.bufs.length (opP (fun n => stopP p n) p i).1, iv (opP (fun n => stopP p n) p i).2]) [pObj (opP (fun n => stopP p n) p i).1.procs, bfOf 2 (opP (fun n => stopP p n) p i).1, vlOf (opP (fun n => stopP p n) p i).1] := by
    rcases inOut i p.procs.length with h | ⟨n, rfl, h⟩
    · rw [opP_out _ p i h]; exact on47N_out 54 _ p i b0 bt hbf hs h
    · rw [opP_in _ p n h]; exact on47N_stop p n b0 bt hbf hs h
  obtain ⟨r, hr⟩ : ∃ r, opP (fun n => stopP p n) p i = r := ⟨_, rfl⟩
  rw [hr] at c47 ⊢
  refine AWP.goA ?_
  refine AWP.region ?_
  refine AOps.goA ?_
  refine AOps.conNB c47 ?_
  refine AOps.goA ?_
  refine AOps.endA ?_
  simp only [Then]
  refine AWP.goA ?_
  refine AWP.ret ?_
  exact ⟨trivial, [72, 73, 74], by simp, .tup [PaN 72 73 p.procs.length p.bufs.length r.1, iv r.2], rfl, rfl, by simp only [keepO, hget, reduceIte, Nat.reduceEqDiff]; rw [convO_bf (ρ := idxIn [72, 73, 74] 0) (k := 74) (k' := 2) rfl]; rfl, rfl⟩
theorem suspend30N (c : Conf) (p : Part) (i : Int) (b0 : Buf) (bt : List Buf) (hbf : p.bufs = b0 :: bt) (hs : Small 1000000 p) : Con Try.prog 30 [Cf c, Pa p, iv i] (.tup [PaN 0 1 p.procs.length p.bufs.length (opP (fun n => suspendP c p n) p i).1, iv (opP (fun n => suspendP c p n) p i).2]) [pObj (opP (fun n => suspendP c p n) p i).1.procs, bfOf 2 (opP (fun n => suspendP c p n) p i).1, vlOf (opP (fun n => suspendP c p n) p i).1] := by
  refine ⟨⟨_, _, Try.func30, rfl, by decide⟩, ICall.of_body' T10_ok ⟨Try.func30, rfl, by decide⟩ (by simp [Try.f30]) ?_⟩
  have c47 : Con Try.prog 47 [Pa p, iv i, .fn 67 [] [.vptr [iv i], .vptr (encConf c)]] (.tup [PaN 0 1 p.procs.length p.bufs.length (opP (fun n => suspendP c p n) p i).1, iv (opP (fun n => suspendP c p n) p i).2]) [pObj (opP (fun n => suspendP c p n) p i).1.procs, bfOf 2 (opP (fun n => suspendP c p n) p i).1, vlOf (opP (fun n => suspendP c p n) p i).1] := by
    rcases inOut i p.procs.length with h | ⟨n, rfl, h⟩
    · rw [opP_out _ p i h]; exact on47N_out 67 _ p i b0 bt hbf hs h
    · rw [opP_in _ p n h]; exact on47N_suspend c p n b0 bt hbf hs h
  obtain ⟨r, hr⟩ : ∃ r, opP (fun n => suspendP c p n) p i = r := ⟨_, rfl⟩
  rw [hr] at c47 ⊢
  refine AWP.goA ?_
  refine AWP.region ?_
  refine AOps.goA ?_
  refine AOps.conNB c47 ?_
  refine AOps.goA ?_
  refine AOps.endA ?_
  simp only [Then]
  refine AWP.goA ?_
  refine AWP.ret ?_
  exact ⟨trivial, [88, 89, 90], by simp, .tup [PaN 88 89 p.procs.length p.bufs.length r.1, iv r.2], rfl, rfl, by simp only [keepO, hget, reduceIte, Nat.reduceEqDiff]; rw [convO_bf (ρ := idxIn [88, 89, 90] 0) (k := 90) (k' := 2) rfl]; rfl, rfl⟩
theorem resume31N (p : Part) (i : Int) (b0 : Buf) (bt : List Buf) (hbf : p.bufs = b0 :: bt) (hs : Small 1000000 p) : Con Try.prog 31 [Pa p, iv i] (.tup [PaN 0 1 p.procs.length p.bufs.length (opP (fun n => resumeP p n) p i).1, iv (opP (fun n => resumeP p n) p i).2]) [pObj (opP (fun n => resumeP p n) p i).1.procs, bfOf 2 (opP (fun n => resumeP p n) p i).1, vlOf (opP (fun n => resumeP p n) p i).1] := by
  refine ⟨⟨_, _, Try.func31, rfl, by decide⟩, ICall.of_body' T10_ok ⟨Try.func31, rfl, by decide⟩ (by simp [Try.f31]) ?_⟩
  have c47 : Con Try.prog 47 [Pa p, iv i, .fn 68 [] []] (.tup [PaN 0 1 p.procs.length p.bufs.length (opP (fun n => resumeP p n) p i).1, iv (opP (fun n => resumeP p n) p i).2]) [pObj (opP (fun n => resumeP p n) p i).1.procs, bfOf 2 (opP (fun n => resumeP p n) p i).1, vlOf (opP (fun n => resumeP p n) p i).1] := by
    rcases inOut i p.procs.length with h | ⟨n, rfl, h⟩
    · rw [opP_out _ p i h]; exact on47N_out 68 _ p i b0 bt hbf hs h
    · rw [opP_in _ p n h]; exact on47N_resume p n b0 bt hbf hs h
  obtain ⟨r, hr⟩ : ∃ r, opP (fun n => resumeP p n) p i = r := ⟨_, rfl⟩
  rw [hr] at c47 ⊢
  refine AWP.goA ?_
  refine AWP.region ?_
  refine AOps.goA ?_
  refine AOps.conNB c47 ?_
  refine AOps.goA ?_
  refine AOps.endA ?_
  simp only [Then]
  refine AWP.goA ?_
  refine AWP.ret ?_
  exact ⟨trivial, [64, 65, 66], by simp, .tup [PaN 64 65 p.procs.length p.bufs.length r.1, iv r.2], rfl, rfl, by simp only [keepO, hget, reduceIte, Nat.reduceEqDiff]; rw [convO_bf (ρ := idxIn [64, 65, 66] 0) (k := 66) (k' := 2) rfl]; rfl, rfl⟩
theorem prio69N (p : Part) (i v : Int) (b0 : Buf) (bt : List Buf) (hbf : p.bufs = b0 :: bt) (hs : Small 1000000 p) : Con Try.prog 69 [Pa p, iv i, iv v] (.tup [PaN 0 1 p.procs.length p.bufs.length (opP (fun n => prioP p n v) p i).1, iv (opP (fun n => prioP p n v) p i).2]) [pObj (opP (fun n => prioP p n v) p i).1.procs, bfOf 2 (opP (fun n => prioP p n v) p i).1, vlOf (opP (fun n => prioP p n v) p i).1] := by
  refine ⟨⟨_, _, Try.func69, rfl, by decide⟩, ICall.of_body' T10_ok ⟨Try.func69, rfl, by decide⟩ (by simp [Try.f69]) ?_⟩
  have c47 : Con Try.prog 47 [Pa p, iv i, .fn 96 [] [.vptr [iv v]]] (.tup [PaN 0 1 p.procs.length p.bufs.length (opP (fun n => prioP p n v) p i).1, iv (opP (fun n => prioP p n v) p i).2]) [pObj (opP (fun n => prioP p n v) p i).1.procs, bfOf 2 (opP (fun n => prioP p n v) p i).1, vlOf (opP (fun n => prioP p n v) p i).1] := by
    rcases inOut i p.procs.length with h | ⟨n, rfl, h⟩
    · rw [opP_out _ p i h]; exact on47N_out 96 _ p i b0 bt hbf hs h
    · rw [opP_in _ p n h]; exact on47N_prio p n v b0 bt hbf hs h
  obtain ⟨r, hr⟩ : ∃ r, opP (fun n => prioP p n v) p i = r := ⟨_, rfl⟩
  rw [hr] at c47 ⊢
  refine AWP.goA ?_
  refine AWP.region ?_
  refine AOps.goA ?_
  refine AOps.conNB c47 ?_
  refine AOps.goA ?_
  refine AOps.endA ?_
  simp only [Then]
  refine AWP.goA ?_
  refine AWP.ret ?_
  exact ⟨trivial, [88, 89, 90], by simp, .tup [PaN 88 89 p.procs.length p.bufs.length r.1, iv r.2], rfl, rfl, by simp only [keepO, hget, reduceIte, Nat.reduceEqDiff]; rw [convO_bf (ρ := idxIn [88, 89, 90] 0) (k := 90) (k' := 2) rfl]; rfl, rfl⟩
/-- law10.change -/
theorem change32N (c : Conf) (p : Part) (k i n : Int) (b0 : Buf) (bt : List Buf) (hbf : p.bufs = b0 :: bt) (hs : Small 1000000 p) : Con Try.prog 32 [Cf c, Pa p, iv k, iv i, iv n] (.tup [PaN 0 1 p.procs.length p.bufs.length (changeP c p k i n).1, iv (changeP c p k i n).2]) [pObj (changeP c p k i n).1.procs, bfOf 2 (changeP c p k i n).1, vlOf (changeP c p k i n).1] := by
  refine ⟨⟨_, _, Try.func32, rfl, by decide⟩, ICall.of_body' T10_ok ⟨Try.func32, rfl, by decide⟩ (by simp [Try.f32]) ?_⟩
  obtain ⟨r, hr⟩ : ∃ r, changeP c p k i n = r := ⟨_, rfl⟩
  rw [hr]
  unfold changeP at hr
  refine AWP.goA ?_
  refine AWP.condA ?_ ?_ <;> intro hc0
  · rw [if_pos (by simpa using hc0)] at hr
    have cc := start18N c p i n b0 bt hbf hs
    rw [hr] at cc
    refine AWP.goA ?_
    refine AWP.region ?_
    refine AOps.goA ?_
    refine AOps.conNB cc ?_
    refine AOps.goA ?_
    refine AOps.endA ?_
    simp only [Then]
    refine AWP.goA ?_
    refine AWP.ret ?_
    exact ⟨trivial, [240, 241, 242], by simp, .tup [PaN 240 241 p.procs.length p.bufs.length r.1, iv r.2], rfl, rfl, by simp only [keepO, hget, reduceIte, Nat.reduceEqDiff]; rw [convO_bf (ρ := idxIn [240, 241, 242] 0) (k := 242) (k' := 2) rfl]; rfl, rfl⟩
  rw [if_neg (by simpa using hc0)] at hr
  refine AWP.goA ?_
  refine AWP.condA ?_ ?_ <;> intro hc1
  · rw [if_pos (by simpa using hc1)] at hr
    have cc := stop20N p i b0 bt hbf hs
    rw [hr] at cc
    refine AWP.goA ?_
    refine AWP.region ?_
    refine AOps.goA ?_
    refine AOps.conNB cc ?_
    refine AOps.goA ?_
    refine AOps.endA ?_
    simp only [Then]
    refine AWP.goA ?_
    refine AWP.ret ?_
    exact ⟨trivial, [320, 321, 322], by simp, .tup [PaN 320 321 p.procs.length p.bufs.length r.1, iv r.2], rfl, rfl, by simp only [keepO, hget, reduceIte, Nat.reduceEqDiff]; rw [convO_bf (ρ := idxIn [320, 321, 322] 0) (k := 322) (k' := 2) rfl]; rfl, rfl⟩
  rw [if_neg (by simpa using hc1)] at hr
  refine AWP.goA ?_
  refine AWP.condA ?_ ?_ <;> intro hc2
  · rw [if_pos (by simpa using hc2)] at hr
    have cc := suspend30N c p i b0 bt hbf hs
    rw [hr] at cc
    refine AWP.goA ?_
    refine AWP.region ?_
    refine AOps.goA ?_
    refine AOps.conNB cc ?_
    refine AOps.goA ?_
    refine AOps.endA ?_
    simp only [Then]
    refine AWP.goA ?_
    refine AWP.ret ?_
    exact ⟨trivial, [408, 409, 410], by simp, .tup [PaN 408 409 p.procs.length p.bufs.length r.1, iv r.2], rfl, rfl, by simp only [keepO, hget, reduceIte, Nat.reduceEqDiff]; rw [convO_bf (ρ := idxIn [408, 409, 410] 0) (k := 410) (k' := 2) rfl]; rfl, rfl⟩
  rw [if_neg (by simpa using hc2)] at hr
  refine AWP.goA ?_
  refine AWP.condA ?_ ?_ <;> intro hc3
  · rw [if_pos (by simpa using hc3)] at hr
    have cc := resume31N p i b0 bt hbf hs
    rw [hr] at cc
    refine AWP.goA ?_
    refine AWP.region ?_
    refine AOps.goA ?_
    refine AOps.conNB cc ?_
    refine AOps.goA ?_
    refine AOps.endA ?_
    simp only [Then]
    refine AWP.goA ?_
    refine AWP.ret ?_
    exact ⟨trivial, [488, 489, 490], by simp, .tup [PaN 488 489 p.procs.length p.bufs.length r.1, iv r.2], rfl, rfl, by simp only [keepO, hget, reduceIte, Nat.reduceEqDiff]; rw [convO_bf (ρ := idxIn [488, 489, 490] 0) (k := 490) (k' := 2) rfl]; rfl, rfl⟩
  rw [if_neg (by simpa using hc3)] at hr
  refine AWP.goA ?_
  have cc := prio69N p i n b0 bt hbf hs
  rw [hr] at cc
  refine AWP.goA ?_
  refine AWP.region ?_
  refine AOps.goA ?_
  refine AOps.conNB cc ?_
  refine AOps.goA ?_
  refine AOps.endA ?_
  simp only [Then]
  refine AWP.goA ?_
  refine AWP.ret ?_
  exact ⟨trivial, [560, 561, 562], by simp, .tup [PaN 560 561 p.procs.length p.bufs.length r.1, iv r.2], rfl, rfl, by simp only [keepO, hget, reduceIte, Nat.reduceEqDiff]; rw [convO_bf (ρ := idxIn [560, 561, 562] 0) (k := 562) (k' := 2) rfl]; rfl, rfl⟩
end Go.Qd
