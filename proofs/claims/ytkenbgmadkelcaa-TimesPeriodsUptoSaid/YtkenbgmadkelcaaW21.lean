/- A part of the library of this claim: rules of an abstract machine (values in place of addresses), proved against the model, and contracts of the functions. -/
import Derived.Test.YtkenbgmadkelcaaW20
set_option linter.unusedVariables false
set_option linter.unusedSimpArgs false
set_option maxHeartbeats 8000000
set_option maxRecDepth 10000
namespace Go.Qd
open Go Go.Proofs
def changeP (c : Conf) (p : Part) (k i n : Int) : Part × Int := if k = 0 then opP (fun m => startP c p m n) p i else if k = 1 then opP (fun m => stopP p m) p i else if k = 2 then opP (fun m => suspendP c p m) p i else if k = 3 then opP (fun m => resumeP p m) p i else opP (fun m => prioP p m n) p i
/-- law10.change -/
theorem change32 (c : Conf) (p : Part) (k i n : Int) (hs : Small 1000000 p) : Con Try.prog 32 [Cf c, Pa p, iv k, iv i, iv n] (.tup [Pa (changeP c p k i n).1, iv (changeP c p k i n).2]) [] := by
  refine ⟨⟨_, _, Try.func32, rfl, by decide⟩, ICall.of_body' T10_ok ⟨Try.func32, rfl, by decide⟩ (by simp [Try.f32]) ?_⟩
  obtain ⟨r, hr⟩ : ∃ r, changeP c p k i n = r := ⟨_, rfl⟩
  rw [hr]
  unfold changeP at hr
  refine AWP.goA ?_
  refine AWP.condA ?_ ?_ <;> intro hc0
  · rw [if_pos (by simpa using hc0)] at hr
    have cc := start18 c p i n hs
    rw [hr] at cc
    refine AWP.goC cc ?_
    refine AWP.ret ?_
    exact ⟨trivial, [], by simp, .tup [Pa r.1, iv r.2], rfl, rfl, rfl, rfl⟩
  rw [if_neg (by simpa using hc0)] at hr
  refine AWP.goA ?_
  refine AWP.condA ?_ ?_ <;> intro hc1
  · rw [if_pos (by simpa using hc1)] at hr
    have cc := stop20 p i hs
    rw [hr] at cc
    refine AWP.goC cc ?_
    refine AWP.ret ?_
    exact ⟨trivial, [], by simp, .tup [Pa r.1, iv r.2], rfl, rfl, rfl, rfl⟩
  rw [if_neg (by simpa using hc1)] at hr
  refine AWP.goA ?_
  refine AWP.condA ?_ ?_ <;> intro hc2
  · rw [if_pos (by simpa using hc2)] at hr
    have cc := suspend30 c p i hs
    rw [hr] at cc
    refine AWP.goC cc ?_
    refine AWP.ret ?_
    exact ⟨trivial, [], by simp, .tup [Pa r.1, iv r.2], rfl, rfl, rfl, rfl⟩
  rw [if_neg (by simpa using hc2)] at hr
  refine AWP.goA ?_
  refine AWP.condA ?_ ?_ <;> intro hc3
  · rw [if_pos (by simpa using hc3)] at hr
    have cc := resume31 p i hs
    rw [hr] at cc
    refine AWP.goC cc ?_
    refine AWP.ret ?_
    exact ⟨trivial, [], by simp, .tup [Pa r.1, iv r.2], rfl, rfl, rfl, rfl⟩
  rw [if_neg (by simpa using hc3)] at hr
  refine AWP.goA ?_
  have cc := prio69 p i n hs
  rw [hr] at cc
  refine AWP.goC cc ?_
  refine AWP.ret ?_
  exact ⟨trivial, [], by simp, .tup [Pa r.1, iv r.2], rfl, rfl, rfl, rfl⟩
/-- law10.should -/
theorem should33 (c : Conf) (p : Part) (k i n : Int) (hs : Small 1000000 p) : Con Try.prog 33 [Cf c, Pa p, iv k, iv i, iv n] (.tup [Pa (changeP c p k i n).1, iv (changeP c p k i n).2]) [] := by
  refine ⟨⟨_, _, Try.func33, rfl, by decide⟩, ICall.of_body' T10_ok ⟨Try.func33, rfl, by decide⟩ (by simp [Try.f33]) ?_⟩
  obtain ⟨r, hr⟩ : ∃ r, changeP c p k i n = r := ⟨_, rfl⟩
  rw [hr]
  unfold changeP at hr
  refine AWP.goA ?_
  refine AWP.condA ?_ ?_ <;> intro hc0
  · rw [if_pos (by simpa using hc0)] at hr
    have cc := rstart70 c p i n hs
    rw [hr] at cc
    refine AWP.goC cc ?_
    refine AWP.ret ?_
    exact ⟨trivial, [], by simp, .tup [Pa r.1, iv r.2], rfl, rfl, rfl, rfl⟩
  rw [if_neg (by simpa using hc0)] at hr
  refine AWP.goA ?_
  refine AWP.condA ?_ ?_ <;> intro hc1
  · rw [if_pos (by simpa using hc1)] at hr
    have cc := rstop71 p i hs
    rw [hr] at cc
    refine AWP.goC cc ?_
    refine AWP.ret ?_
    exact ⟨trivial, [], by simp, .tup [Pa r.1, iv r.2], rfl, rfl, rfl, rfl⟩
  rw [if_neg (by simpa using hc1)] at hr
  refine AWP.goA ?_
  refine AWP.condA ?_ ?_ <;> intro hc2
  · rw [if_pos (by simpa using hc2)] at hr
    have cc := rsuspend72 c p i hs
    rw [hr] at cc
    refine AWP.goC cc ?_
    refine AWP.ret ?_
    exact ⟨trivial, [], by simp, .tup [Pa r.1, iv r.2], rfl, rfl, rfl, rfl⟩
  rw [if_neg (by simpa using hc2)] at hr
  refine AWP.goA ?_
  refine AWP.condA ?_ ?_ <;> intro hc3
  · rw [if_pos (by simpa using hc3)] at hr
    have cc := rresume73 p i hs
    rw [hr] at cc
    refine AWP.goC cc ?_
    refine AWP.ret ?_
    exact ⟨trivial, [], by simp, .tup [Pa r.1, iv r.2], rfl, rfl, rfl, rfl⟩
  rw [if_neg (by simpa using hc3)] at hr
  refine AWP.goA ?_
  have cc := rprio74 p i n hs
  rw [hr] at cc
  refine AWP.goC cc ?_
  refine AWP.ret ?_
  exact ⟨trivial, [], by simp, .tup [Pa r.1, iv r.2], rfl, rfl, rfl, rfl⟩
end Go.Qd
