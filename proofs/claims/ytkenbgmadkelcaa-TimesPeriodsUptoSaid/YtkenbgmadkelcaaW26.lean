/- A part of the library of this claim: rules of an abstract machine (values in place of addresses), proved against the model, and contracts of the functions. -/
import Derived.Test.YtkenbgmadkelcaaW17
set_option linter.unusedVariables false
set_option linter.unusedSimpArgs false
set_option maxHeartbeats 8000000
set_option maxRecDepth 10000
namespace Go.Qd
open Go Go.Proofs
/-! The chapter's example. -/
def c0 : Conf := ⟨0, [], [⟨3, 0, 5, 0, false⟩], 0, [], [], 0, [], [], 0, []⟩
def pOf (next : Int) (x : Proc) : Part := ⟨0, 0, next, [], [x], [], [], [], [], [], [], 0, [], 0, []⟩
def x1 : Proc := ⟨1, 3, false, 0, 0, 0, 0, 0, 0, -1, 0, 0, 15, -1, false, 0, 0, 0⟩
theorem small_pOf (n : Int) (x : Proc) : Small 1000000 (pOf n x) := by
  constructor <;> simp [pOf]
theorem ex1 : opP (fun n => startP c0 (pOf 0 (dormP 3)) n 10) (pOf 0 (dormP 3)) 0 = (pOf 1 x1, 0) := by rfl
theorem ex2 : opP (fun n => startP c0 (pOf 1 x1) n 10) (pOf 1 x1) 0 = (pOf 1 x1, 1) := by rfl
theorem ex3 : opP (fun n => stopP (pOf 1 x1) n) (pOf 1 x1) 0 = (pOf 1 (dormP 3), 0) := by rfl
theorem ex4 : opP (fun n => stopP (pOf 1 (dormP 3)) n) (pOf 1 (dormP 3)) 0 = (pOf 1 (dormP 3), 1) := by rfl
/-- law10.awake -/
theorem awake16 : Con Try.prog 16 [] (.bool true) [] := by
  refine ⟨⟨_, _, Try.func16, rfl, by decide⟩, ICall.of_body' T10_ok ⟨Try.func16, rfl, by decide⟩ (by simp [Try.f16]) ?_⟩
  have k1 := new27 c0 (by simp [c0])
  have k2 := start18 c0 (pOf 0 (dormP 3)) 0 10 (small_pOf _ _)
  rw [ex1] at k2
  have k3 := start18 c0 (pOf 1 x1) 0 10 (small_pOf _ _)
  rw [ex2] at k3
  have k4 := stop20 (pOf 1 x1) 0 (small_pOf _ _)
  rw [ex3] at k4
  have k5 := stop20 (pOf 1 (dormP 3)) 0 (small_pOf _ _)
  rw [ex4] at k5
  refine AWP.goC (And.intro k1 (And.intro k2 (And.intro k3 (And.intro k4 k5)))) ?_
  refine AWP.ret ?_
  exact ⟨trivial, [], by simp, .bool true, rfl, rfl, rfl, rfl⟩
end Go.Qd
