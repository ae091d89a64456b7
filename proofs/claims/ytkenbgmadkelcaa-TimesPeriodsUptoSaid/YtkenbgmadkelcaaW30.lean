/- A part of the library of this claim: rules of an abstract machine (values in place of addresses), proved against the model, and contracts of the functions. -/
import Derived.Test.YtkenbgmadkelcaaW29
import Derived.Test.YtkenbgmadkelcaaQaC
set_option linter.unusedVariables false
set_option linter.unusedSimpArgs false
set_option maxHeartbeats 8000000
set_option maxRecDepth 10000
namespace Go.Qd
open Go Go.Proofs
/-- times.behind -/
theorem behind78 (now ticks : Int) : Con Try.prog 78 [iv now, iv ticks] (iv (behindP now ticks)) [] := by
  refine ⟨⟨_, _, Try.func78, rfl, by decide⟩, ICall.of_body' T10_ok ⟨Try.func78, rfl, by decide⟩ (by simp [Try.f78]) ?_⟩
  refine AWP.goA ?_
  refine AWP.condA ?_ ?_ <;> intro hc
  · refine AWP.goA ?_
    refine AWP.ret ?_
    exact ⟨trivial, [], by simp, iv (IntKind.i64.wrap (now + ticks)), rfl, by rw [show behindP now ticks = _ from if_pos (by simpa using hc)]; rfl, rfl, rfl⟩
  · refine AWP.goA ?_
    refine AWP.ret ?_
    exact ⟨trivial, [], by simp, iv (-1), rfl, by rw [show behindP now ticks = _ from if_neg (by simpa using hc)]; rfl, rfl, rfl⟩
/-- Who has waited long enough. -/
def wokeB (now : Int) (x : Proc) : Bool := (x.state == 2) && (decide (x.till ≥ 0) && decide (x.till ≤ now))
/-- Who is late. -/
def lateB (now : Int) (x : Proc) : Bool := !((x.state == 0) || ((x.state == 2) && (x.kind == 2))) && (decide (x.due ≥ 0) && decide (x.due ≤ now))
/-- times.Wake$1 -/
theorem woke76 (now : Int) (x : Proc) : Con Try.prog 76 [.agg (encProc x), .vptr [iv now]] (.bool (wokeB now x)) [] := by
  simp only [encProc]
  refine ⟨⟨_, _, Try.func76, rfl, by decide⟩, ICall.of_body' T10_ok ⟨Try.func76, rfl, by decide⟩ (by simp [Try.f76]) ?_⟩
  unfold wokeB
  cases q0 : (x.state == 2 : Bool)
  · simp only [q0, Bool.true_and, Bool.false_and, Bool.or_true, Bool.true_or, Bool.or_false, Bool.false_or, Bool.not_true, Bool.not_false, Bool.and_true, Bool.and_false]
    refine AWP.goF (q0) ?_
    refine AWP.ret ?_
    exact ⟨trivial, [], by simp, .bool false, rfl, rfl, rfl, rfl⟩
  · cases q1 : (decide (x.till ≥ 0) : Bool)
    · simp only [q0, q1, Bool.true_and, Bool.false_and, Bool.or_true, Bool.true_or, Bool.or_false, Bool.false_or, Bool.not_true, Bool.not_false, Bool.and_true, Bool.and_false]
      refine AWP.goF (And.intro q1 q0) ?_
      refine AWP.ret ?_
      exact ⟨trivial, [], by simp, .bool false, rfl, rfl, rfl, rfl⟩
    · simp only [q0, q1, Bool.true_and, Bool.false_and, Bool.or_true, Bool.true_or, Bool.or_false, Bool.false_or, Bool.not_true, Bool.not_false, Bool.and_true, Bool.and_false]
      refine AWP.goF (And.intro q1 q0) ?_
      refine AWP.ret ?_
      exact ⟨trivial, [], by simp, .bool (decide (x.till ≤ now)), rfl, rfl, rfl, rfl⟩
/-- times.Late$1 -/
theorem late80 (now : Int) (x : Proc) : Con Try.prog 80 [.agg (encProc x), .vptr [iv now]] (.bool (lateB now x)) [] := by
  simp only [encProc]
  refine ⟨⟨_, _, Try.func80, rfl, by decide⟩, ICall.of_body' T10_ok ⟨Try.func80, rfl, by decide⟩ (by simp [Try.f80]) ?_⟩
  unfold lateB
  cases q0 : (x.state == 0 : Bool)
  · cases q1 : (x.state == 2 : Bool)
    · cases q2 : (decide (x.due ≥ 0) : Bool)
      · simp only [q0, q1, q2, Bool.true_and, Bool.false_and, Bool.or_true, Bool.true_or, Bool.or_false, Bool.false_or, Bool.not_true, Bool.not_false, Bool.and_true, Bool.and_false]
        refine AWP.goF (And.intro q2 (And.intro q1 q0)) ?_
        refine AWP.ret ?_
        exact ⟨trivial, [], by simp, .bool false, rfl, rfl, rfl, rfl⟩
      · simp only [q0, q1, q2, Bool.true_and, Bool.false_and, Bool.or_true, Bool.true_or, Bool.or_false, Bool.false_or, Bool.not_true, Bool.not_false, Bool.and_true, Bool.and_false]
        refine AWP.goF (And.intro q2 (And.intro q1 q0)) ?_
        refine AWP.ret ?_
        exact ⟨trivial, [], by simp, .bool (decide (x.due ≤ now)), rfl, rfl, rfl, rfl⟩
    · cases q2 : (x.kind == 2 : Bool)
      · cases q3 : (decide (x.due ≥ 0) : Bool)
        · simp only [q0, q1, q2, q3, Bool.true_and, Bool.false_and, Bool.or_true, Bool.true_or, Bool.or_false, Bool.false_or, Bool.not_true, Bool.not_false, Bool.and_true, Bool.and_false]
          refine AWP.goF (And.intro q3 (And.intro q2 (And.intro q1 q0))) ?_
          refine AWP.ret ?_
          exact ⟨trivial, [], by simp, .bool false, rfl, rfl, rfl, rfl⟩
        · simp only [q0, q1, q2, q3, Bool.true_and, Bool.false_and, Bool.or_true, Bool.true_or, Bool.or_false, Bool.false_or, Bool.not_true, Bool.not_false, Bool.and_true, Bool.and_false]
          refine AWP.goF (And.intro q3 (And.intro q2 (And.intro q1 q0))) ?_
          refine AWP.ret ?_
          exact ⟨trivial, [], by simp, .bool (decide (x.due ≤ now)), rfl, rfl, rfl, rfl⟩
      · simp only [q0, q1, q2, Bool.true_and, Bool.false_and, Bool.or_true, Bool.true_or, Bool.or_false, Bool.false_or, Bool.not_true, Bool.not_false, Bool.and_true, Bool.and_false]
        refine AWP.goF (And.intro q2 (And.intro q1 q0)) ?_
        refine AWP.ret ?_
        exact ⟨trivial, [], by simp, .bool false, rfl, rfl, rfl, rfl⟩
  · simp only [q0, Bool.true_and, Bool.false_and, Bool.or_true, Bool.true_or, Bool.or_false, Bool.false_or, Bool.not_true, Bool.not_false, Bool.and_true, Bool.and_false]
    refine AWP.goF (q0) ?_
    refine AWP.ret ?_
    exact ⟨trivial, [], by simp, .bool false, rfl, rfl, rfl, rfl⟩
/-- times.there -/
theorem there75 (p : Part) (i : Int) : Con Try.prog 75 [Pa p, iv i] (.bool (thereB p i)) [] := by
  refine ⟨⟨_, _, Try.func75, rfl, by decide⟩, ICall.of_body' T10_ok ⟨Try.func75, rfl, by decide⟩ (by simp [Try.f75]) ?_⟩
  unfold thereB
  cases q0 : (decide (i ≥ 0) : Bool)
  · simp only [q0, Bool.true_and, Bool.false_and, Bool.or_true, Bool.true_or, Bool.or_false, Bool.false_or, Bool.not_true, Bool.not_false, Bool.and_true, Bool.and_false]
    refine AWP.goF (q0) ?_
    refine AWP.ret ?_
    exact ⟨trivial, [], by simp, .bool false, rfl, rfl, rfl, rfl⟩
  · simp only [q0, Bool.true_and, Bool.false_and, Bool.or_true, Bool.true_or, Bool.or_false, Bool.false_or, Bool.not_true, Bool.not_false, Bool.and_true, Bool.and_false]
    refine AWP.goF (q0) ?_
    refine AWP.ret ?_
    exact ⟨trivial, [], by simp, .bool (decide (i < (p.procs.length : Int))), rfl, rfl, rfl, rfl⟩
end Go.Qd
