/- A part of the library of this claim: rules of an abstract machine (values in place of addresses), proved against the model, and contracts of the functions. -/
import Derived.Test.YtkenbgmadkelcaaW27
import Derived.Test.YtkenbgmadkelcaaW26
import Derived.Test.YtkenbgmadkelcaaW25
set_option linter.unusedVariables false
set_option linter.unusedSimpArgs false
set_option maxHeartbeats 8000000
set_option maxRecDepth 10000
namespace Go.Qd
open Go Go.Proofs
/-- law10.ProcsChange -/
theorem law7 (c : Conf) (p : Part) (i n : Int) (hf : Fits10 p) : Con Try.prog 7 [Cf c, Pa p, iv i, iv n] (.bool true) [] := by
  refine ⟨⟨_, _, Try.func7, rfl, by decide⟩, ICall.of_body' T10_ok ⟨Try.func7, rfl, by decide⟩ (by simp [Try.f7]) ?_⟩
  have c17 := few17 p hf
  by_cases hfew : fewP p
  rotate_left
  · rw [decide_eq_false hfew] at c17
    refine AWP.goC (And.intro awake16 c17) ?_
    refine AWP.condA ?_ ?_ <;> intro hz
    · refine AWP.goA ?_
      refine AWP.ret ?_
      exact ⟨trivial, [], by simp, .bool true, rfl, rfl, rfl, rfl⟩
    · cases hz
  rw [decide_eq_true hfew] at c17
  have hs := hfew.small
  refine AWP.goC (And.intro awake16 c17) ?_
  refine AWP.condA ?_ ?_ <;> intro hz
  · refine AWP.goA ?_
    refine AWP.ret ?_
    exact ⟨trivial, [], by simp, .bool true, rfl, rfl, rfl, rfl⟩
  have q0 : ¬ ((c.procs.length : Int) > 20) := by simpa using hz
  refine AWP.goA ?_
  refine AWP.loopT (fun k : Nat => ⟨0, Try.f7.ntmps, [(2, iv i), (3, iv n), (4, .ptr 32 0 0), (5, .ptr 40 0 0), (11, iv k)], [(32, ⟨28, 11, true, [encConf c]⟩), (40, paRow p)], []⟩) (fun k => k ≤ 5) (fun k => 5 - k) 0 (by simp)
    (Thin.to [] rfl rfl rfl rfl rfl (by simp [envIn, eget, eput]) (by simp [killsH])) ?_
  rintro k hk
  refine AWP.goA ?_
  refine AWP.condA ?_ ?_ <;> intro hc1
  · have hk5 : k < 5 := by simp at hc1; omega
    have hw := wrap_succ (show k < 9223372036854775807 by omega)
    have c32 := change32 c p k i n hs
    have c33 := should33 c p k i n hs
    have hg := good_change c p k i n
    obtain ⟨r, hr⟩ : ∃ r, changeP c p k i n = r := ⟨_, rfl⟩
    rw [hr] at c32 c33 hg
    have c19 := same19 r.1 r.1 (hg.small hs)
    rw [decide_eq_true rfl] at c19
    have hb : (r.2 != r.2) = false := by simp
    refine AWP.goFC hb (And.intro c32 (And.intro c33 c19)) ?_
    refine AWP.condA ?_ ?_ <;> intro hz
    · cases hz
    refine AWP.goF hw ?_
    exact ⟨k + 1, by omega, by omega, Thin.to [96, 112] rfl rfl rfl rfl rfl (by simp [envIn, eget]) rfl⟩
  · refine AWP.goA ?_
    refine AWP.ret ?_
    exact ⟨trivial, [], by simp, .bool true, rfl, rfl, rfl, rfl⟩
end Go.Qd
