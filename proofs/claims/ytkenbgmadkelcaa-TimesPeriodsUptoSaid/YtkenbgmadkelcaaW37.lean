/- A part of the library of this claim: rules of an abstract machine (values in place of addresses), proved against the model, and contracts of the functions. -/
import Derived.Test.YtkenbgmadkelcaaW36
import Derived.Test.YtkenbgmadkelcaaW26
set_option linter.unusedVariables false
set_option linter.unusedSimpArgs false
set_option maxHeartbeats 8000000
set_option maxRecDepth 10000
namespace Go.Qd
open Go Go.Proofs
/-- ref01.Same -/
theorem ints41 (a b : List Int) (ha : a.length ≤ 1000000) : Con Try.prog 41 [Il a, Il b] (.bool (decide (a = b))) [] := by
  refine ⟨⟨_, _, Try.func41, rfl, by decide⟩, ICall.of_body' T10_ok ⟨Try.func41, rfl, by decide⟩ (by simp [Try.f41]) ?_⟩
  refine AWP.goA ?_
  refine AWP.condA ?_ ?_ <;> intro hc
  · have hne : a ≠ b := fun e => by subst e; simp at hc
    refine AWP.goA ?_
    refine AWP.ret ?_
    exact ⟨trivial, [], by simp, .bool false, rfl, by rw [decide_eq_false hne]; rfl, rfl, rfl⟩
  have hl : a.length = b.length := by simp at hc; omega
  refine AWP.goA ?_
  refine AWP.loopT (fun k : Nat => ⟨0, Try.f41.ntmps, [(0, Il a), (1, Il b), (5, iv k)], [], []⟩) (fun k => k ≤ a.length ∧ a.take k = b.take k) (fun k => a.length - k) 0 (by simp)
    (Thin.to [] rfl rfl rfl rfl rfl (by simp [envIn, eget, eput]) rfl) ?_
  rintro k ⟨hk, hs⟩
  refine AWP.goA ?_
  refine AWP.condA ?_ ?_ <;> intro hc1
  · have hka : k < a.length := by simpa using hc1
    have hkb : k < b.length := by omega
    have hw := wrap_succ (show k < 9223372036854775807 by omega)
    have hA := And.intro (idx26 (l := a) hka) (And.intro (idx26 (l := b) hkb) (fun (h : Heap) (n : Int) => show aload T10 h 3 (.vptr (encI n)) = some (.pure (iv n)) from rfl))
    refine AWP.goA ?_
    apply AWP.anyR Zz_mixed
    focus
      (repeat (apply Trace.cons; (focus (first | exact Loc.opF hA)); (focus exact applyF hA)))
      exact Trace.nil _
    focus kernel_rfl
    simp only [Then, InBlock]
    refine AWP.condA ?_ ?_ <;> intro hc2
    · have hne : a ≠ b := get_ne hka hkb (by simpa using hc2)
      refine AWP.goA ?_
      refine AWP.ret ?_
      exact ⟨trivial, [], by simp, .bool false, rfl, by rw [decide_eq_false hne]; rfl, rfl, rfl⟩
    · have he : a[k] = b[k] := by simpa using hc2
      refine AWP.goF hw ?_
      exact ⟨k + 1, ⟨by omega, take_same hka hkb hs he⟩, by omega, Thin.to [] rfl rfl rfl rfl rfl (by simp [envIn, eget]) rfl⟩
  · have hke : k = a.length := by simp at hc1; omega
    subst hke
    have he : a = b := take_all_same hl hs
    refine AWP.goA ?_
    refine AWP.ret ?_
    exact ⟨trivial, [], by simp, .bool true, rfl, by rw [decide_eq_true he]; rfl, rfl, rfl⟩
/-! The chapter's example. -/
def c1 : Conf := ⟨0, [], [⟨0, 0, 0, 0, false⟩], 0, [], [], 0, [], [], 0, []⟩
def y1 : Proc := ⟨1, 0, false, 0, 0, 0, 0, 0, 0, -1, 0, 0, -1, -1, false, 0, 0, 0⟩
def y2 : Proc := ⟨2, 0, false, 0, 0, 0, 0, 0, 0, 15, 1, 0, -1, -1, false, 0, 0, 7⟩
def y3 : Proc := ⟨1, 0, false, 0, 0, 0, 0, 0, 1, -1, 0, 0, -1, -1, true, 0, 0, 7⟩
theorem ex11a : opP (fun n => startP c1 (pOf 0 (dormP 0)) n 0) (pOf 0 (dormP 0)) 0 = (pOf 1 y1, 0) := by rfl
theorem ex11b : delayP (pOf 1 y1) 0 5 10 = (pOf 1 y2, 6) := by rfl
theorem ex11c : wakeP c1 14 (pOf 1 y2) = pOf 1 y2 := by rfl
theorem ex11d : wakeP c1 15 (pOf 1 y2) = pOf 2 y3 := by rfl
/-- law11.awake -/
theorem awake34 : Con Try.prog 34 [] (.bool true) [] := by
  refine ⟨⟨_, _, Try.func34, rfl, by decide⟩, ICall.of_body' T10_ok ⟨Try.func34, rfl, by decide⟩ (by simp [Try.f34]) ?_⟩
  have k1 := new27 c1 (by simp [c1])
  have k2 := start18 c1 (pOf 0 (dormP 0)) 0 0 (small_pOf _ _)
  rw [ex11a] at k2
  have k3 := delay35 (pOf 1 y1) 0 5 10 (small_pOf _ _)
  rw [ex11b] at k3
  have k4 := wake36 c1 (pOf 1 y2) 14 (small_pOf _ _)
  rw [ex11c] at k4
  have k5 := wake36 c1 (pOf 1 y2) 15 (small_pOf _ _)
  rw [ex11d] at k5
  refine AWP.goC (And.intro k1 (And.intro k2 (And.intro k3 (And.intro k4 k5)))) ?_
  have h2 : ∀ h : Heap, aindexAddr' T10 h 29 (.lst ([y2].map encProc)) 0 = some (.vptr (encProc y2)) := idx29 (l := [y2]) (i := 0) (by decide)
  have h3 : ∀ h : Heap, aindexAddr' T10 h 29 (.lst ([y3].map encProc)) 0 = some (.vptr (encProc y3)) := idx29 (l := [y3]) (i := 0) (by decide)
  refine AWP.goF (And.intro h2 h3) ?_
  refine AWP.ret ?_
  exact ⟨trivial, [], by simp, .bool true, rfl, rfl, rfl, rfl⟩
end Go.Qd
