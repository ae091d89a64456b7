/- A part of the library of this claim: rules of an abstract machine (values in place of addresses), proved against the model, and contracts of the functions. -/
import Derived.Test.YtkenbgmadkelcaaW11
set_option linter.unusedVariables false
set_option linter.unusedSimpArgs false
set_option maxHeartbeats 8000000
set_option maxRecDepth 10000
namespace Go.Qd
open Go Go.Proofs
abbrev paRow (p : Part) : AObj := ⟨39, 15, true, [[iv p.mode, iv p.begun, iv p.next, Il p.mem, Pl p.procs, .lst (p.boards.map encBoard), .lst (p.bufs.map encBuf), .lst (p.semas.map encSema), .lst (p.events.map encEvent), .lst (p.samples.map encSample), .lst (p.queues.map encQueue), iv p.lat0, Il p.lines, iv p.lat2, Il p.given]]⟩
theorem take_same {α : Type} {a b : List α} {k : Nat} (ha : k < a.length) (hb : k < b.length) (h : a.take k = b.take k) (he : a[k] = b[k]) : a.take (k + 1) = b.take (k + 1) := by
  rw [List.take_succ_eq_append_getElem ha, List.take_succ_eq_append_getElem hb, h, he]
theorem get_ne {α : Type} {a b : List α} {k : Nat} (ha : k < a.length) (hb : k < b.length) (h : a[k] ≠ b[k]) : a ≠ b := fun e => by subst e; exact h rfl
theorem take_all_same {α : Type} {a b : List α} (hl : a.length = b.length) (h : a.take a.length = b.take a.length) : a = b := by
  rw [List.take_length, hl, List.take_length] at h; exact h
theorem eqWt (a b : Wait) : abin T10 .neq 102 (.agg (encWait a)) (.agg (encWait b)) = some (.bool (!decide (a = b))) := by
  have : abin T10 .neq 102 (.agg (encWait a)) (.agg (encWait b)) = some (.bool (!((a.proc == b.proc) && ((a.prio == b.prio) && ((a.value == b.value) && true))))) := rfl
  rw [this]
  congr 3
  obtain ⟨a1, a2, a3⟩ := a
  obtain ⟨b1, b2, b3⟩ := b
  rw [Bool.eq_iff_iff]
  simp
/-- ref10.waits -/
theorem waits81 (a b : List Wait) (ha : a.length ≤ 1000000) : Con Try.prog 81 [Wl a, Wl b] (.bool (decide (a = b))) [] := by
  refine ⟨⟨_, _, Try.func81, rfl, by decide⟩, ICall.of_body' T10_ok ⟨Try.func81, rfl, by decide⟩ (by simp [Try.f81]) ?_⟩
  refine AWP.goA ?_
  refine AWP.condA ?_ ?_ <;> intro hc
  · have hne : a ≠ b := fun e => by subst e; simp at hc
    refine AWP.goA ?_
    refine AWP.ret ?_
    exact ⟨trivial, [], by simp, .bool false, rfl, by rw [decide_eq_false hne]; rfl, rfl, rfl⟩
  have hl : a.length = b.length := by simp at hc; omega
  refine AWP.goA ?_
  refine AWP.loopT (fun k : Nat => ⟨0, Try.f81.ntmps, [(0, Wl a), (1, Wl b), (5, iv k)], [], []⟩) (fun k => k ≤ a.length ∧ a.take k = b.take k) (fun k => a.length - k) 0 (by simp)
    (Thin.to [] rfl rfl rfl rfl rfl (by simp [envIn, eget, eput]) rfl) ?_
  rintro k ⟨hk, hs⟩
  refine AWP.goA ?_
  refine AWP.condA ?_ ?_ <;> intro hc1
  · have hka : k < a.length := by simpa using hc1
    have hkb : k < b.length := by omega
    have hw := wrap_succ (show k < 9223372036854775807 by omega)
    have hA := And.intro (idx67 (l := a) hka) (And.intro (idx67 (l := b) hkb) (And.intro (fun (h : Heap) (w : Wait) => loadWt (h := h) (w := w)) eqWt))
    refine AWP.goA ?_
    apply AWP.anyR Zz_mixed
    focus
      (repeat (apply Trace.cons; (focus (first | exact Loc.opF hA)); (focus exact applyF hA)))
      exact Trace.nil _
    focus kernel_rfl
    simp only [Then, InBlock]
    refine AWP.condA ?_ ?_ <;> intro hc2
    · have hne : a ≠ b := get_ne hka hkb (by simpa using hc2)
      refine AWP.goA ?_
      refine AWP.ret ?_
      exact ⟨trivial, [], by simp, .bool false, rfl, by rw [decide_eq_false hne]; rfl, rfl, rfl⟩
    · have he : a[k] = b[k] := by simpa using hc2
      refine AWP.goF hw ?_
      exact ⟨k + 1, ⟨by omega, take_same hka hkb hs he⟩, by omega, Thin.to [] rfl rfl rfl rfl rfl (by simp [envIn, eget]) rfl⟩
  · have hke : k = a.length := by simp at hc1; omega
    subst hke
    have he : a = b := take_all_same hl hs
    refine AWP.goA ?_
    refine AWP.ret ?_
    exact ⟨trivial, [], by simp, .bool true, rfl, by rw [decide_eq_true he]; rfl, rfl, rfl⟩
/-- ref10.ints -/
theorem ints52 (a b : List Int) (ha : a.length ≤ 1000000) : Con Try.prog 52 [Il a, Il b] (.bool (decide (a = b))) [] := by
  refine ⟨⟨_, _, Try.func52, rfl, by decide⟩, ICall.of_body' T10_ok ⟨Try.func52, rfl, by decide⟩ (by simp [Try.f52]) ?_⟩
  refine AWP.goA ?_
  refine AWP.condA ?_ ?_ <;> intro hc
  · have hne : a ≠ b := fun e => by subst e; simp at hc
    refine AWP.goA ?_
    refine AWP.ret ?_
    exact ⟨trivial, [], by simp, .bool false, rfl, by rw [decide_eq_false hne]; rfl, rfl, rfl⟩
  have hl : a.length = b.length := by simp at hc; omega
  refine AWP.goA ?_
  refine AWP.loopT (fun k : Nat => ⟨0, Try.f52.ntmps, [(0, Il a), (1, Il b), (5, iv k)], [], []⟩) (fun k => k ≤ a.length ∧ a.take k = b.take k) (fun k => a.length - k) 0 (by simp)
    (Thin.to [] rfl rfl rfl rfl rfl (by simp [envIn, eget, eput]) rfl) ?_
  rintro k ⟨hk, hs⟩
  refine AWP.goA ?_
  refine AWP.condA ?_ ?_ <;> intro hc1
  · have hka : k < a.length := by simpa using hc1
    have hkb : k < b.length := by omega
    have hw := wrap_succ (show k < 9223372036854775807 by omega)
    have hA := And.intro (idx26 (l := a) hka) (And.intro (idx26 (l := b) hkb) (fun (h : Heap) (n : Int) => show aload T10 h 3 (.vptr (encI n)) = some (.pure (iv n)) from rfl))
    refine AWP.goA ?_
    apply AWP.anyR Zz_mixed
    focus
      (repeat (apply Trace.cons; (focus (first | exact Loc.opF hA)); (focus exact applyF hA)))
      exact Trace.nil _
    focus kernel_rfl
    simp only [Then, InBlock]
    refine AWP.condA ?_ ?_ <;> intro hc2
    · have hne : a ≠ b := get_ne hka hkb (by simpa using hc2)
      refine AWP.goA ?_
      refine AWP.ret ?_
      exact ⟨trivial, [], by simp, .bool false, rfl, by rw [decide_eq_false hne]; rfl, rfl, rfl⟩
    · have he : a[k] = b[k] := by simpa using hc2
      refine AWP.goF hw ?_
      exact ⟨k + 1, ⟨by omega, take_same hka hkb hs he⟩, by omega, Thin.to [] rfl rfl rfl rfl rfl (by simp [envIn, eget]) rfl⟩
  · have hke : k = a.length := by simp at hc1; omega
    subst hke
    have he : a = b := take_all_same hl hs
    refine AWP.goA ?_
    refine AWP.ret ?_
    exact ⟨trivial, [], by simp, .bool true, rfl, by rw [decide_eq_true he]; rfl, rfl, rfl⟩
end Go.Qd
