/- A part of the library of this claim: rules of an abstract machine (values in place of addresses), proved against the model, and contracts of the functions. -/
import Derived.Test.YtkenbgmadkelcaaW22
set_option linter.unusedVariables false
set_option linter.unusedSimpArgs false
set_option maxHeartbeats 8000000
set_option maxRecDepth 10000
namespace Go.Qd
open Go Go.Proofs
def sameO (a b : Part) : Prop := a.boards = b.boards ∧ a.bufs = b.bufs ∧ a.semas = b.semas ∧ a.events = b.events
instance (a b : Part) : Decidable (sameO a b) := inferInstanceAs (Decidable (_ ∧ _ ∧ _ ∧ _))
/-- ref10.objects -/
theorem objects53 (a b : Part) (hs : Small 1000000 a) : Con Try.prog 53 [Pa a, Pa b] (.bool (decide (sameO a b))) [] := by
  refine ⟨⟨_, _, Try.func53, rfl, by decide⟩, ICall.of_body' T10_ok ⟨Try.func53, rfl, by decide⟩ (by simp [Try.f53]) ?_⟩
  refine AWP.goA ?_
  by_cases q0 : ¬ ((a.boards.length : Int) = (b.boards.length : Int))
  · have q0b : ((a.boards.length : Int) != (b.boards.length : Int)) = true := by simpa using q0
    have q0n := (fun h : sameO a b => q0 (by rw [h.1]))
    have q0A := q0b
    refine AWP.goF q0A ?_
    refine AWP.condA ?_ ?_ <;> intro hz
    · refine AWP.goA ?_
      refine AWP.ret ?_
      exact ⟨trivial, [], by simp, .bool false, rfl, by rw [decide_eq_false q0n]; rfl, rfl, rfl⟩
    · cases hz
  have q0e := Decidable.not_not.1 q0
  have q0b : ((a.boards.length : Int) != (b.boards.length : Int)) = false := by simpa using q0e
  by_cases q1 : ¬ ((a.bufs.length : Int) = (b.bufs.length : Int))
  · have q1b : ((a.bufs.length : Int) != (b.bufs.length : Int)) = true := by simpa using q1
    have q1n := (fun h : sameO a b => q1 (by rw [h.2.1]))
    have q1A := And.intro q0b (q1b)
    refine AWP.goF q1A ?_
    refine AWP.condA ?_ ?_ <;> intro hz
    · refine AWP.goA ?_
      refine AWP.ret ?_
      exact ⟨trivial, [], by simp, .bool false, rfl, by rw [decide_eq_false q1n]; rfl, rfl, rfl⟩
    · cases hz
  have q1e := Decidable.not_not.1 q1
  have q1b : ((a.bufs.length : Int) != (b.bufs.length : Int)) = false := by simpa using q1e
  by_cases q2 : ¬ ((a.semas.length : Int) = (b.semas.length : Int))
  · have q2b : ((a.semas.length : Int) != (b.semas.length : Int)) = true := by simpa using q2
    have q2n := (fun h : sameO a b => q2 (by rw [h.2.2.1]))
    have q2A := And.intro q0b (And.intro q1b (q2b))
    refine AWP.goF q2A ?_
    refine AWP.condA ?_ ?_ <;> intro hz
    · refine AWP.goA ?_
      refine AWP.ret ?_
      exact ⟨trivial, [], by simp, .bool false, rfl, by rw [decide_eq_false q2n]; rfl, rfl, rfl⟩
    · cases hz
  have q2e := Decidable.not_not.1 q2
  have q2b : ((a.semas.length : Int) != (b.semas.length : Int)) = false := by simpa using q2e
  have qA := And.intro q0b (And.intro q1b (q2b))
  refine AWP.goF qA ?_
  refine AWP.condA ?_ ?_ <;> intro hz
  · have q3 : ¬ ((a.events.length : Int) = (b.events.length : Int)) := by simpa using hz
    have q3n := (fun h : sameO a b => q3 (by rw [h.2.2.2]))
    refine AWP.goA ?_
    refine AWP.ret ?_
    exact ⟨trivial, [], by simp, .bool false, rfl, by rw [decide_eq_false q3n]; rfl, rfl, rfl⟩
  have q3e : (a.events.length : Int) = (b.events.length : Int) := by simpa using hz
  refine AWP.goA ?_
  have boardslen : a.boards.length = b.boards.length := by have := q0e; omega
  refine AWP.loopT (fun k : Nat => ⟨0, Try.f53.ntmps, [(2, .ptr 16 0 0), (3, .ptr 24 0 0), (5, iv k)], [(16, paRow a), (24, paRow b)], []⟩) (fun k => k ≤ a.boards.length ∧ a.boards.take k = b.boards.take k) (fun k => a.boards.length - k) 0 (by simp)
    (Thin.to [] rfl rfl rfl rfl rfl (by simp [envIn, eget, eput]) (by simp [killsH])) ?_
  rintro k ⟨hk, hsm⟩
  refine AWP.goA ?_
  refine AWP.condA ?_ ?_ <;> intro hc1
  · have hka : k < a.boards.length := by simpa using hc1
    have hkb : k < b.boards.length := by omega
    have hw := wrap_succ (show k < 9223372036854775807 by have := hs.boards; omega)
    have hia := idx30 (l := a.boards) hka
    have hib := idx30 (l := b.boards) hkb
    obtain ⟨x, hx⟩ : ∃ x, a.boards[k] = x := ⟨_, rfl⟩
    obtain ⟨y, hy⟩ : ∃ y, b.boards[k] = y := ⟨_, rfl⟩
    have hxm : x ∈ a.boards := hx ▸ List.getElem_mem hka
    rw [hx] at hia
    rw [hy] at hib
    simp only [encBoard] at hia hib
    have hne : x ≠ y → ¬ sameO a b := fun hn h => hn (by rw [← hx, ← hy]; exact (getElem_congr_coll h.1))
    have hA := And.intro hia hib
    have cc0 := waits81 x.l y.l (hs.boardL x hxm)
    refine AWP.goA ?_
    apply AWP.anyR Zz_mixed
    focus
      (repeat (apply Trace.cons; (focus (first | exact Loc.opF hA | exact Loc.opYesF hA | exact Loc.opNoA | exact Loc.conA cc0)); (focus exact applyF hA)))
      exact Trace.nil _
    focus kernel_rfl
    simp only [Then, InBlock]
    by_cases ce0 : x.l = y.l
    rotate_left
    · rw [decide_eq_false ce0]
      have hn := hne (fun e => ce0 (by rw [e]))
      refine AWP.goA ?_
      refine AWP.condA ?_ ?_ <;> intro hz
      · refine AWP.goA ?_
        refine AWP.ret ?_
        exact ⟨trivial, [], by simp, .bool false, rfl, by rw [decide_eq_false hn]; rfl, rfl, rfl⟩
      · cases hz
    rw [decide_eq_true ce0]
    by_cases r0 : ¬ (x.is = y.is)
    · have r0b : ((x.is != y.is) = true) ∧ ((!(x.is == y.is)) = true) := by simpa using r0
      have r0n := hne (fun e => r0 (by rw [e]))
      have r0A := And.intro hA (r0b)
      refine AWP.goA ?_
      apply AWP.anyR Zz_mixed
      focus
        (repeat (apply Trace.cons; (focus (first | exact Loc.opF r0A | exact Loc.opYesF r0A | exact Loc.opNoA)); (focus exact applyF r0A)))
        exact Trace.nil _
      focus kernel_rfl
      simp only [Then, InBlock]
      refine AWP.condA ?_ ?_ <;> intro hz
      · refine AWP.goA ?_
        refine AWP.ret ?_
        exact ⟨trivial, [], by simp, .bool false, rfl, by rw [decide_eq_false r0n]; rfl, rfl, rfl⟩
      · cases hz
    have r0e := Decidable.not_not.1 r0
    have r0b : ((x.is != y.is) = false) ∧ ((!(x.is == y.is)) = false) := by simpa using r0e
    have rA := And.intro hA (r0b)
    refine AWP.goA ?_
    apply AWP.anyR Zz_mixed
    focus
      (repeat (apply Trace.cons; (focus (first | exact Loc.opF rA | exact Loc.opYesF rA | exact Loc.opNoA)); (focus exact applyF rA)))
      exact Trace.nil _
    focus kernel_rfl
    simp only [Then, InBlock]
    refine AWP.condA ?_ ?_ <;> intro hz
    · have r1 : ¬ (x.value = y.value) := by simpa using hz
      have r1n := hne (fun e => r1 (by rw [e]))
      refine AWP.goA ?_
      refine AWP.ret ?_
      exact ⟨trivial, [], by simp, .bool false, rfl, by rw [decide_eq_false r1n]; rfl, rfl, rfl⟩
    have r1e : x.value = y.value := by simpa using hz
    refine AWP.goF hw ?_
    have hxy : x = y := by obtain ⟨x0, x1, x2⟩ := x; obtain ⟨y0, y1, y2⟩ := y; simp_all
    exact ⟨k + 1, ⟨by omega, take_same hka hkb hsm (by rw [hx, hy, hxy])⟩, by omega, Thin.to [] rfl rfl rfl rfl rfl (by simp [envIn, eget]) rfl⟩
  have boardsk : k = a.boards.length := by simp at hc1; omega
  subst boardsk
  have boardseq : a.boards = b.boards := take_all_same boardslen hsm
  refine AWP.goA ?_
  have bufslen : a.bufs.length = b.bufs.length := by have := q1e; omega
  refine AWP.loopT (fun k : Nat => ⟨0, Try.f53.ntmps, [(2, .ptr 16 0 0), (3, .ptr 24 0 0), (7, iv k)], [(16, paRow a), (24, paRow b)], []⟩) (fun k => k ≤ a.bufs.length ∧ a.bufs.take k = b.bufs.take k) (fun k => a.bufs.length - k) 0 (by simp)
    (Thin.to [] rfl rfl rfl rfl rfl (by simp [envIn, eget, eput]) (by simp [killsH])) ?_
  rintro k ⟨hk, hsm⟩
  refine AWP.goA ?_
  refine AWP.condA ?_ ?_ <;> intro hc1
  · have hka : k < a.bufs.length := by simpa using hc1
    have hkb : k < b.bufs.length := by omega
    have hw := wrap_succ (show k < 9223372036854775807 by have := hs.bufs; omega)
    have hia := idx31 (l := a.bufs) hka
    have hib := idx31 (l := b.bufs) hkb
    obtain ⟨x, hx⟩ : ∃ x, a.bufs[k] = x := ⟨_, rfl⟩
    obtain ⟨y, hy⟩ : ∃ y, b.bufs[k] = y := ⟨_, rfl⟩
    have hxm : x ∈ a.bufs := hx ▸ List.getElem_mem hka
    rw [hx] at hia
    rw [hy] at hib
    simp only [encBuf] at hia hib
    have hne : x ≠ y → ¬ sameO a b := fun hn h => hn (by rw [← hx, ← hy]; exact (getElem_congr_coll h.2.1))
    have hA := And.intro hia hib
    have cc0 := waits81 x.l y.l (hs.bufL x hxm)
    have cc1 := ints52 x.vals y.vals (hs.bufV x hxm)
    refine AWP.goA ?_
    apply AWP.anyR Zz_mixed
    focus
      (repeat (apply Trace.cons; (focus (first | exact Loc.opF hA | exact Loc.opYesF hA | exact Loc.opNoA | exact Loc.conA cc0)); (focus exact applyF hA)))
      exact Trace.nil _
    focus kernel_rfl
    simp only [Then, InBlock]
    refine AWP.goA ?_
    apply AWP.anyR Zz_mixed
    focus
      (repeat (apply Trace.cons; (focus (first | exact Loc.opF hA | exact Loc.opYesF hA | exact Loc.opNoA | exact Loc.conA cc1)); (focus exact applyF hA)))
      exact Trace.nil _
    focus kernel_rfl
    simp only [Then, InBlock]
    by_cases ce0 : x.l = y.l
    rotate_left
    · rw [decide_eq_false ce0]
      have hn := hne (fun e => ce0 (by rw [e]))
      refine AWP.goA ?_
      refine AWP.condA ?_ ?_ <;> intro hz
      · refine AWP.goA ?_
        refine AWP.ret ?_
        exact ⟨trivial, [], by simp, .bool false, rfl, by rw [decide_eq_false hn]; rfl, rfl, rfl⟩
      · cases hz
    rw [decide_eq_true ce0]
    by_cases ce1 : x.vals = y.vals
    rotate_left
    · rw [decide_eq_false ce1]
      have hn := hne (fun e => ce1 (by rw [e]))
      refine AWP.goA ?_
      refine AWP.condA ?_ ?_ <;> intro hz
      · refine AWP.goA ?_
        refine AWP.ret ?_
        exact ⟨trivial, [], by simp, .bool false, rfl, by rw [decide_eq_false hn]; rfl, rfl, rfl⟩
      · cases hz
    rw [decide_eq_true ce1]
    by_cases r0 : ¬ (x.depth = y.depth)
    · have r0b : (x.depth != y.depth) = true := by simpa using r0
      have r0n := hne (fun e => r0 (by rw [e]))
      have r0A := And.intro hA (r0b)
      refine AWP.goA ?_
      apply AWP.anyR Zz_mixed
      focus
        (repeat (apply Trace.cons; (focus (first | exact Loc.opF r0A | exact Loc.opYesF r0A | exact Loc.opNoA)); (focus exact applyF r0A)))
        exact Trace.nil _
      focus kernel_rfl
      simp only [Then, InBlock]
      refine AWP.condA ?_ ?_ <;> intro hz
      · refine AWP.goA ?_
        refine AWP.ret ?_
        exact ⟨trivial, [], by simp, .bool false, rfl, by rw [decide_eq_false r0n]; rfl, rfl, rfl⟩
      · cases hz
    have r0e := Decidable.not_not.1 r0
    have r0b : (x.depth != y.depth) = false := by simpa using r0e
    have rA := And.intro hA (r0b)
    refine AWP.goA ?_
    apply AWP.anyR Zz_mixed
    focus
      (repeat (apply Trace.cons; (focus (first | exact Loc.opF rA | exact Loc.opYesF rA | exact Loc.opNoA)); (focus exact applyF rA)))
      exact Trace.nil _
    focus kernel_rfl
    simp only [Then, InBlock]
    refine AWP.condA ?_ ?_ <;> intro hz
    · have r1 : ¬ (x.rk = y.rk) := by simpa using hz
      have r1n := hne (fun e => r1 (by rw [e]))
      refine AWP.goA ?_
      refine AWP.ret ?_
      exact ⟨trivial, [], by simp, .bool false, rfl, by rw [decide_eq_false r1n]; rfl, rfl, rfl⟩
    have r1e : x.rk = y.rk := by simpa using hz
    refine AWP.goF hw ?_
    have hxy : x = y := by obtain ⟨x0, x1, x2, x3⟩ := x; obtain ⟨y0, y1, y2, y3⟩ := y; simp_all
    exact ⟨k + 1, ⟨by omega, take_same hka hkb hsm (by rw [hx, hy, hxy])⟩, by omega, Thin.to [] rfl rfl rfl rfl rfl (by simp [envIn, eget]) rfl⟩
  have bufsk : k = a.bufs.length := by simp at hc1; omega
  subst bufsk
  have bufseq : a.bufs = b.bufs := take_all_same bufslen hsm
  refine AWP.goA ?_
  have semaslen : a.semas.length = b.semas.length := by have := q2e; omega
  refine AWP.loopT (fun k : Nat => ⟨0, Try.f53.ntmps, [(2, .ptr 16 0 0), (3, .ptr 24 0 0), (10, iv k)], [(16, paRow a), (24, paRow b)], []⟩) (fun k => k ≤ a.semas.length ∧ a.semas.take k = b.semas.take k) (fun k => a.semas.length - k) 0 (by simp)
    (Thin.to [] rfl rfl rfl rfl rfl (by simp [envIn, eget, eput]) (by simp [killsH])) ?_
  rintro k ⟨hk, hsm⟩
  refine AWP.goA ?_
  refine AWP.condA ?_ ?_ <;> intro hc1
  · have hka : k < a.semas.length := by simpa using hc1
    have hkb : k < b.semas.length := by omega
    have hw := wrap_succ (show k < 9223372036854775807 by have := hs.semas; omega)
    have hia := idx32 (l := a.semas) hka
    have hib := idx32 (l := b.semas) hkb
    obtain ⟨x, hx⟩ : ∃ x, a.semas[k] = x := ⟨_, rfl⟩
    obtain ⟨y, hy⟩ : ∃ y, b.semas[k] = y := ⟨_, rfl⟩
    have hxm : x ∈ a.semas := hx ▸ List.getElem_mem hka
    rw [hx] at hia
    rw [hy] at hib
    simp only [encSema] at hia hib
    have hne : x ≠ y → ¬ sameO a b := fun hn h => hn (by rw [← hx, ← hy]; exact (getElem_congr_coll h.2.2.1))
    have hA := And.intro hia hib
    have cc0 := waits81 x.l y.l (hs.semaL x hxm)
    refine AWP.goA ?_
    apply AWP.anyR Zz_mixed
    focus
      (repeat (apply Trace.cons; (focus (first | exact Loc.opF hA | exact Loc.opYesF hA | exact Loc.opNoA | exact Loc.conA cc0)); (focus exact applyF hA)))
      exact Trace.nil _
    focus kernel_rfl
    simp only [Then, InBlock]
    by_cases ce0 : x.l = y.l
    rotate_left
    · rw [decide_eq_false ce0]
      have hn := hne (fun e => ce0 (by rw [e]))
      refine AWP.goA ?_
      refine AWP.condA ?_ ?_ <;> intro hz
      · refine AWP.goA ?_
        refine AWP.ret ?_
        exact ⟨trivial, [], by simp, .bool false, rfl, by rw [decide_eq_false hn]; rfl, rfl, rfl⟩
      · cases hz
    rw [decide_eq_true ce0]
    by_cases r0 : ¬ (x.count = y.count)
    · have r0b : (x.count != y.count) = true := by simpa using r0
      have r0n := hne (fun e => r0 (by rw [e]))
      have r0A := And.intro hA (r0b)
      refine AWP.goA ?_
      apply AWP.anyR Zz_mixed
      focus
        (repeat (apply Trace.cons; (focus (first | exact Loc.opF r0A | exact Loc.opYesF r0A | exact Loc.opNoA)); (focus exact applyF r0A)))
        exact Trace.nil _
      focus kernel_rfl
      simp only [Then, InBlock]
      refine AWP.condA ?_ ?_ <;> intro hz
      · refine AWP.goA ?_
        refine AWP.ret ?_
        exact ⟨trivial, [], by simp, .bool false, rfl, by rw [decide_eq_false r0n]; rfl, rfl, rfl⟩
      · cases hz
    have r0e := Decidable.not_not.1 r0
    have r0b : (x.count != y.count) = false := by simpa using r0e
    by_cases r1 : ¬ (x.most = y.most)
    · have r1b : (x.most != y.most) = true := by simpa using r1
      have r1n := hne (fun e => r1 (by rw [e]))
      have r1A := And.intro hA (And.intro r0b (r1b))
      refine AWP.goA ?_
      apply AWP.anyR Zz_mixed
      focus
        (repeat (apply Trace.cons; (focus (first | exact Loc.opF r1A | exact Loc.opYesF r1A | exact Loc.opNoA)); (focus exact applyF r1A)))
        exact Trace.nil _
      focus kernel_rfl
      simp only [Then, InBlock]
      refine AWP.condA ?_ ?_ <;> intro hz
      · refine AWP.goA ?_
        refine AWP.ret ?_
        exact ⟨trivial, [], by simp, .bool false, rfl, by rw [decide_eq_false r1n]; rfl, rfl, rfl⟩
      · cases hz
    have r1e := Decidable.not_not.1 r1
    have r1b : (x.most != y.most) = false := by simpa using r1e
    have rA := And.intro hA (And.intro r0b (r1b))
    refine AWP.goA ?_
    apply AWP.anyR Zz_mixed
    focus
      (repeat (apply Trace.cons; (focus (first | exact Loc.opF rA | exact Loc.opYesF rA | exact Loc.opNoA)); (focus exact applyF rA)))
      exact Trace.nil _
    focus kernel_rfl
    simp only [Then, InBlock]
    refine AWP.condA ?_ ?_ <;> intro hz
    · have r2 : ¬ (x.rk = y.rk) := by simpa using hz
      have r2n := hne (fun e => r2 (by rw [e]))
      refine AWP.goA ?_
      refine AWP.ret ?_
      exact ⟨trivial, [], by simp, .bool false, rfl, by rw [decide_eq_false r2n]; rfl, rfl, rfl⟩
    have r2e : x.rk = y.rk := by simpa using hz
    refine AWP.goF hw ?_
    have hxy : x = y := by obtain ⟨x0, x1, x2, x3⟩ := x; obtain ⟨y0, y1, y2, y3⟩ := y; simp_all
    exact ⟨k + 1, ⟨by omega, take_same hka hkb hsm (by rw [hx, hy, hxy])⟩, by omega, Thin.to [] rfl rfl rfl rfl rfl (by simp [envIn, eget]) rfl⟩
  have semask : k = a.semas.length := by simp at hc1; omega
  subst semask
  have semaseq : a.semas = b.semas := take_all_same semaslen hsm
  refine AWP.goA ?_
  have eventslen : a.events.length = b.events.length := by have := q3e; omega
  refine AWP.loopT (fun k : Nat => ⟨0, Try.f53.ntmps, [(2, .ptr 16 0 0), (3, .ptr 24 0 0), (12, iv k)], [(16, paRow a), (24, paRow b)], []⟩) (fun k => k ≤ a.events.length ∧ a.events.take k = b.events.take k) (fun k => a.events.length - k) 0 (by simp)
    (Thin.to [] rfl rfl rfl rfl rfl (by simp [envIn, eget, eput]) (by simp [killsH])) ?_
  rintro k ⟨hk, hsm⟩
  refine AWP.goA ?_
  refine AWP.condA ?_ ?_ <;> intro hc1
  · have hka : k < a.events.length := by simpa using hc1
    have hkb : k < b.events.length := by omega
    have hw := wrap_succ (show k < 9223372036854775807 by have := hs.events; omega)
    have hia := idx33 (l := a.events) hka
    have hib := idx33 (l := b.events) hkb
    obtain ⟨x, hx⟩ : ∃ x, a.events[k] = x := ⟨_, rfl⟩
    obtain ⟨y, hy⟩ : ∃ y, b.events[k] = y := ⟨_, rfl⟩
    have hxm : x ∈ a.events := hx ▸ List.getElem_mem hka
    rw [hx] at hia
    rw [hy] at hib
    simp only [encEvent] at hia hib
    have hne : x ≠ y → ¬ sameO a b := fun hn h => hn (by rw [← hx, ← hy]; exact (getElem_congr_coll h.2.2.2))
    have hA := And.intro hia hib
    have cc0 := waits81 x.l y.l (hs.eventL x hxm)
    refine AWP.goA ?_
    apply AWP.anyR Zz_mixed
    focus
      (repeat (apply Trace.cons; (focus (first | exact Loc.opF hA | exact Loc.opYesF hA | exact Loc.opNoA | exact Loc.conA cc0)); (focus exact applyF hA)))
      exact Trace.nil _
    focus kernel_rfl
    simp only [Then, InBlock]
    by_cases ce0 : x.l = y.l
    rotate_left
    · rw [decide_eq_false ce0]
      have hn := hne (fun e => ce0 (by rw [e]))
      refine AWP.goA ?_
      refine AWP.condA ?_ ?_ <;> intro hz
      · refine AWP.goA ?_
        refine AWP.ret ?_
        exact ⟨trivial, [], by simp, .bool false, rfl, by rw [decide_eq_false hn]; rfl, rfl, rfl⟩
      · cases hz
    rw [decide_eq_true ce0]
    have rA := hA
    refine AWP.goA ?_
    apply AWP.anyR Zz_mixed
    focus
      (repeat (apply Trace.cons; (focus (first | exact Loc.opF rA | exact Loc.opYesF rA | exact Loc.opNoA)); (focus exact applyF rA)))
      exact Trace.nil _
    focus kernel_rfl
    simp only [Then, InBlock]
    refine AWP.condA ?_ ?_ <;> intro hz
    · have r0 : ¬ (x.up = y.up) := by simpa using hz
      have r0n := hne (fun e => r0 (by rw [e]))
      refine AWP.goA ?_
      refine AWP.ret ?_
      exact ⟨trivial, [], by simp, .bool false, rfl, by rw [decide_eq_false r0n]; rfl, rfl, rfl⟩
    have r0e : x.up = y.up := by simpa using hz
    refine AWP.goF hw ?_
    have hxy : x = y := by obtain ⟨x0, x1⟩ := x; obtain ⟨y0, y1⟩ := y; simp_all
    exact ⟨k + 1, ⟨by omega, take_same hka hkb hsm (by rw [hx, hy, hxy])⟩, by omega, Thin.to [] rfl rfl rfl rfl rfl (by simp [envIn, eget]) rfl⟩
  have eventsk : k = a.events.length := by simp at hc1; omega
  subst eventsk
  have eventseq : a.events = b.events := take_all_same eventslen hsm
  have hall : sameO a b := ⟨boardseq, bufseq, semaseq, eventseq⟩
  refine AWP.goA ?_
  refine AWP.ret ?_
  exact ⟨trivial, [], by simp, .bool true, rfl, by rw [decide_eq_true hall]; rfl, rfl, rfl⟩
end Go.Qd
