/- A part of the library of this claim: rules of an abstract machine (values in place of addresses), proved against the model, and contracts of the functions. -/
import Derived.Test.YtkenbgmadkelcaaW23
import Derived.Test.YtkenbgmadkelcaaW24
set_option linter.unusedVariables false
set_option linter.unusedSimpArgs false
set_option maxHeartbeats 8000000
set_option maxRecDepth 10000
namespace Go.Qd
open Go Go.Proofs
theorem eqProc (a b : Proc) : abin T10 .neq 49 (.agg (encProc a)) (.agg (encProc b)) = some (.bool (!decide (a = b))) := by
  have : abin T10 .neq 49 (.agg (encProc a)) (.agg (encProc b)) = some (.bool (!(((a.state == b.state) && ((a.prio == b.prio) && ((a.susp == b.susp) && ((a.pc == b.pc) && ((a.r0 == b.r0) && ((a.r1 == b.r1) && ((a.r2 == b.r2) && ((a.r3 == b.r3) && ((a.since == b.since) && ((a.till == b.till) && ((a.kind == b.kind) && ((a.obj == b.obj) && ((a.due == b.due) && ((a.next == b.next) && ((a.pend == b.pend) && ((a.code == b.code) && ((a.value == b.value) && ((a.call == b.call) && true))))))))))))))))))))) := rfl
  rw [this]
  congr 3
  obtain ⟨a1, a2, a3, a4, a5, a6, a7, a8, a9, a10, a11, a12, a13, a14, a15, a16, a17, a18⟩ := a
  obtain ⟨b1, b2, b3, b4, b5, b6, b7, b8, b9, b10, b11, b12, b13, b14, b15, b16, b17, b18⟩ := b
  rw [Bool.eq_iff_iff]
  simp
theorem eqSample (a b : Sample) : abin T10 .neq 94 (.agg (encSample a)) (.agg (encSample b)) = some (.bool (!decide (a = b))) := by
  have : abin T10 .neq 94 (.agg (encSample a)) (.agg (encSample b)) = some (.bool (!((a.is == b.is) && ((a.value == b.value) && ((a.at_ == b.at_) && true))))) := rfl
  rw [this]
  congr 3
  obtain ⟨a1, a2, a3⟩ := a
  obtain ⟨b1, b2, b3⟩ := b
  rw [Bool.eq_iff_iff]
  simp
theorem loadPr {h : Heap} {x : Proc} : aload T10 h 49 (.vptr (encProc x)) = some (.pure (.agg (encProc x))) := rfl
theorem loadSm {h : Heap} {x : Sample} : aload T10 h 94 (.vptr (encSample x)) = some (.pure (.agg (encSample x))) := rfl
/-- ref10.Same -/
theorem same19 (a b : Part) (hs : Small 1000000 a) : Con Try.prog 19 [Pa a, Pa b] (.bool (decide (a = b))) [] := by
  refine ⟨⟨_, _, Try.func19, rfl, by decide⟩, ICall.of_body' T10_ok ⟨Try.func19, rfl, by decide⟩ (by simp [Try.f19]) ?_⟩
  refine AWP.goA ?_
  by_cases q0 : ¬ (a.mode = b.mode)
  · have q0b : (a.mode != b.mode) = true := by simpa using q0
    have q0n := (fun h : a = b => q0 (by rw [h]))
    have q0A := q0b
    refine AWP.goF q0A ?_
    refine AWP.condA ?_ ?_ <;> intro hz
    · refine AWP.goA ?_
      refine AWP.ret ?_
      exact ⟨trivial, [], by simp, .bool false, rfl, by rw [decide_eq_false q0n]; rfl, rfl, rfl⟩
    · cases hz
  have q0e := Decidable.not_not.1 q0
  have q0b : (a.mode != b.mode) = false := by simpa using q0e
  by_cases q1 : ¬ (a.begun = b.begun)
  · have q1b : (a.begun != b.begun) = true := by simpa using q1
    have q1n := (fun h : a = b => q1 (by rw [h]))
    have q1A := And.intro q0b (q1b)
    refine AWP.goF q1A ?_
    refine AWP.condA ?_ ?_ <;> intro hz
    · refine AWP.goA ?_
      refine AWP.ret ?_
      exact ⟨trivial, [], by simp, .bool false, rfl, by rw [decide_eq_false q1n]; rfl, rfl, rfl⟩
    · cases hz
  have q1e := Decidable.not_not.1 q1
  have q1b : (a.begun != b.begun) = false := by simpa using q1e
  by_cases q2 : ¬ (a.next = b.next)
  · have q2b : (a.next != b.next) = true := by simpa using q2
    have q2n := (fun h : a = b => q2 (by rw [h]))
    have q2A := And.intro q0b (And.intro q1b (q2b))
    refine AWP.goF q2A ?_
    refine AWP.condA ?_ ?_ <;> intro hz
    · refine AWP.goA ?_
      refine AWP.ret ?_
      exact ⟨trivial, [], by simp, .bool false, rfl, by rw [decide_eq_false q2n]; rfl, rfl, rfl⟩
    · cases hz
  have q2e := Decidable.not_not.1 q2
  have q2b : (a.next != b.next) = false := by simpa using q2e
  by_cases q3 : ¬ ((a.procs.length : Int) = (b.procs.length : Int))
  · have q3b : ((a.procs.length : Int) != (b.procs.length : Int)) = true := by simpa using q3
    have q3n := (fun h : a = b => q3 (by rw [h]))
    have q3A := And.intro q0b (And.intro q1b (And.intro q2b (q3b)))
    refine AWP.goF q3A ?_
    refine AWP.condA ?_ ?_ <;> intro hz
    · refine AWP.goA ?_
      refine AWP.ret ?_
      exact ⟨trivial, [], by simp, .bool false, rfl, by rw [decide_eq_false q3n]; rfl, rfl, rfl⟩
    · cases hz
  have q3e := Decidable.not_not.1 q3
  have q3b : ((a.procs.length : Int) != (b.procs.length : Int)) = false := by simpa using q3e
  by_cases q4 : ¬ ((a.samples.length : Int) = (b.samples.length : Int))
  · have q4b : ((a.samples.length : Int) != (b.samples.length : Int)) = true := by simpa using q4
    have q4n := (fun h : a = b => q4 (by rw [h]))
    have q4A := And.intro q0b (And.intro q1b (And.intro q2b (And.intro q3b (q4b))))
    refine AWP.goF q4A ?_
    refine AWP.condA ?_ ?_ <;> intro hz
    · refine AWP.goA ?_
      refine AWP.ret ?_
      exact ⟨trivial, [], by simp, .bool false, rfl, by rw [decide_eq_false q4n]; rfl, rfl, rfl⟩
    · cases hz
  have q4e := Decidable.not_not.1 q4
  have q4b : ((a.samples.length : Int) != (b.samples.length : Int)) = false := by simpa using q4e
  have qA := And.intro q0b (And.intro q1b (And.intro q2b (And.intro q3b (q4b))))
  refine AWP.goF qA ?_
  refine AWP.condA ?_ ?_ <;> intro hz
  · have q5 : ¬ ((a.queues.length : Int) = (b.queues.length : Int)) := by simpa using hz
    have q5n := (fun h : a = b => q5 (by rw [h]))
    refine AWP.goA ?_
    refine AWP.ret ?_
    exact ⟨trivial, [], by simp, .bool false, rfl, by rw [decide_eq_false q5n]; rfl, rfl, rfl⟩
  have q5e : (a.queues.length : Int) = (b.queues.length : Int) := by simpa using hz
  refine AWP.goA ?_
  have procslen : a.procs.length = b.procs.length := by have := q3e; omega
  refine AWP.loopT (fun k : Nat => ⟨0, Try.f19.ntmps, [(2, .ptr 16 0 0), (3, .ptr 24 0 0), (5, iv k)], [(16, paRow a), (24, paRow b)], []⟩) (fun k => k ≤ a.procs.length ∧ a.procs.take k = b.procs.take k) (fun k => a.procs.length - k) 0 (by simp)
    (Thin.to [] rfl rfl rfl rfl rfl (by simp [envIn, eget, eput]) (by simp [killsH])) ?_
  rintro k ⟨hk, hsm⟩
  refine AWP.goA ?_
  refine AWP.condA ?_ ?_ <;> intro hc1
  · have hka : k < a.procs.length := by simpa using hc1
    have hkb : k < b.procs.length := by omega
    have hw := wrap_succ (show k < 9223372036854775807 by have := hs.procs; omega)
    have hia := idx29 (l := a.procs) hka
    have hib := idx29 (l := b.procs) hkb
    have hA := And.intro hia (And.intro hib (And.intro (fun (h : Heap) (x : Proc) => loadPr (h := h) (x := x)) eqProc))
    refine AWP.goA ?_
    apply AWP.anyR Zz_mixed
    focus
      (repeat (apply Trace.cons; (focus (first | exact Loc.opF hA | exact Loc.opYesF hA | exact Loc.opNoA)); (focus exact applyF hA)))
      exact Trace.nil _
    focus kernel_rfl
    simp only [Then, InBlock]
    refine AWP.condA ?_ ?_ <;> intro hz
    · have h1 : ¬ a.procs[k] = b.procs[k] := by simpa using hz
      have hne : ¬ a = b := fun h => h1 (getElem_congr_coll (by rw [h]))
      refine AWP.goA ?_
      refine AWP.ret ?_
      exact ⟨trivial, [], by simp, .bool false, rfl, by rw [decide_eq_false hne]; rfl, rfl, rfl⟩
    have h1 : a.procs[k] = b.procs[k] := by simpa using hz
    refine AWP.goF hw ?_
    exact ⟨k + 1, ⟨by omega, take_same hka hkb hsm h1⟩, by omega, Thin.to [] rfl rfl rfl rfl rfl (by simp [envIn, eget]) rfl⟩
  have procsk : k = a.procs.length := by simp at hc1; omega
  subst procsk
  have procseq : a.procs = b.procs := take_all_same procslen hsm
  refine AWP.goA ?_
  have sampleslen : a.samples.length = b.samples.length := by have := q4e; omega
  refine AWP.loopT (fun k : Nat => ⟨0, Try.f19.ntmps, [(2, .ptr 16 0 0), (3, .ptr 24 0 0), (6, iv k)], [(16, paRow a), (24, paRow b)], []⟩) (fun k => k ≤ a.samples.length ∧ a.samples.take k = b.samples.take k) (fun k => a.samples.length - k) 0 (by simp)
    (Thin.to [] rfl rfl rfl rfl rfl (by simp [envIn, eget, eput]) (by simp [killsH])) ?_
  rintro k ⟨hk, hsm⟩
  refine AWP.goA ?_
  refine AWP.condA ?_ ?_ <;> intro hc1
  · have hka : k < a.samples.length := by simpa using hc1
    have hkb : k < b.samples.length := by omega
    have hw := wrap_succ (show k < 9223372036854775807 by have := hs.samples; omega)
    have hia := idx34 (l := a.samples) hka
    have hib := idx34 (l := b.samples) hkb
    have hA := And.intro hia (And.intro hib (And.intro (fun (h : Heap) (x : Sample) => loadSm (h := h) (x := x)) eqSample))
    refine AWP.goA ?_
    apply AWP.anyR Zz_mixed
    focus
      (repeat (apply Trace.cons; (focus (first | exact Loc.opF hA | exact Loc.opYesF hA | exact Loc.opNoA)); (focus exact applyF hA)))
      exact Trace.nil _
    focus kernel_rfl
    simp only [Then, InBlock]
    refine AWP.condA ?_ ?_ <;> intro hz
    · have h1 : ¬ a.samples[k] = b.samples[k] := by simpa using hz
      have hne : ¬ a = b := fun h => h1 (getElem_congr_coll (by rw [h]))
      refine AWP.goA ?_
      refine AWP.ret ?_
      exact ⟨trivial, [], by simp, .bool false, rfl, by rw [decide_eq_false hne]; rfl, rfl, rfl⟩
    have h1 : a.samples[k] = b.samples[k] := by simpa using hz
    refine AWP.goF hw ?_
    exact ⟨k + 1, ⟨by omega, take_same hka hkb hsm h1⟩, by omega, Thin.to [] rfl rfl rfl rfl rfl (by simp [envIn, eget]) rfl⟩
  have samplesk : k = a.samples.length := by simp at hc1; omega
  subst samplesk
  have sampleseq : a.samples = b.samples := take_all_same sampleslen hsm
  refine AWP.goA ?_
  have queueslen : a.queues.length = b.queues.length := by have := q5e; omega
  refine AWP.loopT (fun k : Nat => ⟨0, Try.f19.ntmps, [(2, .ptr 16 0 0), (3, .ptr 24 0 0), (7, iv k)], [(16, paRow a), (24, paRow b)], []⟩) (fun k => k ≤ a.queues.length ∧ a.queues.take k = b.queues.take k) (fun k => a.queues.length - k) 0 (by simp)
    (Thin.to [] rfl rfl rfl rfl rfl (by simp [envIn, eget, eput]) (by simp [killsH])) ?_
  rintro k ⟨hk, hsm⟩
  refine AWP.goA ?_
  refine AWP.condA ?_ ?_ <;> intro hc1
  · have hka : k < a.queues.length := by simpa using hc1
    have hkb : k < b.queues.length := by omega
    have hw := wrap_succ (show k < 9223372036854775807 by have := hs.queues; omega)
    have hia := idx35 (l := a.queues) hka
    have hib := idx35 (l := b.queues) hkb
    obtain ⟨x, hx⟩ : ∃ x, a.queues[k] = x := ⟨_, rfl⟩
    obtain ⟨y, hy⟩ : ∃ y, b.queues[k] = y := ⟨_, rfl⟩
    have hxm : x ∈ a.queues := hx ▸ List.getElem_mem hka
    rw [hx] at hia
    rw [hy] at hib
    simp only [encQueue] at hia hib
    have hne : x ≠ y → ¬ a = b := fun hn h => hn (by rw [← hx, ← hy]; exact (getElem_congr_coll (by rw [h])))
    have hA := And.intro hia hib
    have cc0 := ints52 x.vals y.vals (hs.queueV x hxm)
    refine AWP.goA ?_
    apply AWP.anyR Zz_mixed
    focus
      (repeat (apply Trace.cons; (focus (first | exact Loc.opF hA | exact Loc.opYesF hA | exact Loc.opNoA | exact Loc.conA cc0)); (focus exact applyF hA)))
      exact Trace.nil _
    focus kernel_rfl
    simp only [Then, InBlock]
    by_cases ce0 : x.vals = y.vals
    rotate_left
    · rw [decide_eq_false ce0]
      have hn := hne (fun e => ce0 (by rw [e]))
      refine AWP.goA ?_
      refine AWP.condA ?_ ?_ <;> intro hz
      · refine AWP.goA ?_
        refine AWP.ret ?_
        exact ⟨trivial, [], by simp, .bool false, rfl, by rw [decide_eq_false hn]; rfl, rfl, rfl⟩
      · cases hz
    rw [decide_eq_true ce0]
    by_cases r0 : ¬ (x.depth = y.depth)
    · have r0b : (x.depth != y.depth) = true := by simpa using r0
      have r0n := hne (fun e => r0 (by rw [e]))
      have r0A := And.intro hA (r0b)
      refine AWP.goA ?_
      apply AWP.anyR Zz_mixed
      focus
        (repeat (apply Trace.cons; (focus (first | exact Loc.opF r0A | exact Loc.opYesF r0A | exact Loc.opNoA)); (focus exact applyF r0A)))
        exact Trace.nil _
      focus kernel_rfl
      simp only [Then, InBlock]
      refine AWP.condA ?_ ?_ <;> intro hz
      · refine AWP.goA ?_
        refine AWP.ret ?_
        exact ⟨trivial, [], by simp, .bool false, rfl, by rw [decide_eq_false r0n]; rfl, rfl, rfl⟩
      · cases hz
    have r0e := Decidable.not_not.1 r0
    have r0b : (x.depth != y.depth) = false := by simpa using r0e
    have rA := And.intro hA (r0b)
    refine AWP.goA ?_
    apply AWP.anyR Zz_mixed
    focus
      (repeat (apply Trace.cons; (focus (first | exact Loc.opF rA | exact Loc.opYesF rA | exact Loc.opNoA)); (focus exact applyF rA)))
      exact Trace.nil _
    focus kernel_rfl
    simp only [Then, InBlock]
    refine AWP.condA ?_ ?_ <;> intro hz
    · have r1 : ¬ (x.x = y.x) := by simpa using hz
      have r1n := hne (fun e => r1 (by rw [e]))
      refine AWP.goA ?_
      refine AWP.ret ?_
      exact ⟨trivial, [], by simp, .bool false, rfl, by rw [decide_eq_false r1n]; rfl, rfl, rfl⟩
    have r1e : x.x = y.x := by simpa using hz
    refine AWP.goF hw ?_
    have hxy : x = y := by obtain ⟨x0, x1, x2⟩ := x; obtain ⟨y0, y1, y2⟩ := y; simp_all
    exact ⟨k + 1, ⟨by omega, take_same hka hkb hsm (by rw [hx, hy, hxy])⟩, by omega, Thin.to [] rfl rfl rfl rfl rfl (by simp [envIn, eget]) rfl⟩
  have queuesk : k = a.queues.length := by simp at hc1; omega
  subst queuesk
  have queueseq : a.queues = b.queues := take_all_same queueslen hsm
  refine AWP.goC (And.intro (ints52 a.mem b.mem hs.mem) (And.intro (objects53 a b hs) (And.intro (ints52 a.lines b.lines hs.lines) (ints52 a.given b.given hs.given)))) ?_
  by_cases em : a.mem = b.mem
  rotate_left
  · rw [decide_eq_false em]
    have hne : ¬ a = b := fun h => em (by rw [h])
    refine AWP.goA ?_
    refine AWP.ret ?_
    exact ⟨trivial, [], by simp, .bool false, rfl, by rw [decide_eq_false hne]; rfl, rfl, rfl⟩
  rw [decide_eq_true em]
  by_cases eo : sameO a b
  rotate_left
  · rw [decide_eq_false eo]
    have hne : ¬ a = b := fun h => eo (by rw [h]; exact ⟨rfl, rfl, rfl, rfl⟩)
    refine AWP.goA ?_
    refine AWP.ret ?_
    exact ⟨trivial, [], by simp, .bool false, rfl, by rw [decide_eq_false hne]; rfl, rfl, rfl⟩
  rw [decide_eq_true eo]
  by_cases el : a.lines = b.lines
  rotate_left
  · rw [decide_eq_false el]
    have hne : ¬ a = b := fun h => el (by rw [h])
    refine AWP.goA ?_
    refine AWP.ret ?_
    exact ⟨trivial, [], by simp, .bool false, rfl, by rw [decide_eq_false hne]; rfl, rfl, rfl⟩
  rw [decide_eq_true el]
  by_cases eg : a.given = b.given
  rotate_left
  · rw [decide_eq_false eg]
    have hne : ¬ a = b := fun h => eg (by rw [h])
    refine AWP.goA ?_
    refine AWP.ret ?_
    exact ⟨trivial, [], by simp, .bool false, rfl, by rw [decide_eq_false hne]; rfl, rfl, rfl⟩
  rw [decide_eq_true eg]
  by_cases ea : a.lat0 = b.lat0
  rotate_left
  · have eab : (a.lat0 == b.lat0) = false := by simpa using ea
    have hne : ¬ a = b := fun h => ea (by rw [h])
    refine AWP.goF eab ?_
    refine AWP.ret ?_
    exact ⟨trivial, [], by simp, .bool false, rfl, by rw [decide_eq_false hne]; rfl, rfl, rfl⟩
  have eab : (a.lat0 == b.lat0) = true := by simpa using ea
  refine AWP.goF eab ?_
  have hfin : decide (a = b) = (a.lat2 == b.lat2) := by
    rw [Bool.eq_iff_iff]
    simp only [decide_eq_true_eq, beq_iff_eq]
    constructor
    · intro h; rw [h]
    · intro h
      obtain ⟨o1, o2, o3, o4⟩ := eo
      obtain ⟨a1, a2, a3, a4, a5, a6, a7, a8, a9, a10, a11, a12, a13, a14, a15⟩ := a
      obtain ⟨b1, b2, b3, b4, b5, b6, b7, b8, b9, b10, b11, b12, b13, b14, b15⟩ := b
      simp_all
  refine AWP.ret ?_
  exact ⟨trivial, [], by simp, .bool (a.lat2 == b.lat2), rfl, by rw [hfin]; rfl, rfl, rfl⟩
end Go.Qd
