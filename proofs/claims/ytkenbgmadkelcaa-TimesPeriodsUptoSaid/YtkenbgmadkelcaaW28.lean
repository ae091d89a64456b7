/- A part of the library of this claim: rules of an abstract machine (values in place of addresses), proved against the model, and contracts of the functions. -/
import Derived.Test.YtkenbgmadkelcaaW27
import Derived.Test.YtkenbgmadkelcaaQaC
set_option linter.unusedVariables false
set_option linter.unusedSimpArgs false
set_option maxHeartbeats 8000000
set_option maxRecDepth 10000
namespace Go.Qd
open Go Go.Proofs
/-- The cells of a partition. -/
abbrev paC (p : Part) : List AV := [iv p.mode, iv p.begun, iv p.next, Il p.mem, Pl p.procs, .lst (p.boards.map encBoard), .lst (p.bufs.map encBuf), .lst (p.semas.map encSema), .lst (p.events.map encEvent), .lst (p.samples.map encSample), .lst (p.queues.map encQueue), iv p.lat0, Il p.lines, iv p.lat2, Il p.given]
/-- times.some -/
theorem some77 (p : Part) (F : Nat) (caps : List AV) (hc : AV.closedAll caps = true) : Con Try.prog 77 [Pa p, .fn F [] caps] (.fn 97 [] [.vptr (paC p), .vptr [.fn F [] caps]]) [] := by
  refine ⟨⟨_, _, Try.func77, rfl, by decide⟩, ICall.of_body' T10_ok ⟨Try.func77, rfl, by decide⟩ (by simp [Try.f77]) ?_⟩
  refine AWP.goF hc ?_
  refine AWP.ret ?_
  exact ⟨trivial, [], by simp, .fn 97 [] [.ptr 16 0 0, .ptr 24 0 0], rfl, by simp [convA, convL, idxIn, hget, lsA, lsL], rfl, rfl⟩
end Go.Qd
