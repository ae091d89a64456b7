/- A part of the library of this claim: rules of an abstract machine (values in place of addresses), proved against the model, and contracts of the functions. -/
import Derived.Test.YtfbmgodfpjeanaaLW15b
import Derived.Test.YtfbmgodfpjeanaaLW16a
set_option linter.unusedVariables false
set_option linter.unusedSimpArgs false
set_option maxHeartbeats 8000000
set_option maxRecDepth 10000
namespace Go.Qd
open Go Go.Proofs
/-- law15.SemaOwn -/
theorem law22 (c m : Int) (rk : Bool) (l : List Wait) (w : Wait) : Con Try.prog 22 [Se c m rk l, .agg (encWait w)] (.bool true) [] := by
  refine ⟨⟨_, _, Try.func22, rfl, by decide⟩, ICall.of_body' T12_ok ⟨Try.func22, rfl, by decide⟩ (by simp [Try.f22]) ?_⟩
  refine AWP.goC awake55 ?_
  refine AWP.condA ?_ ?_ <;> intro hc
  · refine AWP.goA ?_
    refine AWP.ret ?_
    exact ⟨trivial, [], by simp, .bool true, rfl, rfl, rfl, rfl⟩
  · have hl : l.length ≤ 60 := by simp at hc; omega
    have hm : (m == m) = true := by simp
    have gt : ∃ (c' e : Int) (L : List Wait), Con Try.prog 56 [Se c m rk l, .agg (encWait w), .bool true] (.tup [.agg [iv c', iv m, .bool rk, .osl 0 0 L.length], iv e]) [⟨25, 3, true, L.map encWait⟩] := by
      by_cases hp : 0 < c
      · exact ⟨_, _, l, get56_a c m rk l w true (by omega) hp⟩
      · refine ⟨c, 6, addW l w rk, ?_⟩
        rw [addW_len]; exact get56_c c m rk l w (by omega) hp
    obtain ⟨c', e, L, cg⟩ := gt
    cases l with
    | nil =>
      have pt : ∃ (c' e : Int), Con Try.prog 58 [.agg [iv c, iv m, .bool rk, .lst []]] (.tup [.agg [iv c', iv m, .bool rk, .lst []], iv e, .lst []]) [] := by
        by_cases hlt : c < m
        · exact ⟨_, _, put58_b c m rk hlt⟩
        · exact ⟨_, _, put58_c c m rk hlt⟩
      obtain ⟨c2, e2, cp⟩ := pt
      have cs : Con Try.prog 60 [.agg [iv c, iv m, .bool rk, .lst []], .agg [iv c, iv m, .bool rk, .lst []]] (.bool true) [] := same60 c m rk [] (by simp)
      cases L with
      | nil =>
        have cg' : Con Try.prog 56 [.agg [iv c, iv m, .bool rk, .lst []], .agg (encWait w), .bool true] (.tup [.agg [iv c', iv m, .bool rk, .osl 0 0 0], iv e]) [⟨25, 3, true, []⟩] := cg
        refine AWP.goFC (appF (l := []) (by simp)) (And.intro cg' cp) ?_
        refine AWP.condA ?_ ?_ <;> intro hc2
        · simp at hc2
        · refine AWP.goA ?_
          refine AWP.condA ?_ ?_ <;> intro hc3
          · simp at hc3
          · refine AWP.goFC hm cs ?_
            refine AWP.ret ?_
            exact ⟨trivial, [], by simp, .bool true, rfl, rfl, rfl, rfl⟩
      | cons z q =>
        have cg' : Con Try.prog 56 [.agg [iv c, iv m, .bool rk, .lst []], .agg (encWait w), .bool true] (.tup [.agg [iv c', iv m, .bool rk, .osl 0 0 (q.length + 1)], iv e]) [⟨25, 3, true, (z :: q).map encWait⟩] := cg
        refine AWP.goFC (appF (l := []) (by simp)) (And.intro cg' cp) ?_
        refine AWP.condA ?_ ?_ <;> intro hc2
        · refine AWP.goF idx0O ?_
          refine AWP.condA ?_ ?_ <;> intro hc3
          · simp at hc3
          · refine AWP.goFC hm cs ?_
            refine AWP.ret ?_
            exact ⟨trivial, [], by simp, .bool true, rfl, rfl, rfl, rfl⟩
        · simp at hc2 <;> omega
    | cons x r =>
      have hrl : r.length ≤ 60 := by simp at hl; omega
      have cs := same60 c m rk (x :: r) (by omega)
      have cp := put58_a c m rk x r (by omega)
      cases L with
      | nil =>
        have cg' : Con Try.prog 56 [Se c m rk (x :: r), .agg (encWait w), .bool true] (.tup [.agg [iv c', iv m, .bool rk, .osl 0 0 0], iv e]) [⟨25, 3, true, []⟩] := cg
        cases r with
        | nil =>
          have cp' : Con Try.prog 58 [Se c m rk [x]] (.tup [.agg [iv c, iv m, .bool rk, .osl 0 0 0], iv 0, Kl [⟨x.proc, 0, 0⟩]]) [⟨25, 3, true, []⟩] := cp
          refine AWP.goC (And.intro (appF (l := [x]) (by simp)) (And.intro cg' cp')) ?_
          refine AWP.condA ?_ ?_ <;> intro hc2
          · simp at hc2
          · refine AWP.goA ?_
            refine AWP.condA ?_ ?_ <;> intro hc3
            · simp at hc3
            · refine AWP.goFC hm cs ?_
              refine AWP.ret ?_
              exact ⟨trivial, [], by simp, .bool true, rfl, rfl, rfl, rfl⟩
        | cons y s =>
          have cp' : Con Try.prog 58 [Se c m rk (x :: y :: s)] (.tup [.agg [iv c, iv m, .bool rk, .osl 0 0 (s.length + 1)], iv 0, Kl [⟨x.proc, 0, 0⟩]]) [⟨25, 3, true, (y :: s).map encWait⟩] := cp
          refine AWP.goC (And.intro (appF (l := x :: y :: s) (by simp at hl ⊢; omega)) (And.intro cg' cp')) ?_
          refine AWP.condA ?_ ?_ <;> intro hc2
          · simp at hc2
          · refine AWP.goA ?_
            refine AWP.condA ?_ ?_ <;> intro hc3
            · refine AWP.goFC (And.intro hm idx0O) cs ?_
              refine AWP.ret ?_
              exact ⟨trivial, [], by simp, .bool true, rfl, rfl, rfl, rfl⟩
            · simp at hc3 <;> omega
      | cons z q =>
        have cg' : Con Try.prog 56 [Se c m rk (x :: r), .agg (encWait w), .bool true] (.tup [.agg [iv c', iv m, .bool rk, .osl 0 0 (q.length + 1)], iv e]) [⟨25, 3, true, (z :: q).map encWait⟩] := cg
        cases r with
        | nil =>
          have cp' : Con Try.prog 58 [Se c m rk [x]] (.tup [.agg [iv c, iv m, .bool rk, .osl 0 0 0], iv 0, Kl [⟨x.proc, 0, 0⟩]]) [⟨25, 3, true, []⟩] := cp
          refine AWP.goC (And.intro (appF (l := [x]) (by simp)) (And.intro cg' cp')) ?_
          refine AWP.condA ?_ ?_ <;> intro hc2
          · refine AWP.goF idx0O ?_
            refine AWP.condA ?_ ?_ <;> intro hc3
            · simp at hc3
            · refine AWP.goFC hm cs ?_
              refine AWP.ret ?_
              exact ⟨trivial, [], by simp, .bool true, rfl, rfl, rfl, rfl⟩
          · simp at hc2 <;> omega
        | cons y s =>
          have cp' : Con Try.prog 58 [Se c m rk (x :: y :: s)] (.tup [.agg [iv c, iv m, .bool rk, .osl 0 0 (s.length + 1)], iv 0, Kl [⟨x.proc, 0, 0⟩]]) [⟨25, 3, true, (y :: s).map encWait⟩] := cp
          refine AWP.goC (And.intro (appF (l := x :: y :: s) (by simp at hl ⊢; omega)) (And.intro cg' cp')) ?_
          refine AWP.condA ?_ ?_ <;> intro hc2
          · refine AWP.goF idx0O ?_
            refine AWP.condA ?_ ?_ <;> intro hc3
            · refine AWP.goFC (And.intro hm idx0O) cs ?_
              refine AWP.ret ?_
              exact ⟨trivial, [], by simp, .bool true, rfl, rfl, rfl, rfl⟩
            · simp at hc3 <;> omega
          · simp at hc2 <;> omega
end Go.Qd
