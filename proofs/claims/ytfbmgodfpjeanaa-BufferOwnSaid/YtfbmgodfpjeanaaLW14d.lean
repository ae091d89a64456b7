/- A part of the library of this claim: rules of an abstract machine (values in place of addresses), proved against the model, and contracts of the functions. -/
import Derived.Test.YtfbmgodfpjeanaaLW14a
set_option linter.unusedVariables false
set_option linter.unusedSimpArgs false
set_option maxHeartbeats 8000000
set_option maxRecDepth 10000
namespace Go.Qd
open Go Go.Proofs
theorem idx0OI (h : Heap) (k n : Nat) (hk : keySize h (.osl k 0 (n + 1)) 1 = true) : aindexAddr' T12 h 54 (.osl k 0 (n + 1)) 0 = some (.ptr k 0 0) := idxOI (i := 0) (n := n + 1) (by omega) h k hk
/-- law14.BufferOwn -/
theorem law27 (dp : Int) (rk : Bool) (v : List Int) (l : List Wait) (w : Wait) : Con Try.prog 27 [Bu dp rk v l, .agg (encWait w)] (.bool true) [] := by
  refine ⟨⟨_, _, Try.func27, rfl, by decide⟩, ICall.of_body' T12_ok ⟨Try.func27, rfl, by decide⟩ (by simp [Try.f27]) ?_⟩
  by_cases hv : v.length ≤ 60
  case neg =>
    have d1 : decide ((v.length : Int) > 60) = true := by simp; omega
    refine AWP.goFC d1 awake61 ?_
    refine AWP.condA ?_ ?_ <;> intro hc
    · refine AWP.goA ?_
      refine AWP.ret ?_
      exact ⟨trivial, [], by simp, .bool true, rfl, rfl, rfl, rfl⟩
    · cases hc
  have d1 : decide ((v.length : Int) > 60) = false := by simp; omega
  by_cases hl : l.length ≤ 60
  case neg =>
    have d2 : decide ((l.length : Int) > 60) = true := by simp; omega
    refine AWP.goFC (And.intro d1 d2) awake61 ?_
    refine AWP.condA ?_ ?_ <;> intro hc
    · refine AWP.goA ?_
      refine AWP.ret ?_
      exact ⟨trivial, [], by simp, .bool true, rfl, rfl, rfl, rfl⟩
    · cases hc
  have d2 : decide ((l.length : Int) > 60) = false := by simp; omega
  refine AWP.goFC (And.intro d1 d2) awake61 ?_
  refine AWP.condA ?_ ?_ <;> intro hc
  · cases hc
  have hs := snd_len dp rk v l w true
  have cs := send62 dp rk v l w true (by omega) (by omega)
  have c77 : Con Try.prog 62 [Bu dp rk v l, .agg [iv 0, iv 0, iv 77], .bool true] (.tup [Bu dp rk (snd dp rk v l ⟨0, 0, 77⟩ true).v (snd dp rk v l ⟨0, 0, 77⟩ true).l, iv (snd dp rk v l ⟨0, 0, 77⟩ true).e, Kl (snd dp rk v l ⟨0, 0, 77⟩ true).k]) [] := send62 dp rk v l ⟨0, 0, 77⟩ true (by omega) (by omega)
  have c64 := same64 dp rk v l (by omega) (by omega)
  have hd : (dp == dp) = true := by simp
  generalize snd dp rk v l ⟨0, 0, 77⟩ true = S77 at c77
  generalize snd dp rk v l w true = S at cs hs
  obtain ⟨V, L, e, y, k⟩ := S
  obtain ⟨V2, L2, e2, y2, k2⟩ := S77
  simp only at cs hs c77
  have hVl : V.length ≤ 61 := by omega
  have hLl : L.length ≤ 61 := by omega
  cases V with
  | nil =>
    have ct := take65_wait dp rk L w (by omega)
    refine AWP.goFC hd (And.intro (appIF (l := v) (by omega)) (And.intro (appF (l := l) (by omega)) (And.intro cs (And.intro c77 ct)))) ?_
    refine AWP.condA ?_ ?_ <;> intro hc3
    · simp at hc3
    refine AWP.goFC hd c64 ?_
    refine AWP.ret ?_
    exact ⟨trivial, [], by simp, .bool true, rfl, rfl, rfl, rfl⟩
  | cons a t =>
    have htl : t.length ≤ 61 := by simp at hVl; omega
    cases L with
    | nil =>
      cases t with
      | nil =>
        have ct : Con Try.prog 65 [Bu dp rk [a] [], .agg (encWait w), .bool true] (.tup [.agg [iv dp, .bool rk, .osl 0 0 0, .lst []], iv 0, iv a, .lst []]) [⟨3, 1, true, []⟩] := take65_n dp rk a [] w true (by simp)
        refine AWP.goFC hd (And.intro (appIF (l := v) (by omega)) (And.intro (appF (l := l) (by omega)) (And.intro cs (And.intro c77 ct)))) ?_
        refine AWP.condA ?_ ?_ <;> intro hc3
        · simp at hc3
        refine AWP.goFC hd c64 ?_
        refine AWP.ret ?_
        exact ⟨trivial, [], by simp, .bool true, rfl, rfl, rfl, rfl⟩
      | cons z q =>
        have ct : Con Try.prog 65 [Bu dp rk (a :: z :: q) [], .agg (encWait w), .bool true] (.tup [.agg [iv dp, .bool rk, .osl 0 0 (q.length + 1), .lst []], iv 0, iv a, .lst []]) [⟨3, 1, true, encI z :: q.map encI⟩] := take65_n dp rk a (z :: q) w true (by omega)
        refine AWP.goFC hd (And.intro (appIF (l := v) (by omega)) (And.intro (appF (l := l) (by omega)) (And.intro cs (And.intro c77 ct)))) ?_
        refine AWP.condA ?_ ?_ <;> intro hc3
        · refine AWP.goFC (And.intro hd idx0OI) c64 ?_
          refine AWP.ret ?_
          exact ⟨trivial, [], by simp, .bool true, rfl, rfl, rfl, rfl⟩
        · simp at hc3 <;> omega
    | cons x r =>
      have hrl : r.length ≤ 61 := by simp at hLl; omega
      obtain ⟨z, q, hzq⟩ : ∃ z q, t ++ [x.value] = z :: q := by cases t with
        | nil => exact ⟨_, _, rfl⟩
        | cons z q => exact ⟨_, _, rfl⟩
      have hzl : t.length + 1 = q.length + 1 := by have := congrArg List.length hzq; simpa using this
      have ct : Con Try.prog 65 [Bu dp rk (a :: t) (x :: r), .agg (encWait w), .bool true] (.tup [.agg [iv dp, .bool rk, .osl 0 0 (q.length + 1), Wl r], iv 0, iv a, Kl [⟨x.proc, 0, 0⟩]]) [⟨3, 1, true, encI z :: q.map encI⟩] := by
        have := take65_c dp rk a t x r w true (by omega) (by omega)
        rw [hzq, hzl] at this; exact this
      refine AWP.goFC hd (And.intro (appIF (l := v) (by omega)) (And.intro (appF (l := l) (by omega)) (And.intro cs (And.intro c77 ct)))) ?_
      refine AWP.condA ?_ ?_ <;> intro hc3
      · refine AWP.goFC (And.intro hd idx0OI) c64 ?_
        refine AWP.ret ?_
        exact ⟨trivial, [], by simp, .bool true, rfl, rfl, rfl, rfl⟩
      · simp at hc3 <;> omega
end Go.Qd
