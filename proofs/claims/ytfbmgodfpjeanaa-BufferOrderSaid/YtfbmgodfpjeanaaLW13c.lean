/- A part of the library of this claim: rules of an abstract machine (values in place of addresses), proved against the model, and contracts of the functions. -/
import Derived.Test.YtfbmgodfpjeanaaLW13b
set_option linter.unusedVariables false
set_option linter.unusedSimpArgs false
set_option maxHeartbeats 8000000
set_option maxRecDepth 10000
namespace Go.Qd
open Go Go.Proofs
theorem idx0O (h : Heap) (k n : Nat) (hk : keySize h (.osl k 0 (n + 1)) 3 = true) : aindexAddr' T12 h 22 (.osl k 0 (n + 1)) 0 = some (.ptr k 0 0) := idxO (i := 0) (n := n + 1) (by omega) h k hk
/-- law13.BoardOwn -/
theorem law12 (is : Bool) (v : Int) (l : List Wait) (w : Wait) (x : Int) : Con Try.prog 12 [Bd is v l, .agg (encWait w), iv x] (.bool true) [] := by
  refine ⟨⟨_, _, Try.func12, rfl, by decide⟩, ICall.of_body' T12_ok ⟨Try.func12, rfl, by decide⟩ (by simp [Try.f12]) ?_⟩
  refine AWP.goC awake41 ?_
  refine AWP.condA ?_ ?_ <;> intro hc
  · refine AWP.goA ?_
    refine AWP.ret ?_
    exact ⟨trivial, [], by simp, .bool true, rfl, rfl, rfl, rfl⟩
  · have hl : l.length ≤ 60 := by simp at hc; omega
    refine AWP.goC (And.intro (appF (l := l) (by omega)) (And.intro (write42 is v l x (by omega)) (clear45C is v l (by omega)))) ?_
    have hge : l.length ≤ (rdB is l w true).length := by unfold rdB; split <;> simp
    have hle := rdB_len is l w true
    have c1 := read47 is v l w true (by omega)
    generalize rdB is l w true = m at *
    refine AWP.goC (And.intro c1 (clear45 is v m (by omega))) ?_
    refine AWP.joinT ⟨0, Try.f12.ntmps, [(3, .ptr 24 0 0), (6, .bool false), (8, .osl 208 0 l.length), (9, .ptr 72 0 0)], [(24, ⟨44, 3, true, [[.bool is, iv v, Wl l]]⟩), (208, ⟨25, 3, true, l.map encWait⟩), (72, ⟨44, 3, true, [[.bool is, iv v, Wl m]]⟩)], []⟩ ?_ ?_
    · refine AWP.condA ?_ ?_ <;> intro hc2
      · cases m with
        | nil => simp at hc2
        | cons z m =>
          refine AWP.goF idx0O ?_
          exact Thin.to [32, 96, 320] rfl rfl rfl rfl rfl (by simp [envIn, eget, eput]) rfl
      · refine AWP.goA ?_
        exact Thin.to [32, 96, 320] rfl rfl rfl rfl rfl (by simp [envIn, eget, eput]) rfl
    · refine AWP.goA ?_
      refine AWP.loopT (fun i : Nat => ⟨0, Try.f12.ntmps, [(3, .ptr 24 0 0), (6, .bool false), (8, .osl 208 0 l.length), (9, .ptr 72 0 0), (13, iv i)], [(24, ⟨44, 3, true, [[.bool is, iv v, Wl l]]⟩), (208, ⟨25, 3, true, l.map encWait⟩), (72, ⟨44, 3, true, [[.bool is, iv v, Wl m]]⟩)], []⟩) (fun i => i ≤ l.length) (fun i => l.length - i) 0 (by simp)
        (Thin.to [] rfl rfl rfl rfl rfl (by simp [envIn, eget, eput]) rfl) ?_
      rintro i hi
      refine AWP.goA ?_
      refine AWP.condA ?_ ?_ <;> intro hc3
      · have hil : i < l.length := by simp at hc3; omega
        refine AWP.goF (And.intro (idxW hil) (And.intro (idxO hil) (And.intro (loadO hil) selfW))) ?_
        refine AWP.condA ?_ ?_ <;> intro hc4
        · cases hc4
        · refine AWP.goA ?_
          exact ⟨i + 1, by omega, by omega, Thin.to [] rfl rfl rfl rfl rfl (by simp [envIn, eget, wrap_succ (show i < 9223372036854775807 by omega)]) rfl⟩
      · have hge2 : decide ((m.length : Int) ≥ (l.length : Int)) = true := by simp; omega
        refine AWP.goF hge2 ?_
        refine AWP.ret ?_
        exact ⟨trivial, [], by simp, .bool true, rfl, rfl, rfl, rfl⟩
end Go.Qd
