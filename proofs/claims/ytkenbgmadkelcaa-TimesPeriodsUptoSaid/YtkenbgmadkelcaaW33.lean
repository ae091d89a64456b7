/- A part of the library of this claim: rules of an abstract machine (values in place of addresses), proved against the model, and contracts of the functions. -/
import Derived.Test.YtkenbgmadkelcaaW32
set_option linter.unusedVariables false
set_option linter.unusedSimpArgs false
set_option maxHeartbeats 8000000
set_option maxRecDepth 10000
namespace Go.Qd
open Go Go.Proofs
/-! ### Who is late is told -/
def lateOne (l : List Proc) (k : Nat) : List Proc := match l[k]? with
  | none => l
  | some y => l.set k { y with due := -1 }
def lateAll (l : List Proc) (ks : List Nat) : List Proc := ks.foldl lateOne l
theorem lateOne_len (l : List Proc) (k : Nat) : (lateOne l k).length = l.length := by
  unfold lateOne; split <;> simp
theorem lateAll_len (ks : List Nat) : ∀ l, (lateAll l ks).length = l.length := by
  induction ks with
  | nil => intro l; rfl
  | cons k r ih => intro l; exact (ih _).trans (lateOne_len l k)
theorem lateAll_snoc (l : List Proc) (ks : List Nat) (k : Nat) : lateAll l (ks ++ [k]) = lateOne (lateAll l ks) k := by
  unfold lateAll; rw [List.foldl_append]; rfl
def lateK (now : Int) (p : Part) : List Nat := ((List.finRange p.procs.length).filter fun k => lateB now p.procs[k]).map Fin.val
def lateP (now : Int) (p : Part) : Part := { p with procs := lateAll p.procs (lateK now p) }
def lateL (now : Int) (p : Part) : List Int := (lateK now p).map fun k : Nat => (k : Int)
abbrev kRow (ks : List Nat) : AObj := ⟨3, 1, true, ks.map fun k : Nat => [iv (k : Int)]⟩
abbrev ltH (now : Int) (p : Part) (ks : List Nat) : Heap := [(16, paRow p), (24, ⟨3, 1, true, [[iv now]]⟩), (40, zRow), (96, pObj (lateAll p.procs ks)), (56, oRow 96 p.procs.length p), (64, ⟨26, 1, false, [[.osl 200 0 ks.length]]⟩), (200, kRow ks)]
/-- times.Late -/
theorem late39 (p : Part) (now : Int) (hs : Small 1000000 p) : Con Try.prog 39 [Pa p, iv now] (.tup [Il (lateL now p), Pa (lateP now p)]) [] := by
  refine ⟨⟨_, _, Try.func39, rfl, by decide⟩, ICall.of_body0 T10_ok ⟨Try.func39, rfl, by decide⟩ (by simp [Try.f39]) ?_⟩
  have co := own29O p hs
  have cs := some77 p 80 [.vptr [iv now]] rfl
  refine AWP0.seq (AWP0.of (AWP.goA ?_))
  refine AWP0.seq (AWP0.of (AWP.goA ?_))
  refine AWP0.seq (AWP0.of (AWP.goC co ?_))
  refine AWP0.seq (AWP0.of (AWP.goA ?_))
  refine AWP0.seq (AWP0.seq (AWP0.of (AWP.goC cs ?_)))
  simp only [List.take_succ_cons, List.take_zero, List.drop_succ_cons, List.drop_zero, keysL, keysA, List.append_nil, List.nil_append, splice_zero_cons, splice_zero_nil, splice_succ, AV.closedAll, AV.closed, Bool.and_true, Bool.and_self]
  refine AWP0.block (AWP0.range (fn := Try.f97) ⟨Try.func97, rfl, by decide⟩ rfl rfl (iter97 p 80 now (lateB now) hs.procs fun x _ => late80 now x) 97 [(2, .ptr 16 0 0), (3, .ptr 24 0 0), (5, .ptr 40 0 0), (7, .ptr 56 0 0), (8, .ptr 64 0 0)] (fun pre => ltH now p (pre.map Fin.val)) (fun _ => [24]) (by show 0 ≤ 97; decide) (by show 16 < 29; decide) (by show 17 < 29; decide) rfl ?_ ?_ ?_ ?_)
  · intro pre; rfl
  · refine (Thin.newGhost 200 3 1 (by rfl)).trans ((Thin.boxGhost 64 200 26 (by rfl)).trans ?_)
    exact Thin.to [] rfl rfl rfl rfl rfl (by simp [envIn, eget, eput]) (by simp [killsH, hput, lateAll])
  · intro pre k hpre
    have hpl : pre.length ≤ p.procs.length := by
      obtain ⟨t, ht⟩ := hpre
      have h1 := congrArg List.length ht
      simp only [List.length_append, List.length_cons, List.length_nil] at h1
      have h2 := List.length_filter_le (fun k : Fin p.procs.length => lateB now p.procs[k]) (List.finRange p.procs.length)
      rw [List.length_finRange] at h2
      omega
    obtain ⟨ks, hks⟩ : ∃ ks, pre.map Fin.val = ks := ⟨_, rfl⟩
    have hkl : ks.length ≤ 1000000 := by rw [← hks]; simp; have := hs.procs; omega
    have hk1 : (pre ++ [k]).map Fin.val = ks ++ [(k : Nat)] := by rw [List.map_append, hks]; rfl
    simp only [hks, hk1]
    have hn := k.isLt
    obtain ⟨x, hx⟩ : ∃ x, p.procs[k] = x := ⟨_, rfl⟩
    simp only [hx]
    obtain ⟨n, hne⟩ : ∃ n : Nat, (k : Nat) = n := ⟨_, rfl⟩
    rw [hne] at hn
    simp only [hne]
    have hsn := lateAll_snoc p.procs ks n
    obtain ⟨q, hq⟩ : ∃ q, lateAll p.procs ks = q := ⟨_, rfl⟩
    have hql : q.length = p.procs.length := by rw [← hq]; exact lateAll_len _ _
    rw [hq] at hsn
    have hnq : n < q.length := by omega
    obtain ⟨y, hy⟩ : ∃ y, q[n] = y := ⟨_, rfl⟩
    have hy0 : q[n]? = some y := by rw [List.getElem?_eq_getElem hnq, hy]
    have hsn : lateAll p.procs (ks ++ [n]) = q.set n { y with due := -1 } := by rw [hsn]; simp [lateOne, hy0]
    have hip := idxP (l := q) hnq
    rw [hql] at hip
    have s1 := stPz [24] (cs := [iv (-1)]) (q := 12) (t := 3) (v := iv (-1)) { y with due := -1 } hy0 rfl rfl rfl (Nat.le_of_ble_eq_true rfl) rfl rfl
    simp only [hq, encProc]
    refine AWP.goF (And.intro hip s1) ?_
    simp only [killL, killA, List.map_cons, List.map_nil, List.set_cons_zero, reduceIte, Nat.reduceEqDiff, hq, List.take_succ_cons, List.take_zero, List.drop_succ_cons, List.drop_zero, keysL, keysA, List.append_nil, List.nil_append, splice_zero_cons, splice_zero_nil, splice_succ]
    refine AWP.goF (And.intro hip s1) ?_
    exact Thin.to [257] rfl rfl rfl rfl rfl (by simp [envIn]) (by simp [killsH, killH, killO, killL, killA, hsn])
  · intro D
    show AWP0 Try.prog _ ⟨_, _, _, ltH now p (lateK now p), _⟩ _ _
    obtain ⟨K, hK⟩ : ∃ K, lateK now p = K := ⟨_, rfl⟩
    have e1 : lateL now p = K.map fun k : Nat => (k : Int) := by rw [← hK]; rfl
    have e2 : lateP now p = { p with procs := lateAll p.procs K } := by rw [← hK]; rfl
    rw [hK, e1, e2]
    refine AWP0.of (AWP.goA ?_)
    refine AWP.ret ?_
    exact ⟨trivial, [], by simp, .tup [.osl 200 0 K.length, PaM 96 p.procs.length p], rfl, by simp [convA, convL, idxIn, hget, lsA, lsL, lateAll_len, List.take_of_length_le, encI, Function.comp_def], rfl, rfl⟩
end Go.Qd
