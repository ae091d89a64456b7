/- A part of the library of this claim: rules of an abstract machine (values in place of addresses), proved against the model, and contracts of the functions. -/
import Derived.Test.YtkenbgmadkelcaaW30
import Derived.Test.YtkenbgmadkelcaaW25
set_option linter.unusedVariables false
set_option linter.unusedSimpArgs false
set_option maxHeartbeats 8000000
set_option maxRecDepth 10000
namespace Go.Qd
open Go Go.Proofs
/-! ### Who has waited long enough goes on -/
def outB (x : Proc) : Bool := (x.kind != 1) && (x.kind != 2)
/-- A partition whose process k, that was x, goes on. -/
def wokeGo (k : Nat) (x : Proc) (p : Part) : Part := (goP (bif outB x then leaveP k p else p) k (bif outB x then 5 else 0) 0).1
def wakeOne (c : Conf) (now : Int) (k : Nat) (x : Proc) (p : Part) : Part :=
  if x.kind = 2 then match c.procs[k]? with
    | none => wokeGo k x p
    | some f => match (wokeGo k x p).procs[k]? with
      | none => wokeGo k x p
      | some y => setP (wokeGo k x p) k { y with due := behindP now f.limit, next := IntKind.i64.wrap (x.till + f.period) }
  else wokeGo k x p
def wakeSt (c : Conf) (now : Int) (p : Part) (l : List (Fin p.procs.length)) : Part := l.foldl (fun q (k : Fin p.procs.length) => wakeOne c now k p.procs[k] q) p
def wakeP (c : Conf) (now : Int) (p : Part) : Part := wakeSt c now p ((List.finRange p.procs.length).filter fun k => wokeB now p.procs[k])
theorem wokeGo_len (k : Nat) (x : Proc) (p : Part) : (wokeGo k x p).procs.length = p.procs.length := by
  unfold wokeGo goP
  split
  · cases outB x <;> simp [leaveP, gPart]
  · split <;> cases outB x <;> simp [leaveP, gPart, queueP]
theorem wokeGo_small {p : Part} (h : Small 1000000 p) (k : Nat) (x : Proc) : Small 1000000 (wokeGo k x p) := by
  unfold wokeGo
  refine small_goP ?_ _ _ _
  cases outB x
  · exact h
  · exact small_leaveP h _
theorem wakeOne_len (c : Conf) (now : Int) (k : Nat) (x : Proc) (p : Part) : (wakeOne c now k x p).procs.length = p.procs.length := by
  unfold wakeOne
  split
  · split
    · exact wokeGo_len _ _ _
    · split
      · exact wokeGo_len _ _ _
      · simp [setP, wokeGo_len]
  · exact wokeGo_len _ _ _
theorem wakeOne_small {p : Part} (h : Small 1000000 p) (c : Conf) (now : Int) (k : Nat) (x : Proc) : Small 1000000 (wakeOne c now k x p) := by
  unfold wakeOne
  split
  · split
    · exact wokeGo_small h _ _
    · split
      · exact wokeGo_small h _ _
      · exact small_setP (wokeGo_small h _ _) _ _
  · exact wokeGo_small h _ _
theorem wakeSt_snoc (c : Conf) (now : Int) (p : Part) (l : List (Fin p.procs.length)) (k : Fin p.procs.length) : wakeSt c now p (l ++ [k]) = wakeOne c now k p.procs[k] (wakeSt c now p l) := by
  unfold wakeSt; rw [List.foldl_append]; rfl
theorem wakeFold_facts (c : Conf) (now : Int) (p : Part) (l : List (Fin p.procs.length)) : ∀ q : Part, q.procs.length = p.procs.length → Small 1000000 q → (l.foldl (fun q (k : Fin p.procs.length) => wakeOne c now k p.procs[k] q) q).procs.length = p.procs.length ∧ Small 1000000 (l.foldl (fun q (k : Fin p.procs.length) => wakeOne c now k p.procs[k] q) q) := by
  induction l with
  | nil => intro q h1 h2; exact ⟨h1, h2⟩
  | cons k r ih => intro q h1 h2; exact ih _ ((wakeOne_len c now k _ q).trans h1) (wakeOne_small h2 c now k _)
theorem wakeSt_len {p : Part} (hs : Small 1000000 p) (c : Conf) (now : Int) (l : List (Fin p.procs.length)) : (wakeSt c now p l).procs.length = p.procs.length := (wakeFold_facts c now p l p rfl hs).1
theorem wakeSt_small {p : Part} (hs : Small 1000000 p) (c : Conf) (now : Int) (l : List (Fin p.procs.length)) : Small 1000000 (wakeSt c now p l) := (wakeFold_facts c now p l p rfl hs).2
abbrev zRow : AObj := ⟨39, 15, true, [[.int .i64 0, .int .i64 0, .int .i64 0, .esl, .esl, .esl, .esl, .esl, .esl, .esl, .esl, .int .i64 0, .esl, .int .i64 0, .esl]]⟩
abbrev cfRow (c : Conf) : AObj := ⟨28, 11, true, [encConf c]⟩
abbrev wkH (c : Conf) (now : Int) (q : Part) : Heap := [(24, cfRow c), (32, paRow q), (40, ⟨3, 1, true, [[iv now]]⟩), (48, zRow)]
abbrev oRow (k m : Nat) (p : Part) : AObj := ⟨39, 15, false, [[iv p.mode, iv p.begun, iv p.next, Il p.mem, .osl k 0 m, .lst (p.boards.map encBoard), .lst (p.bufs.map encBuf), .lst (p.semas.map encSema), .lst (p.events.map encEvent), .lst (p.samples.map encSample), .lst (p.queues.map encQueue), iv p.lat0, Il p.lines, iv p.lat2, Il p.given]]⟩
theorem wk_close (c : Conf) (now : Int) (g : Part) (l : List Proc) (m : Nat) (hm : m = l.length) : Thin ⟨49, 72, [], [(24, cfRow c), (32, oRow 337 m g), (40, ⟨3, 1, true, [[iv now]]⟩), (48, zRow), (337, pObj l)], [40]⟩ ⟨49, 72, [], wkH c now { g with procs := l }, [40]⟩ := by
  subst hm
  have h1 := Thin.drop (s := ⟨49, 72, [], [(24, cfRow c), (32, oRow 337 l.length g), (40, ⟨3, 1, true, [[iv now]]⟩), (48, zRow), (337, pObj l)], [40]⟩) 337 (by show 49 ≤ 337; decide)
  have e1 : convH (dropR 337) [(24, cfRow c), (32, oRow 337 l.length g), (40, ⟨3, 1, true, [[iv now]]⟩), (48, zRow), (337, pObj l)] [(24, cfRow c), (32, oRow 337 l.length g), (40, ⟨3, 1, true, [[iv now]]⟩), (48, zRow), (337, pObj l)] =
      [(24, cfRow c), (32, { paRow { g with procs := l } with closed := false }), (40, ⟨3, 1, true, [[iv now]]⟩), (48, zRow)] := by
    simp [convH, convO, dropR, convL, convA, hget, List.take_of_length_le]
  simp only [e1] at h1
  have h2 := Thin.shut (s := ⟨49, 72, [], [(24, cfRow c), (32, { paRow { g with procs := l } with closed := false }), (40, ⟨3, 1, true, [[iv now]]⟩), (48, zRow)], [40]⟩) 32 (ob := { paRow { g with procs := l } with closed := false }) rfl rfl
  exact h1.trans h2
/-- times.Wake -/
theorem wake36 (c : Conf) (p : Part) (now : Int) (hs : Small 1000000 p) : Con Try.prog 36 [Cf c, Pa p, iv now] (Pa (wakeP c now p)) [] := by
  refine ⟨⟨_, _, Try.func36, rfl, by decide⟩, ICall.of_body0 T10_ok ⟨Try.func36, rfl, by decide⟩ (by simp [Try.f36]) ?_⟩
  have co := own29 p hs
  have cs := some77 p 76 [.vptr [iv now]] rfl
  refine AWP0.seq (AWP0.of (AWP.goA ?_))
  refine AWP0.seq (AWP0.of (AWP.goA ?_))
  refine AWP0.seq (AWP0.of (AWP.goC co ?_))
  refine AWP0.seq (AWP0.seq (AWP0.of (AWP.goC (And.intro co cs) ?_)))
  try simp only [List.take_succ_cons, List.take_zero, List.drop_succ_cons, List.drop_zero, keysL, keysA, List.append_nil, List.nil_append, splice_zero_cons, splice_zero_nil, splice_succ, AV.closedAll, AV.closed, Bool.and_true, Bool.and_self]
  refine AWP0.block (AWP0.range (fn := Try.f97) ⟨Try.func97, rfl, by decide⟩ rfl rfl (iter97 p 76 now (wokeB now) hs.procs fun x _ => woke76 now x) 49 [(3, .ptr 24 0 0), (4, .ptr 32 0 0), (5, .ptr 40 0 0), (6, .ptr 48 0 0)] (fun pre => wkH c now (wakeSt c now p pre)) (fun _ => [40]) (by show 0 ≤ 49; decide) (by show 19 < 72; decide) (by show 20 < 72; decide) rfl ?_ ?_ ?_ ?_)
  · intro pre; rfl
  · exact Thin.to [] rfl rfl rfl rfl rfl (by simp [envIn, eget, eput]) (by simp [killsH, wakeSt, encConf])
  · intro pre k _
    have hq := wakeSt_small hs c now pre
    have hlen := wakeSt_len hs c now pre
    have hkl : (k : Nat) < (wakeSt c now p pre).procs.length := by rw [hlen]; exact k.isLt
    have hsn := wakeSt_snoc c now p pre k
    obtain ⟨x, hx⟩ : ∃ x, p.procs[k] = x := ⟨_, rfl⟩
    rw [hx] at hsn
    simp only [hx]
    obtain ⟨q, hqe⟩ : ∃ q, wakeSt c now p pre = q := ⟨_, rfl⟩
    rw [hqe] at hq hkl hsn
    simp only [hqe, hsn, encProc, encConf]
    obtain ⟨n, hn⟩ : ∃ n : Nat, (k : Nat) = n := ⟨_, rfl⟩
    simp only [hn] at *
    refine AWP.goA ?_
    obtain ⟨r, hr⟩ : ∃ r, wakeOne c now n x q = r := ⟨_, rfl⟩
    rw [hr]
    by_cases hk2 : x.kind = 2
    · have b1 : (x.kind != 1) = true := by simp [hk2]
      have b2 : (x.kind != 2) = false := by simp [hk2]
      have b3 : (x.kind == 2) = true := by simp [hk2]
      have ho : outB x = false := by simp [outB, b2]
      by_cases hnc : n < c.procs.length
      rotate_left
      · have b4 : decide ((n : Int) < (c.procs.length : Int)) = false := decide_eq_false (by omega)
        have cg := go23 q n 0 0 hq
        rw [opQ_in _ q n hkl] at cg
        have e : (goP q n 0 0).1 = r := by rw [← hr]; simp [wakeOne, hk2, wokeGo, ho, List.getElem?_eq_none (Nat.le_of_not_lt hnc)]
        rw [e] at cg
        refine AWP.goFC (And.intro b1 (And.intro b2 (And.intro b3 b4))) cg ?_
        refine AWP.condA ?_ ?_ <;> intro hz
        · cases hz
        refine AWP.goFC (And.intro b1 (And.intro b2 (And.intro b3 b4))) cg ?_
        refine AWP.condA ?_ ?_ <;> intro hz
        · cases hz
        refine AWP.goA ?_
        try simp only [List.take_succ_cons, List.take_zero, List.drop_succ_cons, List.drop_zero, keysL, keysA, List.append_nil, List.nil_append, splice_zero_cons, splice_zero_nil, splice_succ, AV.closedAll, AV.closed, Bool.and_true, Bool.and_self]
        exact Thin.to [121] rfl rfl rfl rfl rfl (by simp [envIn]) rfl
      have b4 : decide ((n : Int) < (c.procs.length : Int)) = true := decide_eq_true (by omega)
      have cg := go23O q n 0 0 hq
      rw [opQ_in _ q n hkl] at cg
      obtain ⟨g, hg⟩ : ∃ g, (goP q n 0 0).1 = g := ⟨_, rfl⟩
      have hgw : wokeGo n x q = g := by rw [← hg]; simp [wokeGo, ho]
      have hgl : g.procs.length = q.procs.length := by rw [← hgw]; exact wokeGo_len _ _ _
      have hng : n < g.procs.length := by rw [hgl]; exact hkl
      rw [hg] at cg
      obtain ⟨y, hy⟩ : ∃ y, g.procs[n] = y := ⟨_, rfl⟩
      have hy0 : g.procs[n]? = some y := by rw [List.getElem?_eq_getElem hng, hy]
      obtain ⟨fa, fb, fc, fd, fe, hff⟩ : ∃ a b c' d e, c.procs[n] = ⟨a, b, c', d, e⟩ := ⟨_, _, _, _, _, rfl⟩
      have hix := idxF (l := c.procs) hnc
      rw [hff] at hix
      simp only [encPConf] at hix
      have hip := idxP (l := g.procs) hng
      have e : r = setP g n { y with due := behindP now fc, next := IntKind.i64.wrap (x.till + fb) } := by
        rw [← hr]; simp [wakeOne, hk2, hgw, hy0, List.getElem?_eq_getElem hnc, hff]
      have s1 := stPz [40] (cs := [iv (behindP now fc)]) (q := 12) (t := 3) (v := iv (behindP now fc)) { y with due := behindP now fc } hy0 rfl rfl rfl (by simp) rfl rfl
      have s2 := stPz [40] (cs := [iv (IntKind.i64.wrap (x.till + fb))]) (l := g.procs.set n { y with due := behindP now fc }) (x := { y with due := behindP now fc }) (q := 13) (t := 3) (v := iv (IntKind.i64.wrap (x.till + fb))) { y with due := behindP now fc, next := IntKind.i64.wrap (x.till + fb) } (by rw [List.getElem?_set_self hng]) rfl rfl rfl (Nat.le_of_ble_eq_true rfl) rfl rfl
      simp only [List.set_set] at s2
      have cb := behind78 now fc
      refine AWP.goFC (And.intro b1 (And.intro b2 (And.intro b3 b4))) cg ?_
      refine AWP.condA ?_ ?_ <;> intro hz
      · cases hz
      refine AWP.goFC (And.intro b1 (And.intro b2 (And.intro b3 b4))) cg ?_
      try simp only [List.take_succ_cons, List.take_zero, List.drop_succ_cons, List.drop_zero, keysL, keysA, List.append_nil, List.nil_append, splice_zero_cons, splice_zero_nil, splice_succ, AV.closedAll, AV.closed, Bool.and_true, Bool.and_self]
      refine AWP.goFC (And.intro b1 (And.intro b2 (And.intro b3 b4))) cg ?_
      refine AWP.condA ?_ ?_ <;> intro hz
      rotate_left
      · cases hz
      refine AWP.goF hix ?_
      try simp only [List.take_succ_cons, List.take_zero, List.drop_succ_cons, List.drop_zero, keysL, keysA, List.append_nil, List.nil_append, splice_zero_cons, splice_zero_nil, splice_succ, AV.closedAll, AV.closed, Bool.and_true, Bool.and_self]
      have hA := And.intro hip (And.intro s1 s2)
      apply AWP.anyR Zz_mixed
      focus
        (repeat (apply Trace.cons; (focus (first | exact Loc.opF hA | exact Loc.opYesF hA | exact Loc.opNoA | exact Loc.conA cb)); (focus exact applyF hA)))
        exact Trace.nil _
      focus kernel_rfl
      simp only [Then, InBlock]
      rw [e]
      refine Thin.trans (Thin.to (y := ⟨49, 72, [], [(24, cfRow c), (32, oRow 337 g.procs.length g), (40, ⟨3, 1, true, [[iv now]]⟩), (48, zRow), (337, pObj (g.procs.set n { y with due := behindP now fc, next := IntKind.i64.wrap (x.till + fb) }))], [40]⟩) [121, 137] rfl rfl rfl rfl rfl (by simp [envIn]) rfl) (wk_close c now g _ _ (by simp))
    have b2 : (x.kind != 2) = true := by simpa using hk2
    have b3 : (x.kind == 2) = false := by simpa using hk2
    by_cases hk1 : x.kind = 1
    · have b1 : (x.kind != 1) = false := by simpa using hk1
      have ho : outB x = false := by simp [outB, b1]
      have cg := go23 q n 0 0 hq
      rw [opQ_in _ q n hkl] at cg
      have e : (goP q n 0 0).1 = r := by rw [← hr]; simp [wakeOne, hk2, wokeGo, ho]
      rw [e] at cg
      refine AWP.goFC (And.intro b1 b3) cg ?_
      refine AWP.condA ?_ ?_ <;> intro hz
      · cases hz
      refine AWP.goFC (And.intro b1 b3) cg ?_
      refine AWP.condA ?_ ?_ <;> intro hz
      · cases hz
      refine AWP.goA ?_
      try simp only [List.take_succ_cons, List.take_zero, List.drop_succ_cons, List.drop_zero, keysL, keysA, List.append_nil, List.nil_append, splice_zero_cons, splice_zero_nil, splice_succ, AV.closedAll, AV.closed, Bool.and_true, Bool.and_self]
      exact Thin.to [121] rfl rfl rfl rfl rfl (by simp [envIn]) rfl
    have b1 : (x.kind != 1) = true := by simpa using hk1
    have ho : outB x = true := by simp [outB, b1, b2]
    have cl := leave25 q n hq
    have hkl2 : n < (leaveP n q).procs.length := hkl
    have cg := go23 (leaveP n q) n 5 0 (small_leaveP hq _)
    rw [opQ_in _ _ n hkl2] at cg
    have e : (goP (leaveP n q) n 5 0).1 = r := by rw [← hr]; simp [wakeOne, hk2, wokeGo, ho]
    rw [e] at cg
    refine AWP.goFC (And.intro b1 (And.intro b2 b3)) (And.intro cl cg) ?_
    refine AWP.condA ?_ ?_ <;> intro hz
    rotate_left
    · cases hz
    refine AWP.goFC (And.intro b1 (And.intro b2 b3)) (And.intro cl cg) ?_
    try simp only [List.take_succ_cons, List.take_zero, List.drop_succ_cons, List.drop_zero, keysL, keysA, List.append_nil, List.nil_append, splice_zero_cons, splice_zero_nil, splice_succ, AV.closedAll, AV.closed, Bool.and_true, Bool.and_self]
    refine AWP.goFC (And.intro b1 (And.intro b2 b3)) (And.intro cl cg) ?_
    refine AWP.condA ?_ ?_ <;> intro hz
    · cases hz
    refine AWP.goA ?_
    try simp only [List.take_succ_cons, List.take_zero, List.drop_succ_cons, List.drop_zero, keysL, keysA, List.append_nil, List.nil_append, splice_zero_cons, splice_zero_nil, splice_succ, AV.closedAll, AV.closed, Bool.and_true, Bool.and_self]
    exact Thin.to [121] rfl rfl rfl rfl rfl (by simp [envIn]) rfl
  · intro D
    show AWP0 Try.prog _ _ _ _
    refine AWP0.of (AWP.goA ?_)
    refine AWP.ret ?_
    exact ⟨trivial, [], by simp, Pa (wakeP c now p), rfl, rfl, rfl, rfl⟩
end Go.Qd
