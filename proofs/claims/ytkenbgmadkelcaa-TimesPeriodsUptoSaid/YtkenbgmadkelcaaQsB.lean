/- A part of the library of this claim: rules of an abstract machine (values in place of addresses), proved against the model, and contracts of the functions. -/
import Derived.Test.YtkenbgmadkelcaaQsA
set_option linter.unusedVariables false
set_option linter.unusedSimpArgs false
namespace Go.Qd
open Go Go.Proofs
section
variable {ops : Array Oper} {s : AS} {N : AS → Prop} {c : Code} {K : Exit → AS → Prop}
theorem AOps.backF {A : Prop} (f : A) {l : List Oper} {Q : Prop} (hq : Q) (h : A → Goal Q → AOps Try.prog ops l s N := by intro hA hQ; (simp (config := {decide := true}) only [AS.enter, List.take_succ_cons, List.take_zero, splice_zero_cons, splice_zero_nil, splice_succ, List.length_cons, List.length_nil, AV.closedAll, AV.closed, Bool.and_false, Bool.and_true, Bool.true_and, Bool.false_and, Bool.and_self, AS.backL, AS.back, AS.backK, convA, convL, convH, convO, rhoL, rhoT, rhoK, eput, hget, reduceIte, Nat.reduceEqDiff, Nat.reduceLT, Nat.reduceBEq, AS.top, Nat.reduceMul, Nat.reduceAdd, entryEnv, List.filter_nil, List.filterMap_nil, List.filterMap_cons, List.find?_nil, List.find?_cons, List.all_nil, List.all_cons, List.map_cons, List.map_nil, true_and, and_true, ne_eq, not_false_eq_true, not_true_eq_false, and_false, false_and, List.append_nil, List.nil_append, List.cons_append, hA]); exact hQ.out) : AOps Try.prog ops l s N := h f ⟨hq⟩
theorem AWP.enterF {A : Prop} (f : A) {Q : Prop} (hq : Q) (h : A → Goal Q → AWP Try.prog c s K := by intro hA hQ; (simp (config := {decide := true}) only [AS.enter, List.take_succ_cons, List.take_zero, splice_zero_cons, splice_zero_nil, splice_succ, List.length_cons, List.length_nil, AV.closedAll, AV.closed, Bool.and_false, Bool.and_true, Bool.true_and, Bool.false_and, Bool.and_self, AS.backL, AS.back, AS.backK, convA, convL, convH, convO, rhoL, rhoT, rhoK, eput, hget, reduceIte, Nat.reduceEqDiff, Nat.reduceLT, Nat.reduceBEq, AS.top, Nat.reduceMul, Nat.reduceAdd, entryEnv, List.filter_nil, List.filterMap_nil, List.filterMap_cons, List.find?_nil, List.find?_cons, List.all_nil, List.all_cons, List.map_cons, List.map_nil, true_and, and_true, ne_eq, not_false_eq_true, not_true_eq_false, and_false, false_and, List.append_nil, List.nil_append, List.cons_append, hA]); exact hQ.out) : AWP Try.prog c s K := h f ⟨hq⟩
end
end Go.Qd
set_option linter.unusedVariables false
set_option linter.unusedSimpArgs false
set_option maxHeartbeats 4000000
set_option maxRecDepth 10000
namespace Go.Qd
open Go Go.Proofs
theorem app67 {l : List Wait} (hl : l.length ≤ 1000000) (s : AS) (key : Nat) (hk : freeKey s key = true) : aappend T10 s key 67 (.lst (l.map encWait)) = some ⟨.osl key 0 l.length, [(key, ⟨102, 3, true, l.map encWait⟩)], [], []⟩ :=
  app_rows (e := 102) rfl rfl rfl (fun r hr => by obtain ⟨w, _, rfl⟩ := List.mem_map.1 hr; rfl) (by simp) (by decide) (by decide) rfl (by simp; omega) hk
theorem idx67 {l : List Wait} {i : Nat} (hi : i < l.length) (h : Heap) : aindexAddr' T10 h 67 (.lst (l.map encWait)) (i : Int) = some (.vptr (encWait l[i])) :=
  index_lst (e := 102) rfl rfl rfl (by simp [hi]) rfl
/-- slices.Clone -/
theorem clone63 (l : List Wait) (hl : l.length ≤ 1000000) : Con Try.prog 63 [.lst (l.map encWait)] (.osl 0 0 l.length) [⟨102, 3, true, l.map encWait⟩] := by
  refine ⟨⟨_, _, Try.func63, rfl, by decide⟩, ICall.of_body' T10_ok ⟨Try.func63, rfl, by decide⟩ (by simp [Try.f63]) ?_⟩
  refine AWP.goA ?_
  refine AWP.region ?_
  refine AOps.goA ?_
  refine AOps.eqnilC T10_ok rfl rfl rfl (.inl rfl) rfl rfl (by (simp only [acall, aev, aevs, eget, mget, ofConst_int, ofConst_bool, ofConst_nilS, reduceIte, Nat.reduceEqDiff, Option.getD, List.append_nil, List.nil_append, List.cons_append]) <;> rfl) (by rfl) fun b hb => ?_
  refine AOps.asA ?_
  refine AOps.endA ?_
  refine AWP.condA ?_ ?_ <;> intro hc
  · have hn : l = [] := by
      cases l with
      | nil => rfl
      | cons x r => exact absurd (hb (by simp)) (by rw [hc]; simp)
    subst hn
    refine AWP.goA ?_
    refine AWP.thin (Thin.ghost 2 57 102 3 (by rfl) (by rfl)) ?_
    refine AWP.ret ?_
    exact ⟨trivial, [57], by simp, .osl 57 0 0, rfl, rfl, rfl, rfl⟩
  · refine AWP.goA ?_
    refine AWP.region ?_
    refine AOps.goA ?_
    refine AOps.appA (app67 hl _ _ (by rfl)) ?_
    refine AOps.goA ?_
    refine AOps.endA ?_
    refine AWP.ret ?_
    exact ⟨trivial, [56], by simp, .osl 56 0 l.length, rfl, rfl, rfl, rfl⟩
theorem clone63C (l : List Wait) (hl : l.length ≤ 1000000) : Con Try.prog 63 [.lst (l.map encWait)] (.lst (l.map encWait)) [] :=
  (clone63 l hl).close (by simp [convA, convL, enumH, hget, lsA, lsL, List.take_of_length_le])
theorem app26 {l : List Int} (hl : l.length ≤ 1000000) (s : AS) (key : Nat) (hk : freeKey s key = true) : aappend T10 s key 26 (.lst (l.map encI)) = some ⟨.osl key 0 l.length, [(key, ⟨3, 1, true, l.map encI⟩)], [], []⟩ :=
  app_rows (e := 3) rfl rfl rfl (fun r hr => by obtain ⟨w, _, rfl⟩ := List.mem_map.1 hr; rfl) (by simp) (by decide) (by decide) rfl (by simp; omega) hk
theorem idx26 {l : List Int} {i : Nat} (hi : i < l.length) (h : Heap) : aindexAddr' T10 h 26 (.lst (l.map encI)) (i : Int) = some (.vptr (encI l[i])) :=
  index_lst (e := 3) rfl rfl rfl (by simp [hi]) rfl
/-- slices.Clone -/
theorem clone86 (l : List Int) (hl : l.length ≤ 1000000) : Con Try.prog 86 [.lst (l.map encI)] (.osl 0 0 l.length) [⟨3, 1, true, l.map encI⟩] := by
  refine ⟨⟨_, _, Try.func86, rfl, by decide⟩, ICall.of_body' T10_ok ⟨Try.func86, rfl, by decide⟩ (by simp [Try.f86]) ?_⟩
  refine AWP.goA ?_
  refine AWP.region ?_
  refine AOps.goA ?_
  refine AOps.eqnilC T10_ok rfl rfl rfl (.inl rfl) rfl rfl (by (simp only [acall, aev, aevs, eget, mget, ofConst_int, ofConst_bool, ofConst_nilS, reduceIte, Nat.reduceEqDiff, Option.getD, List.append_nil, List.nil_append, List.cons_append]) <;> rfl) (by rfl) fun b hb => ?_
  refine AOps.asA ?_
  refine AOps.endA ?_
  refine AWP.condA ?_ ?_ <;> intro hc
  · have hn : l = [] := by
      cases l with
      | nil => rfl
      | cons x r => exact absurd (hb (by simp)) (by rw [hc]; simp)
    subst hn
    refine AWP.goA ?_
    refine AWP.thin (Thin.ghost 2 57 3 1 (by rfl) (by rfl)) ?_
    refine AWP.ret ?_
    exact ⟨trivial, [57], by simp, .osl 57 0 0, rfl, rfl, rfl, rfl⟩
  · refine AWP.goA ?_
    refine AWP.region ?_
    refine AOps.goA ?_
    refine AOps.appA (app26 hl _ _ (by rfl)) ?_
    refine AOps.goA ?_
    refine AOps.endA ?_
    refine AWP.ret ?_
    exact ⟨trivial, [56], by simp, .osl 56 0 l.length, rfl, rfl, rfl, rfl⟩
theorem clone86C (l : List Int) (hl : l.length ≤ 1000000) : Con Try.prog 86 [.lst (l.map encI)] (.lst (l.map encI)) [] :=
  (clone86 l hl).close (by simp [convA, convL, enumH, hget, lsA, lsL, List.take_of_length_le])
theorem app29 {l : List Proc} (hl : l.length ≤ 1000000) (s : AS) (key : Nat) (hk : freeKey s key = true) : aappend T10 s key 29 (.lst (l.map encProc)) = some ⟨.osl key 0 l.length, [(key, ⟨49, 18, true, l.map encProc⟩)], [], []⟩ :=
  app_rows (e := 49) rfl rfl rfl (fun r hr => by obtain ⟨w, _, rfl⟩ := List.mem_map.1 hr; rfl) (by simp) (by decide) (by decide) rfl (by simp; omega) hk
theorem idx29 {l : List Proc} {i : Nat} (hi : i < l.length) (h : Heap) : aindexAddr' T10 h 29 (.lst (l.map encProc)) (i : Int) = some (.vptr (encProc l[i])) :=
  index_lst (e := 49) rfl rfl rfl (by simp [hi]) rfl
/-- slices.Clone -/
theorem clone93 (l : List Proc) (hl : l.length ≤ 1000000) : Con Try.prog 93 [.lst (l.map encProc)] (.osl 0 0 l.length) [⟨49, 18, true, l.map encProc⟩] := by
  refine ⟨⟨_, _, Try.func93, rfl, by decide⟩, ICall.of_body' T10_ok ⟨Try.func93, rfl, by decide⟩ (by simp [Try.f93]) ?_⟩
  refine AWP.goA ?_
  refine AWP.region ?_
  refine AOps.goA ?_
  refine AOps.eqnilC T10_ok rfl rfl rfl (.inl rfl) rfl rfl (by (simp only [acall, aev, aevs, eget, mget, ofConst_int, ofConst_bool, ofConst_nilS, reduceIte, Nat.reduceEqDiff, Option.getD, List.append_nil, List.nil_append, List.cons_append]) <;> rfl) (by rfl) fun b hb => ?_
  refine AOps.asA ?_
  refine AOps.endA ?_
  refine AWP.condA ?_ ?_ <;> intro hc
  · have hn : l = [] := by
      cases l with
      | nil => rfl
      | cons x r => exact absurd (hb (by simp)) (by rw [hc]; simp)
    subst hn
    refine AWP.goA ?_
    refine AWP.thin (Thin.ghost 2 57 49 18 (by rfl) (by rfl)) ?_
    refine AWP.ret ?_
    exact ⟨trivial, [57], by simp, .osl 57 0 0, rfl, rfl, rfl, rfl⟩
  · refine AWP.goA ?_
    refine AWP.region ?_
    refine AOps.goA ?_
    refine AOps.appA (app29 hl _ _ (by rfl)) ?_
    refine AOps.goA ?_
    refine AOps.endA ?_
    refine AWP.ret ?_
    exact ⟨trivial, [56], by simp, .osl 56 0 l.length, rfl, rfl, rfl, rfl⟩
theorem clone93C (l : List Proc) (hl : l.length ≤ 1000000) : Con Try.prog 93 [.lst (l.map encProc)] (.lst (l.map encProc)) [] :=
  (clone93 l hl).close (by simp [convA, convL, enumH, hget, lsA, lsL, List.take_of_length_le])
theorem app34 {l : List Sample} (hl : l.length ≤ 1000000) (s : AS) (key : Nat) (hk : freeKey s key = true) : aappend T10 s key 34 (.lst (l.map encSample)) = some ⟨.osl key 0 l.length, [(key, ⟨94, 3, true, l.map encSample⟩)], [], []⟩ :=
  app_rows (e := 94) rfl rfl rfl (fun r hr => by obtain ⟨w, _, rfl⟩ := List.mem_map.1 hr; rfl) (by simp) (by decide) (by decide) rfl (by simp; omega) hk
theorem idx34 {l : List Sample} {i : Nat} (hi : i < l.length) (h : Heap) : aindexAddr' T10 h 34 (.lst (l.map encSample)) (i : Int) = some (.vptr (encSample l[i])) :=
  index_lst (e := 94) rfl rfl rfl (by simp [hi]) rfl
/-- slices.Clone -/
theorem clone94 (l : List Sample) (hl : l.length ≤ 1000000) : Con Try.prog 94 [.lst (l.map encSample)] (.osl 0 0 l.length) [⟨94, 3, true, l.map encSample⟩] := by
  refine ⟨⟨_, _, Try.func94, rfl, by decide⟩, ICall.of_body' T10_ok ⟨Try.func94, rfl, by decide⟩ (by simp [Try.f94]) ?_⟩
  refine AWP.goA ?_
  refine AWP.region ?_
  refine AOps.goA ?_
  refine AOps.eqnilC T10_ok rfl rfl rfl (.inl rfl) rfl rfl (by (simp only [acall, aev, aevs, eget, mget, ofConst_int, ofConst_bool, ofConst_nilS, reduceIte, Nat.reduceEqDiff, Option.getD, List.append_nil, List.nil_append, List.cons_append]) <;> rfl) (by rfl) fun b hb => ?_
  refine AOps.asA ?_
  refine AOps.endA ?_
  refine AWP.condA ?_ ?_ <;> intro hc
  · have hn : l = [] := by
      cases l with
      | nil => rfl
      | cons x r => exact absurd (hb (by simp)) (by rw [hc]; simp)
    subst hn
    refine AWP.goA ?_
    refine AWP.thin (Thin.ghost 2 57 94 3 (by rfl) (by rfl)) ?_
    refine AWP.ret ?_
    exact ⟨trivial, [57], by simp, .osl 57 0 0, rfl, rfl, rfl, rfl⟩
  · refine AWP.goA ?_
    refine AWP.region ?_
    refine AOps.goA ?_
    refine AOps.appA (app34 hl _ _ (by rfl)) ?_
    refine AOps.goA ?_
    refine AOps.endA ?_
    refine AWP.ret ?_
    exact ⟨trivial, [56], by simp, .osl 56 0 l.length, rfl, rfl, rfl, rfl⟩
theorem clone94C (l : List Sample) (hl : l.length ≤ 1000000) : Con Try.prog 94 [.lst (l.map encSample)] (.lst (l.map encSample)) [] :=
  (clone94 l hl).close (by simp [convA, convL, enumH, hget, lsA, lsL, List.take_of_length_le])
theorem app30 {l : List Board} (hl : l.length ≤ 1000000) (s : AS) (key : Nat) (hk : freeKey s key = true) : aappend T10 s key 30 (.lst (l.map encBoard)) = some ⟨.osl key 0 l.length, [(key, ⟨78, 3, true, l.map encBoard⟩)], [], []⟩ :=
  app_rows (e := 78) rfl rfl rfl (fun r hr => by obtain ⟨w, _, rfl⟩ := List.mem_map.1 hr; rfl) (by simp) (by decide) (by decide) rfl (by simp; omega) hk
theorem idx30 {l : List Board} {i : Nat} (hi : i < l.length) (h : Heap) : aindexAddr' T10 h 30 (.lst (l.map encBoard)) (i : Int) = some (.vptr (encBoard l[i])) :=
  index_lst (e := 78) rfl rfl rfl (by simp [hi]) rfl
/-- slices.Clone -/
theorem clone98 (l : List Board) (hl : l.length ≤ 1000000) : Con Try.prog 98 [.lst (l.map encBoard)] (.osl 0 0 l.length) [⟨78, 3, true, l.map encBoard⟩] := by
  refine ⟨⟨_, _, Try.func98, rfl, by decide⟩, ICall.of_body' T10_ok ⟨Try.func98, rfl, by decide⟩ (by simp [Try.f98]) ?_⟩
  refine AWP.goA ?_
  refine AWP.region ?_
  refine AOps.goA ?_
  refine AOps.eqnilC T10_ok rfl rfl rfl (.inl rfl) rfl rfl (by (simp only [acall, aev, aevs, eget, mget, ofConst_int, ofConst_bool, ofConst_nilS, reduceIte, Nat.reduceEqDiff, Option.getD, List.append_nil, List.nil_append, List.cons_append]) <;> rfl) (by rfl) fun b hb => ?_
  refine AOps.asA ?_
  refine AOps.endA ?_
  refine AWP.condA ?_ ?_ <;> intro hc
  · have hn : l = [] := by
      cases l with
      | nil => rfl
      | cons x r => exact absurd (hb (by simp)) (by rw [hc]; simp)
    subst hn
    refine AWP.goA ?_
    refine AWP.thin (Thin.ghost 2 57 78 3 (by rfl) (by rfl)) ?_
    refine AWP.ret ?_
    exact ⟨trivial, [57], by simp, .osl 57 0 0, rfl, rfl, rfl, rfl⟩
  · refine AWP.goA ?_
    refine AWP.region ?_
    refine AOps.goA ?_
    refine AOps.appA (app30 hl _ _ (by rfl)) ?_
    refine AOps.goA ?_
    refine AOps.endA ?_
    refine AWP.ret ?_
    exact ⟨trivial, [56], by simp, .osl 56 0 l.length, rfl, rfl, rfl, rfl⟩
theorem clone98C (l : List Board) (hl : l.length ≤ 1000000) : Con Try.prog 98 [.lst (l.map encBoard)] (.lst (l.map encBoard)) [] :=
  (clone98 l hl).close (by simp [convA, convL, enumH, hget, lsA, lsL, List.take_of_length_le])
theorem app31 {l : List Buf} (hl : l.length ≤ 1000000) (s : AS) (key : Nat) (hk : freeKey s key = true) : aappend T10 s key 31 (.lst (l.map encBuf)) = some ⟨.osl key 0 l.length, [(key, ⟨69, 4, true, l.map encBuf⟩)], [], []⟩ :=
  app_rows (e := 69) rfl rfl rfl (fun r hr => by obtain ⟨w, _, rfl⟩ := List.mem_map.1 hr; rfl) (by simp) (by decide) (by decide) rfl (by simp; omega) hk
theorem idx31 {l : List Buf} {i : Nat} (hi : i < l.length) (h : Heap) : aindexAddr' T10 h 31 (.lst (l.map encBuf)) (i : Int) = some (.vptr (encBuf l[i])) :=
  index_lst (e := 69) rfl rfl rfl (by simp [hi]) rfl
/-- slices.Clone -/
theorem clone99 (l : List Buf) (hl : l.length ≤ 1000000) : Con Try.prog 99 [.lst (l.map encBuf)] (.osl 0 0 l.length) [⟨69, 4, true, l.map encBuf⟩] := by
  refine ⟨⟨_, _, Try.func99, rfl, by decide⟩, ICall.of_body' T10_ok ⟨Try.func99, rfl, by decide⟩ (by simp [Try.f99]) ?_⟩
  refine AWP.goA ?_
  refine AWP.region ?_
  refine AOps.goA ?_
  refine AOps.eqnilC T10_ok rfl rfl rfl (.inl rfl) rfl rfl (by (simp only [acall, aev, aevs, eget, mget, ofConst_int, ofConst_bool, ofConst_nilS, reduceIte, Nat.reduceEqDiff, Option.getD, List.append_nil, List.nil_append, List.cons_append]) <;> rfl) (by rfl) fun b hb => ?_
  refine AOps.asA ?_
  refine AOps.endA ?_
  refine AWP.condA ?_ ?_ <;> intro hc
  · have hn : l = [] := by
      cases l with
      | nil => rfl
      | cons x r => exact absurd (hb (by simp)) (by rw [hc]; simp)
    subst hn
    refine AWP.goA ?_
    refine AWP.thin (Thin.ghost 2 57 69 4 (by rfl) (by rfl)) ?_
    refine AWP.ret ?_
    exact ⟨trivial, [57], by simp, .osl 57 0 0, rfl, rfl, rfl, rfl⟩
  · refine AWP.goA ?_
    refine AWP.region ?_
    refine AOps.goA ?_
    refine AOps.appA (app31 hl _ _ (by rfl)) ?_
    refine AOps.goA ?_
    refine AOps.endA ?_
    refine AWP.ret ?_
    exact ⟨trivial, [56], by simp, .osl 56 0 l.length, rfl, rfl, rfl, rfl⟩
theorem clone99C (l : List Buf) (hl : l.length ≤ 1000000) : Con Try.prog 99 [.lst (l.map encBuf)] (.lst (l.map encBuf)) [] :=
  (clone99 l hl).close (by simp [convA, convL, enumH, hget, lsA, lsL, List.take_of_length_le])
theorem app32 {l : List Sema} (hl : l.length ≤ 1000000) (s : AS) (key : Nat) (hk : freeKey s key = true) : aappend T10 s key 32 (.lst (l.map encSema)) = some ⟨.osl key 0 l.length, [(key, ⟨80, 4, true, l.map encSema⟩)], [], []⟩ :=
  app_rows (e := 80) rfl rfl rfl (fun r hr => by obtain ⟨w, _, rfl⟩ := List.mem_map.1 hr; rfl) (by simp) (by decide) (by decide) rfl (by simp; omega) hk
theorem idx32 {l : List Sema} {i : Nat} (hi : i < l.length) (h : Heap) : aindexAddr' T10 h 32 (.lst (l.map encSema)) (i : Int) = some (.vptr (encSema l[i])) :=
  index_lst (e := 80) rfl rfl rfl (by simp [hi]) rfl
/-- slices.Clone -/
theorem clone100 (l : List Sema) (hl : l.length ≤ 1000000) : Con Try.prog 100 [.lst (l.map encSema)] (.osl 0 0 l.length) [⟨80, 4, true, l.map encSema⟩] := by
  refine ⟨⟨_, _, Try.func100, rfl, by decide⟩, ICall.of_body' T10_ok ⟨Try.func100, rfl, by decide⟩ (by simp [Try.f100]) ?_⟩
  refine AWP.goA ?_
  refine AWP.region ?_
  refine AOps.goA ?_
  refine AOps.eqnilC T10_ok rfl rfl rfl (.inl rfl) rfl rfl (by (simp only [acall, aev, aevs, eget, mget, ofConst_int, ofConst_bool, ofConst_nilS, reduceIte, Nat.reduceEqDiff, Option.getD, List.append_nil, List.nil_append, List.cons_append]) <;> rfl) (by rfl) fun b hb => ?_
  refine AOps.asA ?_
  refine AOps.endA ?_
  refine AWP.condA ?_ ?_ <;> intro hc
  · have hn : l = [] := by
      cases l with
      | nil => rfl
      | cons x r => exact absurd (hb (by simp)) (by rw [hc]; simp)
    subst hn
    refine AWP.goA ?_
    refine AWP.thin (Thin.ghost 2 57 80 4 (by rfl) (by rfl)) ?_
    refine AWP.ret ?_
    exact ⟨trivial, [57], by simp, .osl 57 0 0, rfl, rfl, rfl, rfl⟩
  · refine AWP.goA ?_
    refine AWP.region ?_
    refine AOps.goA ?_
    refine AOps.appA (app32 hl _ _ (by rfl)) ?_
    refine AOps.goA ?_
    refine AOps.endA ?_
    refine AWP.ret ?_
    exact ⟨trivial, [56], by simp, .osl 56 0 l.length, rfl, rfl, rfl, rfl⟩
theorem clone100C (l : List Sema) (hl : l.length ≤ 1000000) : Con Try.prog 100 [.lst (l.map encSema)] (.lst (l.map encSema)) [] :=
  (clone100 l hl).close (by simp [convA, convL, enumH, hget, lsA, lsL, List.take_of_length_le])
theorem app33 {l : List Event} (hl : l.length ≤ 1000000) (s : AS) (key : Nat) (hk : freeKey s key = true) : aappend T10 s key 33 (.lst (l.map encEvent)) = some ⟨.osl key 0 l.length, [(key, ⟨82, 2, true, l.map encEvent⟩)], [], []⟩ :=
  app_rows (e := 82) rfl rfl rfl (fun r hr => by obtain ⟨w, _, rfl⟩ := List.mem_map.1 hr; rfl) (by simp) (by decide) (by decide) rfl (by simp; omega) hk
theorem idx33 {l : List Event} {i : Nat} (hi : i < l.length) (h : Heap) : aindexAddr' T10 h 33 (.lst (l.map encEvent)) (i : Int) = some (.vptr (encEvent l[i])) :=
  index_lst (e := 82) rfl rfl rfl (by simp [hi]) rfl
/-- slices.Clone -/
theorem clone101 (l : List Event) (hl : l.length ≤ 1000000) : Con Try.prog 101 [.lst (l.map encEvent)] (.osl 0 0 l.length) [⟨82, 2, true, l.map encEvent⟩] := by
  refine ⟨⟨_, _, Try.func101, rfl, by decide⟩, ICall.of_body' T10_ok ⟨Try.func101, rfl, by decide⟩ (by simp [Try.f101]) ?_⟩
  refine AWP.goA ?_
  refine AWP.region ?_
  refine AOps.goA ?_
  refine AOps.eqnilC T10_ok rfl rfl rfl (.inl rfl) rfl rfl (by (simp only [acall, aev, aevs, eget, mget, ofConst_int, ofConst_bool, ofConst_nilS, reduceIte, Nat.reduceEqDiff, Option.getD, List.append_nil, List.nil_append, List.cons_append]) <;> rfl) (by rfl) fun b hb => ?_
  refine AOps.asA ?_
  refine AOps.endA ?_
  refine AWP.condA ?_ ?_ <;> intro hc
  · have hn : l = [] := by
      cases l with
      | nil => rfl
      | cons x r => exact absurd (hb (by simp)) (by rw [hc]; simp)
    subst hn
    refine AWP.goA ?_
    refine AWP.thin (Thin.ghost 2 57 82 2 (by rfl) (by rfl)) ?_
    refine AWP.ret ?_
    exact ⟨trivial, [57], by simp, .osl 57 0 0, rfl, rfl, rfl, rfl⟩
  · refine AWP.goA ?_
    refine AWP.region ?_
    refine AOps.goA ?_
    refine AOps.appA (app33 hl _ _ (by rfl)) ?_
    refine AOps.goA ?_
    refine AOps.endA ?_
    refine AWP.ret ?_
    exact ⟨trivial, [56], by simp, .osl 56 0 l.length, rfl, rfl, rfl, rfl⟩
theorem clone101C (l : List Event) (hl : l.length ≤ 1000000) : Con Try.prog 101 [.lst (l.map encEvent)] (.lst (l.map encEvent)) [] :=
  (clone101 l hl).close (by simp [convA, convL, enumH, hget, lsA, lsL, List.take_of_length_le])
theorem app35 {l : List Queue} (hl : l.length ≤ 1000000) (s : AS) (key : Nat) (hk : freeKey s key = true) : aappend T10 s key 35 (.lst (l.map encQueue)) = some ⟨.osl key 0 l.length, [(key, ⟨84, 3, true, l.map encQueue⟩)], [], []⟩ :=
  app_rows (e := 84) rfl rfl rfl (fun r hr => by obtain ⟨w, _, rfl⟩ := List.mem_map.1 hr; rfl) (by simp) (by decide) (by decide) rfl (by simp; omega) hk
theorem idx35 {l : List Queue} {i : Nat} (hi : i < l.length) (h : Heap) : aindexAddr' T10 h 35 (.lst (l.map encQueue)) (i : Int) = some (.vptr (encQueue l[i])) :=
  index_lst (e := 84) rfl rfl rfl (by simp [hi]) rfl
/-- slices.Clone -/
theorem clone102 (l : List Queue) (hl : l.length ≤ 1000000) : Con Try.prog 102 [.lst (l.map encQueue)] (.osl 0 0 l.length) [⟨84, 3, true, l.map encQueue⟩] := by
  refine ⟨⟨_, _, Try.func102, rfl, by decide⟩, ICall.of_body' T10_ok ⟨Try.func102, rfl, by decide⟩ (by simp [Try.f102]) ?_⟩
  refine AWP.goA ?_
  refine AWP.region ?_
  refine AOps.goA ?_
  refine AOps.eqnilC T10_ok rfl rfl rfl (.inl rfl) rfl rfl (by (simp only [acall, aev, aevs, eget, mget, ofConst_int, ofConst_bool, ofConst_nilS, reduceIte, Nat.reduceEqDiff, Option.getD, List.append_nil, List.nil_append, List.cons_append]) <;> rfl) (by rfl) fun b hb => ?_
  refine AOps.asA ?_
  refine AOps.endA ?_
  refine AWP.condA ?_ ?_ <;> intro hc
  · have hn : l = [] := by
      cases l with
      | nil => rfl
      | cons x r => exact absurd (hb (by simp)) (by rw [hc]; simp)
    subst hn
    refine AWP.goA ?_
    refine AWP.thin (Thin.ghost 2 57 84 3 (by rfl) (by rfl)) ?_
    refine AWP.ret ?_
    exact ⟨trivial, [57], by simp, .osl 57 0 0, rfl, rfl, rfl, rfl⟩
  · refine AWP.goA ?_
    refine AWP.region ?_
    refine AOps.goA ?_
    refine AOps.appA (app35 hl _ _ (by rfl)) ?_
    refine AOps.goA ?_
    refine AOps.endA ?_
    refine AWP.ret ?_
    exact ⟨trivial, [56], by simp, .osl 56 0 l.length, rfl, rfl, rfl, rfl⟩
theorem clone102C (l : List Queue) (hl : l.length ≤ 1000000) : Con Try.prog 102 [.lst (l.map encQueue)] (.lst (l.map encQueue)) [] :=
  (clone102 l hl).close (by simp [convA, convL, enumH, hget, lsA, lsL, List.take_of_length_le])
end Go.Qd
set_option linter.unusedVariables false
set_option linter.unusedSimpArgs false
set_option maxHeartbeats 4000000
set_option maxRecDepth 10000
namespace Go.Qd
open Go Go.Proofs
theorem load_at {t q i ty sz : Nat} {cl : Bool} {r : List AV} {R : List (List AV)} {v : AV} (hi : R[i]? = some r) (hv : aload T10 [] t (.vptr (r.drop q)) = some ⟨v, [], [], []⟩) : ∀ (h : Heap) (k : Nat), hget h k = some ⟨ty, sz, cl, R⟩ → aload T10 h t (.ptr k i q) = some ⟨v, [], [k], []⟩ := fun h k hk => by
  unfold aload cellsAt at hv ⊢
  cases ht : tget T10 t with
  | none => rw [ht] at hv; cases hv
  | some ti =>
    rw [ht] at hv
    simp only [hk, hi] at hv ⊢
    cases hx : takeVal ti (List.drop q r) with
    | none => rw [hx] at hv; cases hv
    | some u =>
      rw [hx] at hv
      simp only [Option.some.injEq, Out.mk.injEq, and_true] at hv
      rw [hv]
theorem store_at {t q i ty sz : Nat} {cl : Bool} {r cs r' : List AV} {R : List (List AV)} {v : AV} {ti : TI} (ht : tget T10 t = some ti) (hc : cellsOf v = some cs) (hi : R[i]? = some r) (hl : cs.length = ti.size) (hq : q + cs.length ≤ r.length) (hcl : (cl && AV.closedAll cs) = true) (hr : splice r q cs = r') :
    ∀ (fb nt : Nat) (env : Env) (heap : Heap) (k : Nat), hget heap k = some ⟨ty, sz, cl, R⟩ → astore T10 ⟨fb, nt, env, heap, []⟩ t (.ptr k i q) v = some ⟨.tup [], [(k, ⟨ty, sz, true, R.set i r'⟩)], [k], []⟩ := fun fb nt env heap k hk => by
  unfold astore
  simp only [ht, hc, hk, hi]
  rw [if_pos ⟨hl, hq, by simp⟩, hcl, hr]
/-- What a list has become when something was done to its first ones. -/
def upto {α : Type} (g : α → α) (l : List α) (i : Nat) : List α := (l.take i).map g ++ l.drop i
theorem upto_0 {α : Type} (g : α → α) (l : List α) : upto g l 0 = l := by simp [upto]
theorem upto_len {α : Type} (g : α → α) (l : List α) (i : Nat) (hi : i ≤ l.length) : (upto g l i).length = l.length := by simp [upto]; omega
theorem upto_all {α : Type} (g : α → α) (l : List α) : upto g l l.length = l.map g := by simp [upto]
theorem upto_get {α : Type} (g : α → α) (enc : α → List AV) (l : List α) (i : Nat) (hi : i < l.length) : ((upto g l i).map enc)[i]? = some (enc l[i]) := by
  have h1 : (upto g l i).length = l.length := upto_len g l i (by omega)
  have h2 : (upto g l i)[i]? = some l[i] := by
    unfold upto
    rw [List.getElem?_append_right (by simp; omega)]
    simp [Nat.min_eq_left (Nat.le_of_lt hi), hi]
  simp [h2]
theorem upto_set {α : Type} (g : α → α) (enc : α → List AV) (l : List α) (i : Nat) (hi : i < l.length) : ((upto g l i).map enc).set i (enc (g l[i])) = (upto g l (i + 1)).map enc := by
  have hd : l.drop i = l[i] :: l.drop (i + 1) := List.drop_eq_getElem_cons hi
  have hlen : ((l.take i).map g).length = i := by simp; omega
  have : (upto g l i).set i (g l[i]) = upto g l (i + 1) := by
    unfold upto
    rw [hd, List.set_append_right _ _ (by omega), hlen, Nat.sub_self, List.set_cons_zero, List.take_succ_eq_append_getElem hi, List.map_append]
    simp
  rw [← List.map_set, this]
theorem idxOb {n i e : Nat} {t : Nat} {ti ei : TI} (h1 : tget T10 t = some ti) (h2 : ti.kind = .slice e) (h3 : tget T10 e = some ei) (hi : i < n) : ∀ (h : Heap) (k : Nat), keySize h (.osl k 0 n) ei.size = true → aindexAddr' T10 h t (.osl k 0 n) (i : Int) = some (.ptr k i 0) := fun h k hk => by
  unfold aindexAddr' aindexAddr
  simp only [h1, h2, h3]
  rw [if_pos ⟨by omega, by omega⟩]
  simp only [hk, if_true]
  simp
/-- What is done to a board. -/
def gBoard (g : List Wait → List Wait) (b : Board) : Board := { b with l := g b.l }
/-- procs.each, of boards -/
theorem each82 (g : List Wait → List Wait) (F : Nat) (caps : List AV) (bs : List Board) (hl : bs.length ≤ 1000000) (hcc : ∀ h : Heap, closeL h caps = caps) (hck : keysL caps = []) (hof : ∀ b, b ∈ bs → Con Try.prog F (Wl b.l :: caps) (Wl (g b.l)) []) : Con Try.prog 82 [.lst (bs.map encBoard), .fn 83 [] [.vptr [.fn F [] caps]]] (.lst ((bs.map (gBoard g)).map encBoard)) [] := by
  refine ⟨⟨_, _, Try.func82, rfl, by decide⟩, ICall.of_body' T10_ok ⟨Try.func82, rfl, by decide⟩ (by simp [Try.f82]) ?_⟩
  refine AWP.goC (clone98 bs hl) ?_
  refine AWP.loopT (fun i : Nat => ⟨0, Try.f82.ntmps, [(0, .osl 56 0 bs.length), (1, .fn 83 [] [.vptr [.fn F [] caps]]), (9, iv bs.length), (10, iv i)], [(56, ⟨78, 3, true, (upto (gBoard g) bs i).map encBoard⟩)], []⟩) (fun i => i ≤ bs.length) (fun i => bs.length - i) 0 (by simp)
    (Thin.to [] rfl rfl rfl rfl rfl (by simp [envIn, eget, eput]) (by simp [upto_0, killsH])) ?_
  rintro i hi
  refine AWP.goA ?_
  refine AWP.condA ?_ ?_ <;> intro hc
  · have hil : i < bs.length := by simpa using hc
    have hix : ∀ (h : Heap) (k : Nat), keySize h (.osl k 0 bs.length) 3 = true → aindexAddr' T10 h 30 (.osl k 0 bs.length) (i : Int) = some (.ptr k i 0) := idxOb (e := 78) rfl rfl rfl hil
    have hld : ∀ (h : Heap) (k : Nat), hget h k = some ⟨78, 3, true, (upto (gBoard g) bs i).map encBoard⟩ → aload T10 h 67 (.ptr k i 2) = some ⟨Wl bs[i].l, [], [k], []⟩ := load_at (upto_get _ _ _ _ hil) rfl
    have hst : ∀ (fb nt : Nat) (env : Env) (heap : Heap) (k : Nat), hget heap k = some ⟨78, 3, true, (upto (gBoard g) bs i).map encBoard⟩ → astore T10 ⟨fb, nt, env, heap, []⟩ 67 (.ptr k i 2) (Wl (g bs[i].l)) = some ⟨.tup [], [(k, ⟨78, 3, true, (upto (gBoard g) bs (i + 1)).map encBoard⟩)], [k], []⟩ := fun fb nt env heap k hk => by
      rw [← upto_set _ _ _ _ hil]
      exact store_at (cs := [Wl (g bs[i].l)]) (r := encBoard bs[i]) rfl rfl (upto_get _ _ _ _ hil) rfl (by simp [encBoard]) rfl rfl fb nt env heap k hk
    have hw := wrap_succ (show i < 9223372036854775807 by omega)
    refine AWP.goF hix ?_
    refine AWP.region ?_
    refine AOps.goF hix ?_
    refine AOps.inlineL T10_ok M10_ok rfl rfl (by (simp only [acall, aev, aevs, eget, reduceIte, Nat.reduceEqDiff, Option.getD, List.append_nil, List.nil_append, List.cons_append]) <;> rfl) ⟨Try.func83, rfl, by decide⟩ (by simp [Try.f83]) ?_
    refine AWP.enterF (show Try.f82.ntmps = 20 from rfl) ?_
    have hA := And.intro hld hst
    apply AWP.anyR Zz_mixed
    focus
      (repeat (apply Trace.cons; (focus exact Loc.opF hA); (focus exact applyF hA)))
      (apply Trace.cons; (focus exact Loc.conF (And.intro hcc hck) (hof bs[i] (List.getElem_mem hil))); (focus exact applyA))
      (repeat (apply Trace.cons; (focus exact Loc.opF hA); (focus exact applyF hA)))
      exact Trace.nil _
    focus kernel_rfl
    simp only [Then]
    refine ⟨trivial, .tup [], rfl, [], rfl, ?_⟩
    refine AOps.backF (show Try.f82.ntmps = 20 from rfl) ?_
    refine AOps.goA ?_
    refine AOps.endA ?_
    simp only [Then, InBlock]
    refine AWP.goF hw ?_
    exact ⟨i + 1, by omega, by omega, Thin.to [] rfl rfl rfl rfl rfl (by simp [envIn, eget]) rfl⟩
  · have hie : i = bs.length := by simp at hc; omega
    subst hie
    refine AWP.goA ?_
    refine AWP.ret ?_
    exact ⟨trivial, [], by simp, .osl 56 0 bs.length, rfl, by simp [convA, convL, idxIn, hget, lsA, lsL, upto_all, List.take_of_length_le], rfl, rfl⟩
end Go.Qd
set_option linter.unusedVariables false
set_option linter.unusedSimpArgs false
set_option maxHeartbeats 4000000
set_option maxRecDepth 10000
namespace Go.Qd
open Go Go.Proofs
/-- What is done to such a thing. -/
def gSema (g : List Wait → List Wait) (b : Sema) : Sema := { b with l := g b.l }
/-- procs.each, of such things -/
theorem each87 (g : List Wait → List Wait) (F : Nat) (caps : List AV) (bs : List Sema) (hl : bs.length ≤ 1000000) (hcc : ∀ h : Heap, closeL h caps = caps) (hck : keysL caps = []) (hof : ∀ b, b ∈ bs → Con Try.prog F (Wl b.l :: caps) (Wl (g b.l)) []) : Con Try.prog 87 [.lst (bs.map encSema), .fn 88 [] [.vptr [.fn F [] caps]]] (.lst ((bs.map (gSema g)).map encSema)) [] := by
  refine ⟨⟨_, _, Try.func87, rfl, by decide⟩, ICall.of_body' T10_ok ⟨Try.func87, rfl, by decide⟩ (by simp [Try.f87]) ?_⟩
  refine AWP.goC (clone100 bs hl) ?_
  refine AWP.loopT (fun i : Nat => ⟨0, Try.f87.ntmps, [(0, .osl 56 0 bs.length), (1, .fn 88 [] [.vptr [.fn F [] caps]]), (9, iv bs.length), (10, iv i)], [(56, ⟨80, 4, true, (upto (gSema g) bs i).map encSema⟩)], []⟩) (fun i => i ≤ bs.length) (fun i => bs.length - i) 0 (by simp)
    (Thin.to [] rfl rfl rfl rfl rfl (by simp [envIn, eget, eput]) (by simp [upto_0, killsH])) ?_
  rintro i hi
  refine AWP.goA ?_
  refine AWP.condA ?_ ?_ <;> intro hc
  · have hil : i < bs.length := by simpa using hc
    have hix : ∀ (h : Heap) (k : Nat), keySize h (.osl k 0 bs.length) 4 = true → aindexAddr' T10 h 32 (.osl k 0 bs.length) (i : Int) = some (.ptr k i 0) := idxOb (e := 80) rfl rfl rfl hil
    have hld : ∀ (h : Heap) (k : Nat), hget h k = some ⟨80, 4, true, (upto (gSema g) bs i).map encSema⟩ → aload T10 h 67 (.ptr k i 3) = some ⟨Wl bs[i].l, [], [k], []⟩ := load_at (upto_get _ _ _ _ hil) rfl
    have hst : ∀ (fb nt : Nat) (env : Env) (heap : Heap) (k : Nat), hget heap k = some ⟨80, 4, true, (upto (gSema g) bs i).map encSema⟩ → astore T10 ⟨fb, nt, env, heap, []⟩ 67 (.ptr k i 3) (Wl (g bs[i].l)) = some ⟨.tup [], [(k, ⟨80, 4, true, (upto (gSema g) bs (i + 1)).map encSema⟩)], [k], []⟩ := fun fb nt env heap k hk => by
      rw [← upto_set _ _ _ _ hil]
      exact store_at (cs := [Wl (g bs[i].l)]) (r := encSema bs[i]) rfl rfl (upto_get _ _ _ _ hil) rfl (by simp [encSema]) rfl rfl fb nt env heap k hk
    have hw := wrap_succ (show i < 9223372036854775807 by omega)
    refine AWP.goF hix ?_
    refine AWP.region ?_
    refine AOps.goF hix ?_
    refine AOps.inlineL T10_ok M10_ok rfl rfl (by (simp only [acall, aev, aevs, eget, reduceIte, Nat.reduceEqDiff, Option.getD, List.append_nil, List.nil_append, List.cons_append]) <;> rfl) ⟨Try.func88, rfl, by decide⟩ (by simp [Try.f88]) ?_
    refine AWP.enterF (show Try.f87.ntmps = 20 from rfl) ?_
    have hA := And.intro hld hst
    apply AWP.anyR Zz_mixed
    focus
      (repeat (apply Trace.cons; (focus exact Loc.opF hA); (focus exact applyF hA)))
      (apply Trace.cons; (focus exact Loc.conF (And.intro hcc hck) (hof bs[i] (List.getElem_mem hil))); (focus exact applyA))
      (repeat (apply Trace.cons; (focus exact Loc.opF hA); (focus exact applyF hA)))
      exact Trace.nil _
    focus kernel_rfl
    simp only [Then]
    refine ⟨trivial, .tup [], rfl, [], rfl, ?_⟩
    refine AOps.backF (show Try.f87.ntmps = 20 from rfl) ?_
    refine AOps.goA ?_
    refine AOps.endA ?_
    simp only [Then, InBlock]
    refine AWP.goF hw ?_
    exact ⟨i + 1, by omega, by omega, Thin.to [] rfl rfl rfl rfl rfl (by simp [envIn, eget]) rfl⟩
  · have hie : i = bs.length := by simp at hc; omega
    subst hie
    refine AWP.goA ?_
    refine AWP.ret ?_
    exact ⟨trivial, [], by simp, .osl 56 0 bs.length, rfl, by simp [convA, convL, idxIn, hget, lsA, lsL, upto_all, List.take_of_length_le], rfl, rfl⟩
/-- What is done to such a thing. -/
def gEvent (g : List Wait → List Wait) (b : Event) : Event := { b with l := g b.l }
/-- procs.each, of such things -/
theorem each89 (g : List Wait → List Wait) (F : Nat) (caps : List AV) (bs : List Event) (hl : bs.length ≤ 1000000) (hcc : ∀ h : Heap, closeL h caps = caps) (hck : keysL caps = []) (hof : ∀ b, b ∈ bs → Con Try.prog F (Wl b.l :: caps) (Wl (g b.l)) []) : Con Try.prog 89 [.lst (bs.map encEvent), .fn 90 [] [.vptr [.fn F [] caps]]] (.lst ((bs.map (gEvent g)).map encEvent)) [] := by
  refine ⟨⟨_, _, Try.func89, rfl, by decide⟩, ICall.of_body' T10_ok ⟨Try.func89, rfl, by decide⟩ (by simp [Try.f89]) ?_⟩
  refine AWP.goC (clone101 bs hl) ?_
  refine AWP.loopT (fun i : Nat => ⟨0, Try.f89.ntmps, [(0, .osl 56 0 bs.length), (1, .fn 90 [] [.vptr [.fn F [] caps]]), (9, iv bs.length), (10, iv i)], [(56, ⟨82, 2, true, (upto (gEvent g) bs i).map encEvent⟩)], []⟩) (fun i => i ≤ bs.length) (fun i => bs.length - i) 0 (by simp)
    (Thin.to [] rfl rfl rfl rfl rfl (by simp [envIn, eget, eput]) (by simp [upto_0, killsH])) ?_
  rintro i hi
  refine AWP.goA ?_
  refine AWP.condA ?_ ?_ <;> intro hc
  · have hil : i < bs.length := by simpa using hc
    have hix : ∀ (h : Heap) (k : Nat), keySize h (.osl k 0 bs.length) 2 = true → aindexAddr' T10 h 33 (.osl k 0 bs.length) (i : Int) = some (.ptr k i 0) := idxOb (e := 82) rfl rfl rfl hil
    have hld : ∀ (h : Heap) (k : Nat), hget h k = some ⟨82, 2, true, (upto (gEvent g) bs i).map encEvent⟩ → aload T10 h 67 (.ptr k i 1) = some ⟨Wl bs[i].l, [], [k], []⟩ := load_at (upto_get _ _ _ _ hil) rfl
    have hst : ∀ (fb nt : Nat) (env : Env) (heap : Heap) (k : Nat), hget heap k = some ⟨82, 2, true, (upto (gEvent g) bs i).map encEvent⟩ → astore T10 ⟨fb, nt, env, heap, []⟩ 67 (.ptr k i 1) (Wl (g bs[i].l)) = some ⟨.tup [], [(k, ⟨82, 2, true, (upto (gEvent g) bs (i + 1)).map encEvent⟩)], [k], []⟩ := fun fb nt env heap k hk => by
      rw [← upto_set _ _ _ _ hil]
      exact store_at (cs := [Wl (g bs[i].l)]) (r := encEvent bs[i]) rfl rfl (upto_get _ _ _ _ hil) rfl (by simp [encEvent]) rfl rfl fb nt env heap k hk
    have hw := wrap_succ (show i < 9223372036854775807 by omega)
    refine AWP.goF hix ?_
    refine AWP.region ?_
    refine AOps.goF hix ?_
    refine AOps.inlineL T10_ok M10_ok rfl rfl (by (simp only [acall, aev, aevs, eget, reduceIte, Nat.reduceEqDiff, Option.getD, List.append_nil, List.nil_append, List.cons_append]) <;> rfl) ⟨Try.func90, rfl, by decide⟩ (by simp [Try.f90]) ?_
    refine AWP.enterF (show Try.f89.ntmps = 20 from rfl) ?_
    have hA := And.intro hld hst
    apply AWP.anyR Zz_mixed
    focus
      (repeat (apply Trace.cons; (focus exact Loc.opF hA); (focus exact applyF hA)))
      (apply Trace.cons; (focus exact Loc.conF (And.intro hcc hck) (hof bs[i] (List.getElem_mem hil))); (focus exact applyA))
      (repeat (apply Trace.cons; (focus exact Loc.opF hA); (focus exact applyF hA)))
      exact Trace.nil _
    focus kernel_rfl
    simp only [Then]
    refine ⟨trivial, .tup [], rfl, [], rfl, ?_⟩
    refine AOps.backF (show Try.f89.ntmps = 20 from rfl) ?_
    refine AOps.goA ?_
    refine AOps.endA ?_
    simp only [Then, InBlock]
    refine AWP.goF hw ?_
    exact ⟨i + 1, by omega, by omega, Thin.to [] rfl rfl rfl rfl rfl (by simp [envIn, eget]) rfl⟩
  · have hie : i = bs.length := by simp at hc; omega
    subst hie
    refine AWP.goA ?_
    refine AWP.ret ?_
    exact ⟨trivial, [], by simp, .osl 56 0 bs.length, rfl, by simp [convA, convL, idxIn, hget, lsA, lsL, upto_all, List.take_of_length_le], rfl, rfl⟩
end Go.Qd
set_option linter.unusedVariables false
set_option linter.unusedSimpArgs false
set_option maxHeartbeats 4000000
set_option maxRecDepth 10000
namespace Go.Qd
open Go Go.Proofs
/-- What is done to a buffer. -/
def gBuf (g : List Wait → List Wait) (b : Buf) : Buf := { b with l := g b.l }
/-- procs.each, of buffers -/
theorem each84 (g : List Wait → List Wait) (F : Nat) (caps : List AV) (bs : List Buf) (hl : bs.length ≤ 1000000) (hvl : ∀ b, b ∈ bs → b.vals.length ≤ 1000000) (hcc : ∀ h : Heap, closeL h caps = caps) (hck : keysL caps = []) (hof : ∀ b, b ∈ bs → Con Try.prog F (Wl b.l :: caps) (Wl (g b.l)) []) : Con Try.prog 84 [.lst (bs.map encBuf), .fn 85 [] [.vptr [.fn F [] caps]]] (.lst ((bs.map (gBuf g)).map encBuf)) [] := by
  refine ⟨⟨_, _, Try.func84, rfl, by decide⟩, ICall.of_body' T10_ok ⟨Try.func84, rfl, by decide⟩ (by simp [Try.f84]) ?_⟩
  refine AWP.goC (clone99 bs hl) ?_
  refine AWP.loopT (fun i : Nat => ⟨0, Try.f84.ntmps, [(0, .osl 56 0 bs.length), (1, .fn 85 [] [.vptr [.fn F [] caps]]), (9, iv bs.length), (10, iv i)], [(56, ⟨69, 4, true, (upto (gBuf g) bs i).map encBuf⟩)], []⟩) (fun i => i ≤ bs.length) (fun i => bs.length - i) 0 (by simp)
    (Thin.to [] rfl rfl rfl rfl rfl (by simp [envIn, eget, eput]) (by simp [upto_0, killsH])) ?_
  rintro i hi
  refine AWP.goA ?_
  refine AWP.condA ?_ ?_ <;> intro hc
  · have hil : i < bs.length := by simpa using hc
    have hix : ∀ (h : Heap) (k : Nat), keySize h (.osl k 0 bs.length) 4 = true → aindexAddr' T10 h 31 (.osl k 0 bs.length) (i : Int) = some (.ptr k i 0) := idxOb (e := 69) rfl rfl rfl hil
    have hld : ∀ (h : Heap) (k : Nat), hget h k = some ⟨69, 4, true, (upto (gBuf g) bs i).map encBuf⟩ → aload T10 h 67 (.ptr k i 3) = some ⟨Wl bs[i].l, [], [k], []⟩ := load_at (upto_get _ _ _ _ hil) rfl
    have hld2 : ∀ (h : Heap) (k : Nat), hget h k = some ⟨69, 4, true, (upto (gBuf g) bs i).map encBuf⟩ → aload T10 h 26 (.ptr k i 2) = some ⟨Il bs[i].vals, [], [k], []⟩ := load_at (upto_get _ _ _ _ hil) rfl
    have hst : ∀ (fb nt : Nat) (env : Env) (heap : Heap) (k : Nat), hget heap k = some ⟨69, 4, true, (upto (gBuf g) bs i).map encBuf⟩ → astore T10 ⟨fb, nt, env, heap, []⟩ 67 (.ptr k i 3) (Wl (g bs[i].l)) = some ⟨.tup [], [(k, ⟨69, 4, true, (upto (gBuf g) bs (i + 1)).map encBuf⟩)], [k], []⟩ := fun fb nt env heap k hk => by
      rw [← upto_set _ _ _ _ hil]
      exact store_at (cs := [Wl (g bs[i].l)]) (r := encBuf bs[i]) rfl rfl (upto_get _ _ _ _ hil) rfl (by simp [encBuf]) rfl rfl fb nt env heap k hk
    have hnew : ((upto (gBuf g) bs (i + 1)).map encBuf)[i]? = some (encBuf (gBuf g bs[i])) := by
      rw [← upto_set _ _ _ _ hil]
      have h1 : (upto (gBuf g) bs i).length = bs.length := upto_len _ _ _ hi
      rw [List.getElem?_set_self (by simp; omega)]
    have hst2 : ∀ (fb nt : Nat) (env : Env) (heap : Heap) (k : Nat), hget heap k = some ⟨69, 4, true, (upto (gBuf g) bs (i + 1)).map encBuf⟩ → astore T10 ⟨fb, nt, env, heap, []⟩ 26 (.ptr k i 2) (Il bs[i].vals) = some ⟨.tup [], [(k, ⟨69, 4, true, (upto (gBuf g) bs (i + 1)).map encBuf⟩)], [k], []⟩ := fun fb nt env heap k hk => by
      have := store_at (cs := [Il bs[i].vals]) (r := encBuf (gBuf g bs[i])) (r' := encBuf (gBuf g bs[i])) (t := 26) (q := 2) (v := Il bs[i].vals) rfl rfl hnew rfl (by simp [encBuf]) rfl rfl fb nt env heap k hk
      rw [this]
      have e : ((upto (gBuf g) bs (i + 1)).map encBuf).set i (encBuf (gBuf g bs[i])) = (upto (gBuf g) bs (i + 1)).map encBuf := by
        rw [← upto_set _ _ _ _ hil, List.set_set]
      rw [e]
    have hw := wrap_succ (show i < 9223372036854775807 by omega)
    refine AWP.goF hix ?_
    refine AWP.region ?_
    refine AOps.goF hix ?_
    refine AOps.inlineL T10_ok M10_ok rfl rfl (by (simp only [acall, aev, aevs, eget, reduceIte, Nat.reduceEqDiff, Option.getD, List.append_nil, List.nil_append, List.cons_append]) <;> rfl) ⟨Try.func85, rfl, by decide⟩ (by simp [Try.f85]) ?_
    refine AWP.enterF (show Try.f84.ntmps = 20 from rfl) ?_
    have hA := And.intro hld (And.intro hst (And.intro hld2 hst2))
    apply AWP.anyR Zz_mixed
    focus
      (repeat (apply Trace.cons; (focus exact Loc.opF hA); (focus exact applyF hA)))
      (apply Trace.cons; (focus exact Loc.conF (And.intro hcc hck) (hof bs[i] (List.getElem_mem hil))); (focus exact applyA))
      (repeat (apply Trace.cons; (focus exact Loc.opF hA); (focus exact applyF hA)))
      (apply Trace.cons; (focus exact Loc.conA (clone86C bs[i].vals (hvl _ (List.getElem_mem hil)))); (focus exact applyA))
      (repeat (apply Trace.cons; (focus exact Loc.opF hA); (focus exact applyF hA)))
      exact Trace.nil _
    focus kernel_rfl
    simp only [Then]
    refine ⟨trivial, .tup [], rfl, [], rfl, ?_⟩
    refine AOps.backF (show Try.f84.ntmps = 20 from rfl) ?_
    refine AOps.goA ?_
    refine AOps.endA ?_
    simp only [Then, InBlock]
    refine AWP.goF hw ?_
    exact ⟨i + 1, by omega, by omega, Thin.to [] rfl rfl rfl rfl rfl (by simp [envIn, eget]) rfl⟩
  · have hie : i = bs.length := by simp at hc; omega
    subst hie
    refine AWP.goA ?_
    refine AWP.ret ?_
    exact ⟨trivial, [], by simp, .osl 56 0 bs.length, rfl, by simp [convA, convL, idxIn, hget, lsA, lsL, upto_all, List.take_of_length_le], rfl, rfl⟩
/-- procs.each, of queues: each with a list of its own -/
theorem each91 (qs : List Queue) (hl : qs.length ≤ 1000000) (hvl : ∀ b, b ∈ qs → b.vals.length ≤ 1000000) : Con Try.prog 91 [.lst (qs.map encQueue), .fn 92 [] []] (.lst (qs.map encQueue)) [] := by
  refine ⟨⟨_, _, Try.func91, rfl, by decide⟩, ICall.of_body' T10_ok ⟨Try.func91, rfl, by decide⟩ (by simp [Try.f91]) ?_⟩
  refine AWP.goC (clone102 qs hl) ?_
  refine AWP.loopT (fun i : Nat => ⟨0, Try.f91.ntmps, [(0, .osl 56 0 qs.length), (1, .fn 92 [] []), (9, iv qs.length), (10, iv i)], [(56, ⟨84, 3, true, qs.map encQueue⟩)], []⟩) (fun i => i ≤ qs.length) (fun i => qs.length - i) 0 (by simp)
    (Thin.to [] rfl rfl rfl rfl rfl (by simp [envIn, eget, eput]) rfl) ?_
  rintro i hi
  refine AWP.goA ?_
  refine AWP.condA ?_ ?_ <;> intro hc
  · have hil : i < qs.length := by simpa using hc
    have hrow : (qs.map encQueue)[i]? = some (encQueue qs[i]) := by simp [hil]
    have hix : ∀ (h : Heap) (k : Nat), keySize h (.osl k 0 qs.length) 3 = true → aindexAddr' T10 h 35 (.osl k 0 qs.length) (i : Int) = some (.ptr k i 0) := idxOb (e := 84) rfl rfl rfl hil
    have hld : ∀ (h : Heap) (k : Nat), hget h k = some ⟨84, 3, true, qs.map encQueue⟩ → aload T10 h 26 (.ptr k i 1) = some ⟨Il qs[i].vals, [], [k], []⟩ := load_at hrow rfl
    have hst : ∀ (fb nt : Nat) (env : Env) (heap : Heap) (k : Nat), hget heap k = some ⟨84, 3, true, qs.map encQueue⟩ → astore T10 ⟨fb, nt, env, heap, []⟩ 26 (.ptr k i 1) (Il qs[i].vals) = some ⟨.tup [], [(k, ⟨84, 3, true, qs.map encQueue⟩)], [k], []⟩ := fun fb nt env heap k hk => by
      have := store_at (cs := [Il qs[i].vals]) (r := encQueue qs[i]) (r' := encQueue qs[i]) (t := 26) (q := 1) (v := Il qs[i].vals) rfl rfl hrow rfl (by simp [encQueue]) rfl rfl fb nt env heap k hk
      rw [this]
      have e : (qs.map encQueue).set i (encQueue qs[i]) = qs.map encQueue := by
        apply List.ext_getElem?
        intro j
        by_cases hj : i = j
        · subst hj; rw [List.getElem?_set_self (by simpa using hil)]; simp [hil]
        · rw [List.getElem?_set_ne hj]
      rw [e]
    have hw := wrap_succ (show i < 9223372036854775807 by omega)
    refine AWP.goF hix ?_
    refine AWP.region ?_
    refine AOps.goF hix ?_
    refine AOps.inlineL T10_ok M10_ok rfl rfl (by (simp only [acall, aev, aevs, eget, reduceIte, Nat.reduceEqDiff, Option.getD, List.append_nil, List.nil_append, List.cons_append]) <;> rfl) ⟨Try.func92, rfl, by decide⟩ (by simp [Try.f92]) ?_
    refine AWP.enterF (show Try.f91.ntmps = 20 from rfl) ?_
    refine AWP.goFC (And.intro hld hst) (clone86C qs[i].vals (hvl _ (List.getElem_mem hil))) ?_
    refine ⟨trivial, .tup [], rfl, [], rfl, ?_⟩
    refine AOps.backF (show Try.f91.ntmps = 20 from rfl) ?_
    refine AOps.goA ?_
    refine AOps.endA ?_
    simp only [Then, InBlock]
    refine AWP.goF hw ?_
    exact ⟨i + 1, by omega, by omega, Thin.to [] rfl rfl rfl rfl rfl (by simp [envIn, eget]) rfl⟩
  · have hie : i = qs.length := by simp at hc; omega
    subst hie
    refine AWP.goA ?_
    refine AWP.ret ?_
    exact ⟨trivial, [], by simp, .osl 56 0 qs.length, rfl, by simp [convA, convL, idxIn, hget, lsA, lsL, List.take_of_length_le], rfl, rfl⟩
end Go.Qd
set_option linter.unusedVariables false
set_option linter.unusedSimpArgs false
set_option maxHeartbeats 4000000
set_option maxRecDepth 10000
namespace Go.Qd
open Go Go.Proofs
abbrev Pa (p : Part) : AV := .agg [iv p.mode, iv p.begun, iv p.next, Il p.mem, Pl p.procs, .lst (p.boards.map encBoard), .lst (p.bufs.map encBuf), .lst (p.semas.map encSema), .lst (p.events.map encEvent), .lst (p.samples.map encSample), .lst (p.queues.map encQueue), iv p.lat0, Il p.lines, iv p.lat2, Il p.given]
/-- A partition none of whose lists is too long. -/
structure Small (n : Nat) (p : Part) : Prop where
  mem : p.mem.length ≤ n
  procs : p.procs.length ≤ n
  boards : p.boards.length ≤ n
  bufs : p.bufs.length ≤ n
  semas : p.semas.length ≤ n
  events : p.events.length ≤ n
  samples : p.samples.length ≤ n
  queues : p.queues.length ≤ n
  lines : p.lines.length ≤ n
  given : p.given.length ≤ n
  boardL : ∀ b, b ∈ p.boards → b.l.length ≤ n
  bufL : ∀ b, b ∈ p.bufs → b.l.length ≤ n
  bufV : ∀ b, b ∈ p.bufs → b.vals.length ≤ n
  semaL : ∀ b, b ∈ p.semas → b.l.length ≤ n
  eventL : ∀ b, b ∈ p.events → b.l.length ≤ n
  queueV : ∀ b, b ∈ p.queues → b.vals.length ≤ n
/-- A partition with other lists of who waits. -/
def gPart (g : List Wait → List Wait) (p : Part) : Part := { p with boards := p.boards.map (gBoard g), bufs := p.bufs.map (gBuf g), semas := p.semas.map (gSema g), events := p.events.map (gEvent g) }
/-- procs.waits, with a function that hangs on nothing -/
theorem waits60 (g : List Wait → List Wait) (F : Nat) (p : Part) (hs : Small 1000000 p) (hof : ∀ l : List Wait, l.length ≤ 1000000 → Con Try.prog F [Wl l] (Wl (g l)) []) : Con Try.prog 60 [Pa p, .fn F [] []] (Pa (gPart g p)) [] := by
  refine ⟨⟨_, _, Try.func60, rfl, by decide⟩, ICall.of_body' T10_ok ⟨Try.func60, rfl, by decide⟩ (by simp [Try.f60]) ?_⟩
  have c1 := each82 g F [] p.boards hs.boards (fun _ => rfl) rfl (fun b hb => hof b.l (hs.boardL b hb))
  have c2 := each84 g F [] p.bufs hs.bufs hs.bufV (fun _ => rfl) rfl (fun b hb => hof b.l (hs.bufL b hb))
  have c3 := each87 g F [] p.semas hs.semas (fun _ => rfl) rfl (fun b hb => hof b.l (hs.semaL b hb))
  have c4 := each89 g F [] p.events hs.events (fun _ => rfl) rfl (fun b hb => hof b.l (hs.eventL b hb))
  have c5 := each91 p.queues hs.queues hs.queueV
  refine AWP.goC (And.intro c1 (And.intro c2 (And.intro c3 (And.intro c4 c5)))) ?_
  refine AWP.goC (And.intro (clone93C p.procs hs.procs) (And.intro (clone94C p.samples hs.samples) (And.intro (clone86C p.mem hs.mem) (And.intro (clone86C p.lines hs.lines) (clone86C p.given hs.given))))) ?_
  refine AWP.ret ?_
  exact ⟨trivial, [], by simp, Pa (gPart g p), rfl, rfl, rfl, rfl⟩
theorem gPart_id (p : Part) : gPart id p = p := by
  have h1 : gBoard id = id := rfl
  have h2 : gBuf id = id := rfl
  have h3 : gSema id = id := rfl
  have h4 : gEvent id = id := rfl
  unfold gPart
  rw [h1, h2, h3, h4]
  simp
/-- procs.Own -/
theorem own29 (p : Part) (hs : Small 1000000 p) : Con Try.prog 29 [Pa p] (Pa p) [] := by
  refine ⟨⟨_, _, Try.func29, rfl, by decide⟩, ICall.of_body' T10_ok ⟨Try.func29, rfl, by decide⟩ (by simp [Try.f29]) ?_⟩
  have c := waits60 id 63 p hs (fun l hl => clone63C l hl)
  rw [gPart_id] at c
  refine AWP.goC c ?_
  refine AWP.ret ?_
  exact ⟨trivial, [], by simp, Pa p, rfl, rfl, rfl, rfl⟩
end Go.Qd
set_option linter.unusedVariables false
set_option linter.unusedSimpArgs false
set_option maxHeartbeats 4000000
set_option maxRecDepth 10000
namespace Go.Qd
open Go Go.Proofs
/-- procs.Leave$1$1 -/
theorem is64 (w : Wait) (i : Int) : Con Try.prog 64 [.agg (encWait w), .vptr [iv i]] (.bool (w.proc == i)) [] := by
  obtain ⟨a, b, c⟩ := w
  show Con Try.prog 64 [.agg [iv a, iv b, iv c], .vptr [iv i]] (.bool (a == i)) []
  refine ⟨⟨_, _, Try.func64, rfl, by decide⟩, ICall.of_body' T10_ok ⟨Try.func64, rfl, by decide⟩ (by simp [Try.f64]) ?_⟩
  refine AWP.goA ?_
  refine AWP.ret ?_
  exact ⟨trivial, [], by simp, .bool (a == i), rfl, rfl, rfl, rfl⟩
end Go.Qd
set_option linter.unusedVariables false
set_option linter.unusedSimpArgs false
set_option maxHeartbeats 4000000
set_option maxRecDepth 10000
namespace Go.Qd
open Go Go.Proofs
theorem loadWt {h : Heap} {w : Wait} : aload T10 h 102 (.vptr (encWait w)) = some (.pure (.agg (encWait w))) := rfl
theorem wt_close (h : Heap) (w : Wait) : closeL h (encWait w) = encWait w := rfl
theorem wt_keys (w : Wait) : keysL (encWait w) = [] := rfl
/-- Where the first one of a process stands; -1: nowhere. -/
def firstP (i : Int) : List Wait → Int
  | [] => -1
  | w :: r => if w.proc = i then 0 else if firstP i r = -1 then -1 else firstP i r + 1
theorem firstP_ge (i : Int) (l : List Wait) : -1 ≤ firstP i l := by
  induction l with
  | nil => simp [firstP]
  | cons w r ih => simp only [firstP]; split <;> (try split) <;> omega
theorem firstP_at (i : Int) (l : List Wait) (k : Nat) (hk : k < l.length) (h : l[k].proc = i) (hn : ∀ w ∈ l.take k, w.proc ≠ i) : firstP i l = k := by
  induction l generalizing k with
  | nil => cases hk
  | cons w r ih =>
    cases k with
    | zero => simp only [List.getElem_cons_zero] at h; simp [firstP, h]
    | succ k =>
      have hw : w.proc ≠ i := hn w (by simp)
      have := ih k (by simpa using hk) (by simpa using h) (fun x hx => hn x (by simp [hx]))
      simp only [firstP, if_neg hw, this]
      rw [if_neg (by omega)]; simp
theorem firstP_no (i : Int) (l : List Wait) (hn : ∀ w ∈ l, w.proc ≠ i) : firstP i l = -1 := by
  induction l with
  | nil => rfl
  | cons w r ih =>
    have hw : w.proc ≠ i := hn w (by simp)
    simp [firstP, hw, ih (fun x hx => hn x (by simp [hx]))]
/-- slices.IndexFunc -/
theorem index95 (l : List Wait) (i : Int) (hl : l.length ≤ 1000000) : Con Try.prog 95 [Wl l, .fn 64 [] [.vptr [iv i]]] (iv (firstP i l)) [] := by
  refine ⟨⟨_, _, Try.func95, rfl, by decide⟩, ICall.of_body' T10_ok ⟨Try.func95, rfl, by decide⟩ (by simp [Try.f95]) ?_⟩
  refine AWP.goA ?_
  refine AWP.loopT (fun k : Nat => ⟨0, Try.f95.ntmps, [(0, Wl l), (1, .fn 64 [] [.vptr [iv i]]), (7, iv l.length), (8, iv k)], [], []⟩) (fun k => k ≤ l.length ∧ ∀ w ∈ l.take k, w.proc ≠ i) (fun k => l.length - k) 0 (by simp)
    (Thin.to [] rfl rfl rfl rfl rfl (by simp [envIn, eget, eput]) rfl) ?_
  rintro k ⟨hk, hn⟩
  refine AWP.goA ?_
  refine AWP.condA ?_ ?_ <;> intro hc
  · have hkl : k < l.length := by simpa using hc
    have hw := wrap_succ (show k < 9223372036854775807 by omega)
    have hix := idx67 (l := l) hkl
    have c := is64 l[k] i
    refine AWP.goFC (And.intro hix (And.intro (fun h w => loadWt (h := h) (w := w)) (And.intro wt_close wt_keys))) c ?_
    refine AWP.condA ?_ ?_ <;> intro hc2
    · refine AWP.goA ?_
      refine AWP.ret ?_
      exact ⟨trivial, [], by simp, iv k, rfl, by rw [firstP_at i l k hkl (by simpa using hc2) hn]; rfl, rfl, rfl⟩
    · refine AWP.goF hw ?_
      refine ⟨k + 1, ⟨by omega, fun w hw2 => ?_⟩, by omega, Thin.to [] rfl rfl rfl rfl rfl (by simp [envIn, eget]) rfl⟩
      rw [List.take_succ_eq_append_getElem hkl] at hw2
      rcases List.mem_append.1 hw2 with h | h
      · exact hn w h
      · simp only [List.mem_singleton] at h; subst h; simpa using hc2
  · have hke : k = l.length := by simp at hc; omega
    subst hke
    rw [List.take_length] at hn
    refine AWP.goA ?_
    refine AWP.ret ?_
    exact ⟨trivial, [], by simp, iv (-1), rfl, by rw [firstP_no i l hn]; rfl, rfl, rfl⟩
end Go.Qd
set_option linter.unusedVariables false
set_option linter.unusedSimpArgs false
set_option maxHeartbeats 4000000
set_option maxRecDepth 10000
namespace Go.Qd
open Go Go.Proofs
def dormP (prio : Int) : Proc := ⟨0, prio, false, 0, 0, 0, 0, 0, 0, -1, 0, 0, -1, -1, false, 0, 0, 0⟩
/-- procs.dormant -/
theorem dormant49 (n : Int) : Con Try.prog 49 [iv n] (.agg (encProc (dormP n))) [] := by
  refine ⟨⟨_, _, Try.func49, rfl, by decide⟩, ICall.of_body' T10_ok ⟨Try.func49, rfl, by decide⟩ (by simp [Try.f49]) ?_⟩
  refine AWP.goA ?_
  refine AWP.ret ?_
  exact ⟨trivial, [], by simp, .agg (encProc (dormP n)), rfl, rfl, rfl, rfl⟩
/-- ref10.dormant -/
theorem dormant66 (n : Int) : Con Try.prog 66 [iv n] (.agg (encProc (dormP n))) [] := by
  refine ⟨⟨_, _, Try.func66, rfl, by decide⟩, ICall.of_body' T10_ok ⟨Try.func66, rfl, by decide⟩ (by simp [Try.f66]) ?_⟩
  refine AWP.goA ?_
  refine AWP.ret ?_
  exact ⟨trivial, [], by simp, .agg (encProc (dormP n)), rfl, rfl, rfl, rfl⟩
def behindP (now ticks : Int) : Int := if 0 < ticks then IntKind.i64.wrap (now + ticks) else -1
/-- procs.behind -/
theorem behind50 (now ticks : Int) : Con Try.prog 50 [iv now, iv ticks] (iv (behindP now ticks)) [] := by
  refine ⟨⟨_, _, Try.func50, rfl, by decide⟩, ICall.of_body' T10_ok ⟨Try.func50, rfl, by decide⟩ (by simp [Try.f50]) ?_⟩
  refine AWP.goA ?_
  refine AWP.condA ?_ ?_ <;> intro hc
  · refine AWP.goA ?_
    refine AWP.ret ?_
    exact ⟨trivial, [], by simp, iv (IntKind.i64.wrap (now + ticks)), rfl, by rw [show behindP now ticks = _ from if_pos (by simpa using hc)]; rfl, rfl, rfl⟩
  · refine AWP.goA ?_
    refine AWP.ret ?_
    exact ⟨trivial, [], by simp, iv (-1), rfl, by rw [show behindP now ticks = -1 from if_neg (by simpa using hc)]; rfl, rfl, rfl⟩
end Go.Qd
