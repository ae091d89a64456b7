/- A part of the library of this claim: rules of an abstract machine (values in place of addresses), proved against the model, and contracts of the functions. -/
import Derived.Test.YtfbmgodfpjeanaaLW14a
import Derived.Test.YtfbmgodfpjeanaaQsF
set_option linter.unusedVariables false
set_option linter.unusedSimpArgs false
set_option maxHeartbeats 16000000
set_option maxRecDepth 10000
namespace Go.Qd
open Go Go.Proofs
/-- What is done to a buffer. -/
structure Ob where
  take : Bool
  may : Bool
  w : Wait
def encOb (o : Ob) : List AV := [.bool o.take, .bool o.may, iv o.w.proc, iv o.w.prio, iv o.w.value]
abbrev Obl (l : List Ob) : AV := .lst (l.map encOb)
theorem idxOb {l : List Ob} {i : Nat} (hi : i < l.length) (h : Heap) : aindexAddr' T12 h 91 (.lst (l.map encOb)) (i : Int) = some (.vptr (encOb l[i])) :=
  index_lst (e := 93) rfl rfl rfl (by simp [hi]) rfl
abbrev sOb : Sh := .struct [.bool, .bool, sW]
theorem aOb {N : Nat} {a : AV} (h : shA N (.slice sOb) a) : ∃ l : List Ob, a = Obl l := by
  obtain ⟨rows, h0, _, _, h⟩ := h
  obtain ⟨l, rfl⟩ := rows_map (enc := encOb) fun r hr => by
    obtain ⟨a, b, rfl, h1, c, d, rfl, h2, e, f, rfl, h3, rfl⟩ := h r hr
    obtain ⟨k, rfl⟩ := h1
    obtain ⟨m, rfl⟩ := h2
    obtain ⟨w, rfl⟩ := shW h3
    exact ⟨⟨k, m, w⟩, rfl⟩
  exact ⟨l, by simpa using h0⟩
structure Bo where
  i : Nat
  v : List Int
  l : List Wait
  s : List Int
  g : List Int
def invB (dp : Int) (n : Nat) (x : Bo) : Prop := x.i ≤ n ∧ x.l.length ≤ x.i ∧ x.s.length ≤ x.i ∧ x.g.length ≤ x.s.length ∧ (x.v.length : Int) ≤ dp ∧ (x.v = [] → x.s = x.g) ∧ (x.v ≠ [] → x.s = x.g ++ (x.v ++ x.l.map (·.value)) ∧ (x.l ≠ [] → ¬ (x.v.length : Int) < dp))
theorem swapH {a b c : Nat × AObj} (h : b.1 ≠ c.1) (k : Nat) : hget [a, c, b] k = hget [a, b, c] k := by
  obtain ⟨a1, a2⟩ := a
  obtain ⟨b1, b2⟩ := b
  obtain ⟨c1, c2⟩ := c
  simp only [hget] at *
  by_cases h1 : a1 = k
  · simp [h1]
  · by_cases h2 : b1 = k
    · by_cases h3 : c1 = k
      · exact absurd (h2.trans h3.symm) h
      · simp [h1, h2, h3]
    · simp [h1, h2]
theorem swapB {s : AS} {n : Nat} {env : Env} {a b c : Nat × AObj} (hbc : b.1 ≠ c.1) (h : Thin s ⟨0, n, env, [a, b, c], []⟩) : Thin s ⟨0, n, env, [a, c, b], []⟩ :=
  h.trans (.fits ⟨rfl, rfl, fun k => swapH hbc k, fun _ => .rfl, fun _ _ h => h⟩)
theorem mapS (s : List Int) (a : Int) : (s ++ [a]).map encI = s.map encI ++ [[iv a]] := by simp [encI]
set_option maxHeartbeats 32000000 in
/-- law14.BufferOrder -/
theorem law24 (dp : Int) (l : List Ob) : Con Try.prog 24 [iv dp, Obl l] (.bool true) [] := by
  refine ⟨⟨_, _, Try.func24, rfl, by decide⟩, ICall.of_body' T12_ok ⟨Try.func24, rfl, by decide⟩ (by simp [Try.f24]) ?_⟩
  by_cases hl : l.length ≤ 60
  case neg =>
    have d0 : decide ((l.length : Int) > 60) = true := by simp; omega
    refine AWP.goFC d0 awake61 ?_
    refine AWP.condA ?_ ?_ <;> intro hc
    · refine AWP.goA ?_
      refine AWP.ret ?_
      exact ⟨trivial, [], by simp, .bool true, rfl, rfl, rfl, rfl⟩
    · cases hc
  have d0 : decide ((l.length : Int) > 60) = false := by simp; omega
  by_cases h2 : 1 ≤ dp
  case neg =>
    have d1 : decide (dp < 1) = true := by simp; omega
    refine AWP.goFC (And.intro d0 d1) awake61 ?_
    refine AWP.condA ?_ ?_ <;> intro hc
    · refine AWP.goA ?_
      refine AWP.ret ?_
      exact ⟨trivial, [], by simp, .bool true, rfl, rfl, rfl, rfl⟩
    · cases hc
  have d1 : decide (dp < 1) = false := by simp; omega
  by_cases h3 : dp ≤ 8
  case neg =>
    have d2 : decide (dp > 8) = true := by simp; omega
    refine AWP.goFC (And.intro d0 (And.intro d1 d2)) awake61 ?_
    refine AWP.condA ?_ ?_ <;> intro hc
    · refine AWP.goA ?_
      refine AWP.ret ?_
      exact ⟨trivial, [], by simp, .bool true, rfl, rfl, rfl, rfl⟩
    · cases hc
  have d2 : decide (dp > 8) = false := by simp; omega
  refine AWP.goFC (And.intro d0 (And.intro d1 d2)) awake61 ?_
  refine AWP.condA ?_ ?_ <;> intro hc
  · cases hc
  refine AWP.goA ?_
  refine AWP.loopT (fun x : Bo => (⟨0, Try.f24.ntmps, [(0, iv dp), (1, Obl l), (4, .bool false), (6, .ptr 48 0 0), (7, .osl 57 0 x.s.length), (8, .osl 65 0 x.g.length), (9, iv x.i)], [(48, ⟨84, 4, true, [[iv dp, .bool false, Il x.v, Wl x.l]]⟩), (57, ⟨3, 1, true, x.s.map encI⟩), (65, ⟨3, 1, true, x.g.map encI⟩)], []⟩ : AS)) (invB dp l.length) (fun x => l.length - x.i) ⟨0, [], [], [], []⟩ (by simp [invB]; omega)
    ((((Thin.ls 48 rfl).trans (Thin.ghost 7 57 3 1 (by rfl) (by rfl))).trans (Thin.ghost 8 65 3 1 (by rfl) (by rfl))).trans (Thin.to [] rfl rfl rfl rfl rfl (by simp [envIn, eget, eput]) rfl)) ?_
  rintro ⟨i, V, L, s, g⟩ ⟨hi, hL, hs, hg, hV, hV0, hV1⟩
  simp only at hi hL hs hg hV hV0 hV1
  refine AWP.goA ?_
  refine AWP.condA ?_ ?_ <;> intro hc3
  case refine_2 =>
    have hpre : ∃ q, s = g ++ q := by
      by_cases hv : V = []
      · exact ⟨[], by simp [hV0 hv]⟩
      · exact ⟨_, (hV1 hv).1⟩
    obtain ⟨q, hq⟩ := hpre
    have fg : decide ((g.length : Int) > (s.length : Int)) = false := by simp; omega
    refine AWP.goF fg ?_
    refine AWP.condA ?_ ?_ <;> intro hc4
    · cases hc4
    refine AWP.goA ?_
    refine AWP.loopT (fun j : Nat => ⟨0, Try.f24.ntmps, [(7, .osl 57 0 s.length), (8, .osl 65 0 g.length), (18, iv j)], [(57, ⟨3, 1, true, s.map encI⟩), (65, ⟨3, 1, true, g.map encI⟩)], []⟩) (fun j => j ≤ g.length) (fun j => g.length - j) 0 (by simp)
      (Thin.to [48] rfl rfl rfl rfl rfl (by simp [envIn, eget, eput]) rfl) ?_
    rintro j hj
    refine AWP.goA ?_
    refine AWP.condA ?_ ?_ <;> intro hc5
    · have hjl : j < g.length := by simp at hc5; omega
      have hjs : j < s.length := by omega
      have he : s[j] = g[j] := by subst hq; simp [List.getElem_append_left, hjl]
      have hw := wrap_succ (show j < 9223372036854775807 by omega)
      have hls : ∀ (h : Heap) (k : Nat), hget h k = some ⟨3, 1, true, s.map encI⟩ → aload T12 h 3 (.ptr k j 0) = some ⟨iv g[j], [], [k], []⟩ := fun h k hk => by rw [← he]; exact loadOI hjs h k hk
      refine AWP.goF (And.intro (idxOI hjl) (And.intro (idxOI hjs) (And.intro (loadOI hjl) (And.intro hls bneS)))) ?_
      refine AWP.condA ?_ ?_ <;> intro hc6
      · cases hc6
      refine AWP.goF hw ?_
      exact ⟨j + 1, by omega, by omega, Thin.to [] rfl rfl rfl rfl rfl (by simp [envIn, eget]) rfl⟩
    · refine AWP.goA ?_
      refine AWP.ret ?_
      exact ⟨trivial, [], by simp, .bool true, rfl, rfl, rfl, rfl⟩
  have hil : i < l.length := by simp at hc3; omega
  have hw := wrap_succ (show i < 9223372036854775807 by omega)
  refine AWP.goF (idxOb hil) ?_
  cases htk : (l[i]).take
  case true =>
    refine AWP.condA ?_ ?_ <;> intro hp
    case refine_2 => cases hp
    cases V with
    | nil =>
      cases hm : (l[i]).may
      · have cc : Con Try.prog 65 [.agg [iv dp, .bool false, .lst [], Wl L], .agg (encWait (l[i]).w), .bool (l[i]).may] (.tup [.agg [iv dp, .bool false, .lst [], Wl L], iv 2, iv 0, .lst []]) [] := by rw [hm]; exact take65_no dp false L _ (by omega)
        refine AWP.goFC (idxOb hil) cc ?_
        refine AWP.condA ?_ ?_ <;> intro hc4
        · cases hc4
        refine AWP.goF hw ?_
        exact ⟨⟨i + 1, [], L, s, g⟩, ⟨by dsimp only; omega, by dsimp only; omega, by dsimp only; omega, hg, hV, hV0, hV1⟩, by simp; omega, Thin.to [80] rfl rfl rfl rfl rfl (by simp [envIn, eget, eput]) rfl⟩
      · have cc : Con Try.prog 65 [.agg [iv dp, .bool false, .lst [], Wl L], .agg (encWait (l[i]).w), .bool (l[i]).may] (.tup [.agg [iv dp, .bool false, .lst [], Wl (addW L (l[i]).w false)], iv 6, iv 0, .lst []]) [] := by rw [hm]; exact take65_wait dp false L _ (by omega)
        have hal := addW_len L (l[i]).w false
        refine AWP.goFC (idxOb hil) cc ?_
        refine AWP.condA ?_ ?_ <;> intro hc4
        · cases hc4
        refine AWP.goF hw ?_
        exact ⟨⟨i + 1, [], addW L (l[i]).w false, s, g⟩, ⟨by dsimp only; omega, by dsimp only; omega, by dsimp only; omega, hg, hV, hV0, fun h => absurd rfl h⟩, by simp; omega, Thin.to [80] rfl rfl rfl rfl rfl (by simp [envIn, eget, eput]) rfl⟩
    | cons a t =>
      obtain ⟨hsq, hfull⟩ := hV1 (by simp)
      have htl : t.length ≤ 8 := by simp at hV; omega
      have hgs : g.length + 1 ≤ s.length := by rw [hsq]; simp
      cases L with
      | nil =>
        have cc : Con Try.prog 65 [.agg [iv dp, .bool false, Il (a :: t), .lst []], .agg (encWait (l[i]).w), .bool (l[i]).may] (.tup [.agg [iv dp, .bool false, Il t, .lst []], iv 0, iv a, .lst []]) [] := take65 dp false (a :: t) [] _ _ (by simp; omega) (by simp)
        refine AWP.goFC (idxOb hil) cc ?_
        refine AWP.condA ?_ ?_ <;> intro hc4
        case refine_2 => cases hc4
        refine AWP.goF hw ?_
        refine ⟨⟨i + 1, t, [], s, g ++ [a]⟩, ⟨by dsimp only; omega, by simp, by dsimp only; omega, by simp; omega, by simp at hV ⊢; omega, ?_, ?_⟩, by simp; omega, Thin.to [80, 560] rfl rfl rfl rfl rfl (by simp [envIn, eget, eput]) (by (try dsimp only); rw [mapS g a]; rfl)⟩
        · rintro h
          simp only at h
          subst h; simpa using hsq
        · intro h
          exact ⟨by simpa using hsq, fun h => absurd rfl h⟩
      | cons x r =>
        have hrl : r.length + 1 ≤ i := by simpa using hL
        have cc : Con Try.prog 65 [.agg [iv dp, .bool false, Il (a :: t), Wl (x :: r)], .agg (encWait (l[i]).w), .bool (l[i]).may] (.tup [.agg [iv dp, .bool false, Il (t ++ [x.value]), Wl r], iv 0, iv a, .lst [[iv x.proc, iv 0, iv 0]]]) [] := take65 dp false (a :: t) (x :: r) _ _ (by simp; omega) (by simp; omega)
        refine AWP.goFC (idxOb hil) cc ?_
        refine AWP.condA ?_ ?_ <;> intro hc4
        case refine_2 => cases hc4
        refine AWP.goF hw ?_
        refine ⟨⟨i + 1, t ++ [x.value], r, s, g ++ [a]⟩, ⟨by dsimp only; omega, by dsimp only; omega, by dsimp only; omega, by simp; omega, by simp at hV ⊢; omega, ?_, ?_⟩, by simp; omega, Thin.to [80, 560] rfl rfl rfl rfl rfl (by simp [envIn, eget, eput]) (by (try dsimp only); rw [mapS g a]; rfl)⟩
        · rintro h
          simp at h
        · intro h
          refine ⟨by simpa using hsq, fun h => ?_⟩
          have := hfull (by simp)
          simpa using this
  case false =>
    refine AWP.condA ?_ ?_ <;> intro hp
    · cases hp
    have fdp : decide ((0 : Int) > dp) = false := by simp; omega
    have fz : decide (((0 : Nat) : Int) > 0) = false := by simp
    have hsl : s.length ≤ 60 := by omega
    have hgl : g.length ≤ 60 := by omega
    by_cases hn : V = [] ∧ L ≠ []
    · obtain ⟨rfl, hLn⟩ := hn
      cases L with
      | nil => exact absurd rfl hLn
      | cons x r =>
        have hrl : r.length + 1 ≤ i := by simpa using hL
        have hsg := hV0 rfl
        subst hsg
        have cc : Con Try.prog 62 [.agg [iv dp, .bool false, .lst [], Wl (x :: r)], .agg (encWait (l[i]).w), .bool (l[i]).may] (.tup [.agg [iv dp, .bool false, .lst [], Wl r], iv 0, .lst [[iv x.proc, iv 0, iv (l[i]).w.value]]]) [] := send62_a dp false x r _ _ (by omega)
        refine AWP.goFC (idxOb hil) cc ?_
        refine AWP.condA ?_ ?_ <;> intro hc4
        case refine_2 => cases hc4
        refine AWP.goF (idxOb hil) ?_
        refine AWP.unroll 2 (AR.step ?_)
        refine AWP.goA ?_
        refine AWP.condA ?_ ?_ <;> intro hc5
        case refine_2 => cases hc5
        refine AWP.goA ?_
        refine AWP.condA ?_ ?_ <;> intro hc6
        · simp at hc6
        have fdp2 : decide (((0 : Nat) : Int) > dp) = false := by simp; omega
        have hgoal : invB dp l.length ⟨i + 1, [], r, s ++ [(l[i]).w.value], s ++ [(l[i]).w.value]⟩ := ⟨by dsimp only; omega, by dsimp only; omega, by simp; omega, by simp, hV, fun _ => rfl, fun h => absurd rfl h⟩
        cases r with
        | nil =>
          refine AWP.goF (And.intro fdp2 fz) ?_
          refine AWP.condA ?_ ?_ <;> intro hc7
          · cases hc7
          refine AWP.goF hw ?_
          exact ⟨_, hgoal, by simp; omega, Thin.to [112, 784, 896] rfl rfl rfl rfl rfl (by simp [envIn, eget, eput]) (by (try dsimp only); rw [mapS s _]; rfl)⟩
        | cons y q =>
          have f1 : decide (((q.length + 1 : Nat) : Int) > 0) = true := by simp
          refine AWP.goF (And.intro fdp2 (And.intro fz f1)) ?_
          refine AWP.condA ?_ ?_ <;> intro hc7
          · cases hc7
          refine AWP.goF hw ?_
          exact ⟨_, hgoal, by simp; omega, Thin.to [112, 784, 896] rfl rfl rfl rfl rfl (by simp [envIn, eget, eput]) (by (try dsimp only); rw [mapS s _]; rfl)⟩
    · have h0 : V ≠ [] ∨ L = [] := by
        cases L with
        | nil => exact .inr rfl
        | cons x r => exact .inl fun hv => hn ⟨hv, by simp⟩
      by_cases hd : (V.length : Int) < dp
      · have hLn : L = [] := by
          rcases h0 with h0 | h0
          · cases L with
            | nil => rfl
            | cons x r => exact absurd hd ((hV1 h0).2 (by simp))
          · exact h0
        subst hLn
        have cc : Con Try.prog 62 [.agg [iv dp, .bool false, Il V, .lst []], .agg (encWait (l[i]).w), .bool (l[i]).may] (.tup [.agg [iv dp, .bool false, Il (V ++ [(l[i]).w.value]), .lst []], iv 0, .lst []]) [] := by
          have := send62 dp false V [] (l[i]).w (l[i]).may (by omega) (by simp)
          rw [snd_room h0 hd] at this; exact this
        have hlen : (V ++ [(l[i]).w.value]).length = V.length + 1 := by simp
        have f1 : decide (((V.length + 1 : Nat) : Int) > dp) = false := by simp; omega
        refine AWP.goFC (idxOb hil) cc ?_
        refine AWP.condA ?_ ?_ <;> intro hc4
        case refine_2 => cases hc4
        refine AWP.goF (idxOb hil) ?_
        refine AWP.unroll 1 (AR.step ?_)
        refine AWP.goA ?_
        refine AWP.condA ?_ ?_ <;> intro hc5
        · simp at hc5
        refine AWP.goF (And.intro hlen (And.intro f1 fz)) ?_
        refine AWP.condA ?_ ?_ <;> intro hc7
        · cases hc7
        refine AWP.goF hw ?_
        refine ⟨⟨i + 1, V ++ [(l[i]).w.value], [], s ++ [(l[i]).w.value], g⟩, ⟨by dsimp only; omega, by simp, by simp; omega, by simp; omega, by simp; omega, ?_, ?_⟩, by simp; omega, swapB (show (65 : Nat) ≠ 57 by decide) (Thin.to [112, 784] rfl rfl rfl rfl rfl (by simp [envIn, eget, eput]) (by (try dsimp only); rw [mapS s _]; rfl))⟩
        · intro h; simp at h
        · intro h
          refine ⟨?_, fun h => absurd rfl h⟩
          simp only
          by_cases hv : V = []
          · subst hv; simp [hV0 rfl]
          · have := (hV1 hv).1
            rw [this]; simp
      · have hVn : V ≠ [] := by
          intro h; subst h; simp at hd; omega
        obtain ⟨hsq, hfull⟩ := hV1 hVn
        cases V with
        | nil => exact absurd rfl hVn
        | cons a t =>
        have htl : t.length ≤ 8 := by simp at hV; omega
        have hd2 : ¬ ((t.length + 1 : Nat) : Int) < dp := hd
        have hV2 : ((t.length + 1 : Nat) : Int) ≤ dp := hV
        have f1 : decide (((t.length + 1 : Nat) : Int) > dp) = false := by simp at hV2 ⊢; omega
        have f2 : decide (((t.length + 1 : Nat) : Int) > 0) = true := by simp
        have f3 : decide (((t.length + 1 : Nat) : Int) < dp) = false := by simp at hd2 ⊢; omega
        cases hm : (l[i]).may
        · have cc : Con Try.prog 62 [.agg [iv dp, .bool false, Il (a :: t), Wl L], .agg (encWait (l[i]).w), .bool (l[i]).may] (.tup [.agg [iv dp, .bool false, Il (a :: t), Wl L], iv 2, .lst []]) [] := by rw [hm]; exact send62_no dp false (a :: t) L _ (by simp; omega) (by omega) (.inl (by simp)) hd
          have hgoal : invB dp l.length ⟨i + 1, a :: t, L, s, g⟩ := ⟨by dsimp only; omega, by dsimp only; omega, by dsimp only; omega, hg, hV, hV0, hV1⟩
          refine AWP.goFC (idxOb hil) cc ?_
          refine AWP.condA ?_ ?_ <;> intro hc4
          · cases hc4
          refine AWP.goA ?_
          refine AWP.unroll 1 (AR.step ?_)
          refine AWP.goA ?_
          refine AWP.condA ?_ ?_ <;> intro hc5
          · simp at hc5
          cases L with
          | nil =>
            refine AWP.goF (And.intro f1 fz) ?_
            refine AWP.condA ?_ ?_ <;> intro hc7
            · cases hc7
            refine AWP.goF hw ?_
            exact ⟨_, hgoal, by simp; omega, Thin.to [112] rfl rfl rfl rfl rfl (by simp [envIn, eget, eput]) rfl⟩
          | cons x r =>
            have f4 : decide (((r.length + 1 : Nat) : Int) > 0) = true := by simp
            refine AWP.goF (And.intro f1 (And.intro f2 (And.intro f3 f4))) ?_
            refine AWP.condA ?_ ?_ <;> intro hc7
            · cases hc7
            refine AWP.goF hw ?_
            exact ⟨_, hgoal, by simp; omega, Thin.to [112] rfl rfl rfl rfl rfl (by simp [envIn, eget, eput]) rfl⟩
        · have cc : Con Try.prog 62 [.agg [iv dp, .bool false, Il (a :: t), Wl L], .agg (encWait (l[i]).w), .bool (l[i]).may] (.tup [.agg [iv dp, .bool false, Il (a :: t), Wl (L ++ [(l[i]).w])], iv 6, .lst []]) [] := by rw [hm]; exact send62_wait dp false (a :: t) L _ (by simp; omega) (by omega) (.inl (by simp)) hd
          have hlen : (L ++ [(l[i]).w]).length = L.length + 1 := by simp
          have f4 : decide (((L.length + 1 : Nat) : Int) > 0) = true := by simp
          refine AWP.goFC (idxOb hil) cc ?_
          refine AWP.condA ?_ ?_ <;> intro hc4
          case refine_2 => cases hc4
          refine AWP.goF (idxOb hil) ?_
          refine AWP.unroll 1 (AR.step ?_)
          refine AWP.goA ?_
          refine AWP.condA ?_ ?_ <;> intro hc5
          · simp at hc5
          refine AWP.goF (And.intro hlen (And.intro f1 (And.intro f2 (And.intro f3 f4)))) ?_
          refine AWP.condA ?_ ?_ <;> intro hc7
          · cases hc7
          refine AWP.goF hw ?_
          refine ⟨⟨i + 1, a :: t, L ++ [(l[i]).w], s ++ [(l[i]).w.value], g⟩, ⟨by dsimp only; omega, by simp; omega, by simp; omega, by simp; omega, hV, fun h => by simp at h, fun h => ⟨?_, fun _ => hd⟩⟩, by simp; omega, swapB (show (65 : Nat) ≠ 57 by decide) (Thin.to [112, 784] rfl rfl rfl rfl rfl (by simp [envIn, eget, eput]) (by (try dsimp only); rw [mapS s _]; rfl))⟩
          simp only
          rw [hsq]; simp
end Go.Qd
