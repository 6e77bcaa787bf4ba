/- A text that reads well, and a step behind it: what is read then. Plain lists, no program. The six steps of ParseCuts, read behind a text. Plain lists, no program. The plain law of ParseCuts: a text and a step behind it, if both read well. Brackets about a whole condition change nothing: the plain law. Plain lists, no program. -/
import Derived.Test.YtlonkcmkgmbkcaaDoorParX
import Derived.Test.YtlonkcmkgmbkcaaDoorParW
import Derived.Test.YtlonkcmkgmbkcaaDoorBlanksP
import Derived.Test.YtlonkcmkgmbkcaaDoorPlacesP
import Derived.Test.YtlonkcmkgmbkcaaDoorRMem
/-! A text that reads well, and a step behind it: what is read then. Plain lists, no program. -/
namespace Go.Proofs.YtlonkcmkgmbkcaaDoor.ParS
open LexS
set_option linter.unusedVariables false

theorem lexGo_shift : ∀ (k a : Nat) (r : Bytes) (acc xs : List Tok), lexGo k a r acc = (xs, 0, 0) → r.length < k → ∀ (k' a' : Nat) (acc' : List Tok), r.length < k' →
      ∃ us vs, lexGo k' a' r acc' = (acc' ++ us, 0, 0) ∧ xs = acc ++ vs ∧ us.map strip = vs.map strip
  | 0, _, _, _, _, _, hk => by omega
  | k + 1, a, r, acc, xs, h, hk => by
    intro k' a' acc' hk'
    match r, h, hk, hk' with
    | [], h, _, hk' =>
      have : xs = acc := by
        have : lexGo (k + 1) a [] acc = (acc, 0, 0) := rfl
        rw [this] at h
        exact (Prod.mk.inj h).1.symm
      match k', hk' with
      | k' + 1, _ => exact ⟨[], [], by simp [lexGo], by simp [this], rfl⟩
    | c :: r, h, hk, hk' =>
      simp only [List.length_cons] at hk hk'
      match k', hk' with
      | k' + 1, hk' =>
        unfold lexGo at h ⊢
        dsimp only at h ⊢
        by_cases hc : blankB c = true
        · rw [if_pos hc] at h ⊢
          exact lexGo_shift k _ r acc xs h (by omega) k' _ acc' (by omega)
        · rw [if_neg hc] at h ⊢
          by_cases hn : (oneS (c :: r)).2 = 0
          · rw [if_pos hn] at h
            simp at h
          · rw [if_neg hn] at h ⊢
            obtain ⟨us, vs, h1, h3, h4⟩ := lexGo_shift k _ _ _ xs h (by rw [List.length_drop, List.length_cons]; omega) k' (a' + (oneS (c :: r)).2) (acc' ++ [{ (oneS (c :: r)).1 with at_ := a' }]) (by rw [List.length_drop, List.length_cons]; omega)
            exact ⟨{ (oneS (c :: r)).1 with at_ := a' } :: us, { (oneS (c :: r)).1 with at_ := a } :: vs, by rw [h1]; simp, by rw [h3]; simp, by simp [h4, strip]⟩
theorem tk_strip : ∀ {xs ys : List Tok}, xs.map strip = ys.map strip → xs.map tk = ys.map tk
  | [], [], _ => rfl
  | [], y :: ys, h => by simp at h
  | x :: xs, [], h => by simp at h
  | x :: xs, y :: ys, h => by
    simp only [List.map_cons, List.cons.injEq] at h ⊢
    refine ⟨?_, tk_strip h.2⟩
    have h1 := congrArg tk h.1
    exact h1
/-- A text, and another one behind it that opens with a blank. -/
theorem lex_more {s t : Bytes} {b : UInt8} {xs ys : List Tok} (hb : blankB b = true) (hs : lexS s = (xs, 0, 0)) (ht : lexS (b :: t) = (ys, 0, 0)) (hl : (s ++ b :: t).length ≤ 2048) : ∃ zs, lexS (s ++ b :: t) = (zs, 0, 0) ∧ zs.map tk = xs.map tk ++ ys.map tk := by
  have hs' : lexGo (s.length + 1) 0 s [] = (xs, 0, 0) := by
    unfold lexS at hs
    split at hs
    · simp at hs
    · exact hs
  have ht' : lexGo ((b :: t).length + 1) 0 (b :: t) [] = (ys, 0, 0) := by
    unfold lexS at ht
    split at ht
    · simp at ht
    · exact ht
  unfold lexS
  rw [if_neg (by omega)]
  obtain ⟨us, vs, k2, a2, h2, g2, x2, m2⟩ := lexGo_ahead _ _ s [] xs hs' (by omega) b t ((s ++ b :: t).length + 1) 0 [] hb (by omega)
  obtain ⟨us2, vs2, h3, x3, m3⟩ := lexGo_shift _ _ (b :: t) [] ys ht' (by omega) k2 a2 ([] ++ us) g2
  refine ⟨us ++ us2, by rw [h2, h3]; simp, ?_⟩
  rw [List.map_append, tk_strip m2, tk_strip m3, x2, x3]
  simp
section
variable {step : Nat → M Nat}
theorem steps_more (hs : ∀ (a : Nat), Rel Quits True (step a) (step a)) : ∀ (k a : Nat) (ts : List Tk) (ns : List Nd) (b : Nat) (ns1 : List Nd), stepsGo step k a ts ns = .ok (b, [], ns1) → ts.length < k → ∀ (us : List Tk), Quits us → ∀ (K : Nat), us.length + ts.length < K →
    ∃ K', stepsGo step K a (ts ++ us) ns = stepsGo step K' b us ns1 ∧ us.length < K'
  | 0, a, ts, ns, b, ns1, h, hk => by omega
  | k + 1, a, ts, ns, b, ns1, h, hk => by
    intro us hu K hK
    rw [stepsGo_eq] at h
    dsimp only at h
    rcases hq : sees kw_bar ts with _ | ts1
    · rw [hq] at h
      cases h
      exact ⟨K, rfl, by simpa using hK⟩
    · rw [hq] at h
      obtain ⟨c, ts2, ns2, h1, h2⟩ := bind_ok h
      obtain ⟨l1, k1⟩ := hs a _ _ _ _ _ h1
      obtain ⟨a', n', e1, e2⟩ := k1 us (fun _ => hu) ns
      obtain ⟨rfl, rfl⟩ := e2 trivial rfl
      have hm := sees_more (us := us) hq
      have hl := hm.2
      obtain ⟨K0, rfl⟩ : ∃ K0, K = K0 + 1 := ⟨K - 1, by omega⟩
      obtain ⟨K', e3, e4⟩ := steps_more hs k a' ts2 n' b ns1 h2 (by omega) us hu K0 (by omega)
      refine ⟨K', ?_, e4⟩
      rw [stepsGo_eq, ← e3]
      dsimp only
      rw [hm.1]
      dsimp only
      unfold M.bind
      rw [e1]
theorem query_more (hs : ∀ (a : Nat), Rel Quits True (step a) (step a)) {ts : List Tk} {ns : List Nd} {b : Nat} {ns1 : List Nd} (h : queryOf step ts ns = .ok (b, [], ns1)) {us : List Tk} (hu : Quits us) (hl : us.length + ts.length ≤ 1024) :
    ∃ K', queryOf step (ts ++ us) ns = stepsGo step K' b us ns1 ∧ us.length < K' := by
  unfold queryOf at h
  obtain ⟨x1, t1, n1, h1, g1⟩ := bind_ok h
  obtain ⟨x2, t2, n2, h2, g2⟩ := bind_ok g1
  obtain ⟨x3, t3, n3, h3, g3⟩ := bind_ok g2
  obtain ⟨x4, t4, n4, h4, g4⟩ := bind_ok g3
  obtain ⟨l1, k1⟩ := rel_wants (S := Quits) (e := True) _ _ _ _ _ _ h1
  obtain ⟨l2, k2⟩ := rel_take (S := Quits) (e := True) _ _ _ _ _ _ h2
  obtain ⟨l3, k3⟩ := rel_times (e := True) _ _ _ _ _ h3
  obtain ⟨y1, m1, e1, f1⟩ := k1 us (fun _ => hu) ns
  obtain ⟨rfl, rfl⟩ := f1 trivial rfl
  obtain ⟨y2, m2, e2, f2⟩ := k2 us (fun _ => hu) _
  obtain ⟨rfl, rfl⟩ := f2 trivial rfl
  obtain ⟨y3, m3, e3, f3⟩ := k3 us (fun _ => hu) _
  obtain ⟨rfl, rfl⟩ := f3 trivial rfl
  cases h4
  obtain ⟨K', e5, e6⟩ := steps_more hs _ _ _ _ _ _ g4 (by unfold fuel; omega) us hu fuel (by unfold fuel; omega)
  refine ⟨K', ?_, e6⟩
  rw [← e5]
  unfold queryOf M.bind
  rw [e1]
  dsimp only
  rw [e2]
  dsimp only
  rw [e3]
  rfl
end
end Go.Proofs.YtlonkcmkgmbkcaaDoor.ParS

/-! The six steps of ParseCuts, read behind a text. Plain lists, no program. -/
namespace Go.Proofs.YtlonkcmkgmbkcaaDoor.ParS
open LexS
set_option linter.unusedVariables false
set_option maxRecDepth 100000

def bar : Tk := ⟨4, [124], 0⟩
def cut0 : List Tk := [⟨1, [107, 101, 101, 112], 0⟩, ⟨1, [97], 0⟩]
def cut1 : List Tk := [⟨1, [97, 108, 105, 103, 110], 0⟩, ⟨2, [], 5⟩]
def cut2 : List Tk := [⟨1, [116, 111, 112], 0⟩, ⟨2, [], 3⟩, ⟨1, [98, 121], 0⟩, ⟨1, [98], 0⟩]
def cut3 : List Tk := [⟨1, [103, 114, 111, 117, 112], 0⟩, ⟨1, [99], 0⟩, ⟨4, [58], 0⟩, ⟨1, [99, 111, 117, 110, 116], 0⟩]
def cut4 : List Tk := [⟨1, [119, 104, 101, 114, 101], 0⟩, ⟨1, [100], 0⟩, ⟨4, [61], 0⟩, ⟨2, [], 1⟩]
def cut5 : List Tk := [⟨1, [117, 110, 105, 111, 110], 0⟩, ⟨4, [40], 0⟩, ⟨1, [102, 101, 116, 99, 104], 0⟩, ⟨1, [101], 0⟩, ⟨4, [41], 0⟩]
theorem lx0 : (lexS [32, 124, 32, 107, 101, 101, 112, 32, 97]).2 = (0, 0) ∧ (lexS [32, 124, 32, 107, 101, 101, 112, 32, 97]).1.map tk = bar :: cut0 := by decide +kernel
theorem lx1 : (lexS [32, 124, 32, 97, 108, 105, 103, 110, 32, 53]).2 = (0, 0) ∧ (lexS [32, 124, 32, 97, 108, 105, 103, 110, 32, 53]).1.map tk = bar :: cut1 := by decide +kernel
theorem lx2 : (lexS [32, 124, 32, 116, 111, 112, 32, 51, 32, 98, 121, 32, 98]).2 = (0, 0) ∧ (lexS [32, 124, 32, 116, 111, 112, 32, 51, 32, 98, 121, 32, 98]).1.map tk = bar :: cut2 := by decide +kernel
theorem lx3 : (lexS [32, 124, 32, 103, 114, 111, 117, 112, 32, 99, 32, 58, 32, 99, 111, 117, 110, 116]).2 = (0, 0) ∧ (lexS [32, 124, 32, 103, 114, 111, 117, 112, 32, 99, 32, 58, 32, 99, 111, 117, 110, 116]).1.map tk = bar :: cut3 := by decide +kernel
theorem lx4 : (lexS [32, 124, 32, 119, 104, 101, 114, 101, 32, 100, 32, 61, 32, 49]).2 = (0, 0) ∧ (lexS [32, 124, 32, 119, 104, 101, 114, 101, 32, 100, 32, 61, 32, 49]).1.map tk = bar :: cut4 := by decide +kernel
theorem lx5 : (lexS [32, 124, 32, 117, 110, 105, 111, 110, 32, 40, 102, 101, 116, 99, 104, 32, 101, 41]).2 = (0, 0) ∧ (lexS [32, 124, 32, 117, 110, 105, 111, 110, 32, 40, 102, 101, 116, 99, 104, 32, 101, 41]).1.map tk = bar :: cut5 := by decide +kernel
theorem st0 (b : Nat) (ns : List Nd) : stepOf (pInner 16) (pCond 16) b cut0 ns = .ok (ns.length, [], ns ++ [{ node 3 [b] with names := [[97]] }]) := by kernel_rfl
theorem st1 (b : Nat) (ns : List Nd) : stepOf (pInner 16) (pCond 16) b cut1 ns = .ok (ns.length, [], ns ++ [{ node 4 [b] with n := 5 }]) := by kernel_rfl
theorem st2 (b : Nat) (ns : List Nd) : stepOf (pInner 16) (pCond 16) b cut2 ns = .ok (ns.length, [], ns ++ [{ node 6 [b] with n := 3, s := [98] }]) := by kernel_rfl
theorem st3 (b : Nat) (ns : List Nd) : stepOf (pInner 16) (pCond 16) b cut3 ns = .ok (ns.length, [], ns ++ [{ node 5 [b] with names := [[99]], aggs := [(1, [])] }]) := by kernel_rfl
theorem st4 (b : Nat) (ns : List Nd) : stepOf (pInner 16) (pCond 16) b cut4 ns = .ok ((ns ++ [{ node 14 [] with s := [100], n := 1, v := ⟨1, 1, []⟩ }]).length, [], (ns ++ [{ node 14 [] with s := [100], n := 1, v := ⟨1, 1, []⟩ }]) ++ [node 2 [b, ns.length]]) := by kernel_rfl
theorem st5 (b : Nat) (ns : List Nd) : stepOf (pInner 16) (pCond 16) b cut5 ns = .ok ((ns ++ [{ node 1 [] with s := [101], to_ := 1099511627775 }]).length, [], (ns ++ [{ node 1 [] with s := [101], to_ := 1099511627775 }]) ++ [node 8 [b, ns.length]]) := by kernel_rfl
end Go.Proofs.YtlonkcmkgmbkcaaDoor.ParS

/-! The plain law of ParseCuts: a text and a step behind it, if both read well. -/
namespace Go.Proofs.YtlonkcmkgmbkcaaDoor.ParS
open LexS
set_option linter.unusedVariables false

theorem parse_ok {l : List Tok} {ns : List Nd} {n : Nat} (h : parseS l = (ns, n, 0)) : ∃ b, pQuery 16 (l.map tk) [] = .ok (b, [], ns) ∧ l.length ≤ 1024 ∧ b = ns.length - 1 ∧ ns ≠ [] ∧ ns.length ≤ 128 := by
  unfold parseS parseAll at h
  split at h
  · cases h
  · rename_i hl
    rw [List.length_map] at hl
    split at h
    · rename_i k e he
      cases e <;> cases h
    · rename_i a ts ns1 he
      split at h
      · cases h
      · rename_i ht
        split at h
        · cases h
        · cases h
          have ht' : ts = [] := by
            by_cases x : ts = []
            · exact x
            · exact absurd x ht
          subst ht'
          obtain ⟨ms, rfl, _, hne, hb⟩ := lays_query 16 _ _ _ _ _ he
          exact ⟨a, he, by omega, by simpa using hb, by simpa using hne, by omega⟩
theorem query_ok {s : Bytes} (h : (queryS s).2.2 = 0) : ∃ xs n, lexS s = (xs, 0, 0) ∧ parseS xs = ((queryS s).1, n, 0) ∧ s.length ≤ 2048 := by
  have hg := lexS_good s
  have hsm := lexS_small s
  unfold queryS at h ⊢
  rcases hx : lexS s with ⟨l, a, e⟩
  rw [hx] at h hg hsm
  dsimp only at h hg hsm ⊢
  by_cases he : e ≠ 0
  · rw [if_pos he] at h
    exact absurd h he
  · have he0 : e = 0 := by omega
    subst he0
    rw [if_neg he] at h ⊢
    have ha : a = 0 := by
      rcases hg with ⟨_, h2, _⟩ | ⟨h2, _⟩
      · exact h2
      · exact absurd rfl h2
    subst ha
    rcases hp : parseS l with ⟨ns, n, f⟩
    rw [hp] at h
    dsimp only at h ⊢
    by_cases hf : f = 0
    · subst hf
      rw [if_pos rfl]
      exact ⟨l, n, rfl, hp, hsm rfl⟩
    · rw [if_neg hf] at h
      split at h
      · exact absurd h hf
      · exact absurd h hf
theorem cut_law {s t : Bytes} {us : List Tk} {f : Nat → Nat → List Nd} (ht : (lexS (32 :: t)).2 = (0, 0) ∧ (lexS (32 :: t)).1.map tk = bar :: us) (hlen : us.length ≤ 20)
    (hstep : ∀ (b : Nat) (ns : List Nd), ∃ c, stepOf (pInner 16) (pCond 16) b us ns = .ok (c, [], ns ++ f b ns.length)) (h1 : (queryS s).2.2 = 0) (h2 : (queryS (s ++ 32 :: t)).2.2 = 0) :
    (queryS (s ++ 32 :: t)).1 = (queryS s).1 ++ f ((queryS s).1.length - 1) (queryS s).1.length ∧ (queryS s).1 ≠ [] ∧ (queryS (s ++ 32 :: t)).1.length ≤ 128 := by
  obtain ⟨xs, n, hx, hp, _⟩ := query_ok h1
  obtain ⟨zs, m, hz, hpz, hl⟩ := query_ok h2
  rcases hy : lexS (32 :: t) with ⟨ys, ay, ey⟩
  rw [hy] at ht
  dsimp only at ht
  obtain ⟨h3, h4⟩ := ht
  cases h3
  obtain ⟨zs', hz', hm⟩ := lex_more (b := 32) rfl hx hy hl
  rw [hz] at hz'
  cases hz'
  obtain ⟨b, hb, hxl, hbn, hne, _⟩ := parse_ok hp
  obtain ⟨b2, hb2, hzl, _, _, h128⟩ := parse_ok hpz
  refine ⟨?_, hne, h128⟩
  rw [hm, h4] at hb2
  have hzlen : zs.length = xs.length + (us.length + 1) := by
    have := congrArg List.length hm
    rw [List.length_append, List.length_map, List.length_map, h4] at this
    simpa using this
  obtain ⟨K', e1, e2⟩ := query_more (step := stepOf (pInner 16) (pCond 16)) (fun a => rel_step (rel_inner 16 0) (rel_pCond 16 0) fun _ => rfl) hb (us := bar :: us) ⟨rfl, rfl, rfl, rfl⟩ (by simp only [List.length_cons, List.length_map]; omega)
  obtain ⟨K0, rfl⟩ : ∃ K0, K' = K0 + 1 := ⟨K' - 1, by simp only [List.length_cons] at e2; omega⟩
  obtain ⟨c, hc⟩ := hstep b (queryS s).1
  have e3 : stepsGo (stepOf (pInner 16) (pCond 16)) (K0 + 1) b (bar :: us) (queryS s).1 = .ok (c, [], (queryS s).1 ++ f b (queryS s).1.length) := by
    rw [stepsGo_eq]
    show M.bind (stepOf (pInner 16) (pCond 16) b) (stepsGo (stepOf (pInner 16) (pCond 16)) K0) us (queryS s).1 = _
    unfold M.bind
    rw [hc]
    dsimp only
    cases K0 with
    | zero => rfl
    | succ K0 => rfl
  have e4 : pQuery 16 (xs.map tk ++ bar :: us) [] = .ok (c, [], (queryS s).1 ++ f b (queryS s).1.length) := e1.trans e3
  rw [e4] at hb2
  have := congrArg (fun x => match x with | .ok (_, _, q) => q | .error _ => []) hb2
  dsimp only at this
  rw [← this, hbn]
end Go.Proofs.YtlonkcmkgmbkcaaDoor.ParS

/-! Brackets about a whole condition change nothing: the plain law. Plain lists, no program. -/
namespace Go.Proofs.YtlonkcmkgmbkcaaDoor.ParS
open LexS
set_option linter.unusedVariables false
set_option maxRecDepth 100000

/-- fetch x | where -/
def hdB : Bytes := [102, 101, 116, 99, 104, 32, 120, 32, 124, 32, 119, 104, 101, 114, 101]
def hdT : List Tk := [⟨1, [102, 101, 116, 99, 104], 0⟩, ⟨1, [120], 0⟩, bar, ⟨1, [119, 104, 101, 114, 101], 0⟩]
def opT : Tk := ⟨4, [40], 0⟩
def shT : Tk := ⟨4, [41], 0⟩
theorem lx_hd : (lexS hdB).2 = (0, 0) ∧ (lexS hdB).1.map tk = hdT := by decide +kernel
theorem go_of {s : Bytes} {xs : List Tok} (hs : lexS s = (xs, 0, 0)) : lexGo (s.length + 1) 0 s [] = (xs, 0, 0) := by
  unfold lexS at hs
  split at hs
  · simp at hs
  · exact hs
theorem lex_blank {s : Bytes} {b : UInt8} {xs : List Tok} (hb : blankB b = true) (hs : lexS s = (xs, 0, 0)) (hl : s.length ≤ 2047) : ∃ ys, lexS (b :: s) = (ys, 0, 0) ∧ ys.map tk = xs.map tk := by
  have hs' := go_of hs
  unfold lexS
  rw [if_neg (by simp only [List.length_cons]; omega)]
  obtain ⟨us, vs, h1, h2, h3⟩ := lexGo_shift _ _ s [] xs hs' (by omega) ((b :: s).length) 1 [] (by simp)
  refine ⟨us, ?_, by rw [tk_strip h3, h2]; rfl⟩
  show (if blankB b then lexGo ((b :: s).length) (0 + 1) s [] else _) = _
  rw [if_pos hb, h1]
  rfl
theorem one_open (r : Bytes) : oneS (40 :: r) = (⟨4, [40], 0, 0⟩, 1) := by
  have h1 : signLen (40 :: r) = 1 := by
    unfold signLen
    dsimp only
    rw [if_neg (by rintro ⟨_, h⟩; revert h; decide)]
    rfl
  unfold oneS
  dsimp only
  rw [if_neg (by decide), if_neg (by decide), if_neg (by rintro (h | ⟨h, _⟩) <;> revert h <;> decide), h1]
  rfl
theorem one_shut (r : Bytes) : oneS (41 :: r) = (⟨4, [41], 0, 0⟩, 1) := by
  have h1 : signLen (41 :: r) = 1 := by
    unfold signLen
    dsimp only
    rw [if_neg (by rintro ⟨_, h⟩; revert h; decide)]
    rfl
  unfold oneS
  dsimp only
  rw [if_neg (by decide), if_neg (by decide), if_neg (by rintro (h | ⟨h, _⟩) <;> revert h <;> decide), h1]
  rfl
theorem go_tok {k a n : Nat} {c : UInt8} {r : Bytes} {acc : List Tok} {t : Tok} (hc : blankB c = false) (h : oneS (c :: r) = (t, n + 1)) : lexGo (k + 1) a (c :: r) acc = lexGo k (a + (n + 1)) (r.drop n) (acc ++ [{ t with at_ := a }]) := by
  show (if blankB c then _ else if (oneS (c :: r)).2 = 0 then _ else lexGo k (a + (oneS (c :: r)).2) ((c :: r).drop (oneS (c :: r)).2) (acc ++ [{ (oneS (c :: r)).1 with at_ := a }])) = _
  rw [hc, h]
  rfl
theorem go_blank {k a : Nat} {c : UInt8} {r : Bytes} {acc : List Tok} (hc : blankB c = true) : lexGo (k + 1) a (c :: r) acc = lexGo k (a + 1) r acc := by
  show (if blankB c then _ else _) = _
  rw [if_pos hc]
theorem ends_shut : TokEnd 41 := ⟨by decide, by decide, by decide⟩
theorem lex_open {s : Bytes} {xs : List Tok} (hs : lexS s = (xs, 0, 0)) (hl : s.length ≤ 2044) : ∃ ys, lexS (32 :: 40 :: (s ++ [41, 32])) = (ys, 0, 0) ∧ ys.map tk = opT :: (xs.map tk ++ [shT]) := by
  have hs' := go_of hs
  unfold lexS
  have hlen : (32 :: 40 :: (s ++ [41, 32]) : Bytes).length = s.length + 4 := by simp
  rw [if_neg (by rw [hlen]; omega), hlen, go_blank rfl, go_tok (n := 0) rfl (one_open _), List.drop_zero]
  obtain ⟨us, vs, k2, a2, h1, h2, h3, h4⟩ := lexGo_ends _ _ s [] xs hs' (by omega) 41 [32] (s.length + 3) (0 + 1 + (0 + 1)) ([] ++ [{ (⟨4, [40], 0, 0⟩ : Tok) with at_ := 0 + 1 }]) ends_shut (by simp)
  rw [h1]
  obtain ⟨k3, rfl⟩ : ∃ k3, k2 = k3 + 3 := ⟨k2 - 3, by simp only [List.length_cons, List.length_nil] at h2; omega⟩
  rw [go_tok (n := 0) rfl (one_shut _), List.drop_zero, go_blank rfl]
  refine ⟨_, rfl, ?_⟩
  rw [List.map_append, List.map_append, tk_strip h4, h3]
  rfl

theorem cond_ok {l : List Tok} (h : (condS l).2.2 = 0) : ∃ b, pCond 16 (l.map tk) [] = .ok (b, [], (condS l).1) := by
  rcases hq : condS l with ⟨ns, n, f⟩
  rw [hq] at h
  dsimp only at h ⊢
  subst h
  unfold condS parseAll at hq
  split at hq
  · cases hq
  · split at hq
    · rename_i k e he
      cases e <;> cases hq
    · rename_i a ts ns1 he
      split at hq
      · cases hq
      · rename_i ht
        split at hq
        · cases hq
        · cases hq
          have ht' : ts = [] := by
            by_cases x : ts = []
            · exact x
            · exact absurd x ht
          subst ht'
          exact ⟨a, he⟩
def ftch : Nd := { node 1 [] with s := [120], to_ := 1099511627775 }
theorem head_eq (us : List Tk) : pQuery 16 (hdT ++ us) [] = M.bind (M.bind (pCond 16) (fun c => lay (node 2 [0, c]))) (stepsGo (stepOf (pInner 16) (pCond 16)) 1024) us [ftch] := by kernel_rfl
theorem open_eq (us : List Tk) (ns : List Nd) : pNot 16 (opT :: us) ns = shut (pCond 15) us ns := by kernel_rfl
theorem head_ok {us : List Tk} {b : Nat} {r : List Tk} {ns : List Nd} (h : pQuery 16 (hdT ++ us) [] = .ok (b, r, ns)) : ∃ c t n, pCond 16 us [ftch] = .ok (c, t, n) := by
  rw [head_eq] at h
  obtain ⟨x1, t1, n1, h1, _⟩ := bind_ok h
  obtain ⟨x2, t2, n2, h2, _⟩ := bind_ok h1
  exact ⟨x2, t2, n2, h2⟩
theorem head_at {us : List Tk} {c : Nat} {n : List Nd} (h : pCond 16 us [ftch] = .ok (c, [], n)) : pQuery 16 (hdT ++ us) [] = .ok (n.length, [], n ++ [node 2 [0, c]]) := by
  rw [head_eq]
  unfold M.bind
  rw [h]
  rfl
theorem joined_nil {w : Bytes} {kind : Nat} {p : M Nat} {ts : List Tk} {ns n : List Nd} {c : Nat} (h : p ts ns = .ok (c, [], n)) : joined w kind p ts ns = .ok (c, [], n) := by
  unfold joined M.bind
  rw [h]
  rfl
theorem shut_ok {p : M Nat} {ts r : List Tk} {ns n : List Nd} {c : Nat} (h : shut p ts ns = .ok (c, r, n)) : ∃ t, p ts ns = .ok (c, t, n) ∧ sees kw_shut t = some r := by
  obtain ⟨x1, t1, n1, h1, g1⟩ := bind_ok h
  obtain ⟨x2, t2, n2, h2, g2⟩ := bind_ok g1
  cases g2
  unfold wants at h2
  split at h2
  · rename_i t3 e
    cases h2
    exact ⟨t1, h1, e⟩
  · cases h2
theorem joined_ok1 {w : Bytes} {kind : Nat} {p : M Nat} {ts r : List Tk} {ns n : List Nd} {c : Nat} (h : joined w kind p ts ns = .ok (c, r, n)) : ∃ c t n, p ts ns = .ok (c, t, n) := by
  obtain ⟨x1, t1, n1, h1, g1⟩ := bind_ok h
  exact ⟨_, _, _, h1⟩
theorem quits_nil : Quits [] := ⟨rfl, rfl, rfl, rfl⟩
theorem quits_shut : Quits [shT] := ⟨rfl, rfl, rfl, rfl⟩
/-- What a condition's tokens read as, with brackets about them and without. -/
theorem cond_brk {ts : List Tk} {b : Nat} {n0 : List Nd} (h : pCond 16 ts [] = .ok (b, [], n0)) {c : Nat} {r : List Tk} {n : List Nd} (h2 : pCond 16 (opT :: (ts ++ [shT])) [ftch] = .ok (c, r, n)) :
    ∃ c n, pCond 16 ts [ftch] = .ok (c, [], n) ∧ pCond 16 (opT :: (ts ++ [shT])) [ftch] = .ok (c, [], n) := by
  obtain ⟨c1, t1, n1, h3⟩ := joined_ok1 h2
  obtain ⟨c2, t2, n2, h4⟩ := joined_ok1 h3
  rw [open_eq] at h4
  obtain ⟨t3, h5, h6⟩ := shut_ok h4
  -- more depth: the same
  obtain ⟨_, k7⟩ := rel_pCond (e := True) 15 1 _ _ _ _ _ h5
  obtain ⟨a7, n7, e7, f7⟩ := k7 [] (fun _ => quits_nil) [ftch]
  obtain ⟨rfl, rfl⟩ := f7 trivial rfl
  rw [List.append_nil, List.append_nil] at e7
  -- without brackets
  obtain ⟨_, k8⟩ := rel_pCond (e := True) 16 0 _ _ _ _ _ h
  obtain ⟨a8, n8, e8, _⟩ := k8 [] (fun _ => quits_nil) [ftch]
  rw [List.append_nil, List.append_nil] at e8
  obtain ⟨_, k9⟩ := rel_pCond (e := True) 16 0 _ _ _ _ _ e8
  obtain ⟨a9, n9, e9, f9⟩ := k9 [shT] (fun _ => quits_shut) [ftch]
  obtain ⟨rfl, rfl⟩ := f9 trivial rfl
  rw [List.nil_append] at e9
  have e10 : (Except.ok (a7, t3, n7) : Except Er (Nat × List Tk × List Nd)) = .ok (a9, [shT], n9) := e7.symm.trans e9
  cases e10
  refine ⟨a7, n7, e8, ?_⟩
  refine joined_nil (joined_nil ?_)
  rw [open_eq]
  unfold shut M.bind
  rw [h5]
  rfl
/-- A condition, with brackets about it and without, behind a fetch. -/
theorem brk_law {s : Bytes} {xs : List Tok} (hl : s.length ≤ 900) (hs : lexS s = (xs, 0, 0)) (hc : (condS xs).2.2 = 0) (h1 : (queryS (hdB ++ 32 :: s)).2.2 = 0) (h2 : (queryS (hdB ++ 32 :: 40 :: (s ++ [41, 32]))).2.2 = 0) :
    (queryS (hdB ++ 32 :: s)).1 = (queryS (hdB ++ 32 :: 40 :: (s ++ [41, 32]))).1 ∧ (queryS (hdB ++ 32 :: s)).1.length ≤ 128 := by
  obtain ⟨ax, an, ha, hpa, _⟩ := query_ok h1
  obtain ⟨bx, bn, hb, hpb, _⟩ := query_ok h2
  obtain ⟨ca, hca, _, _, _, h128⟩ := parse_ok hpa
  obtain ⟨cb, hcb, _⟩ := parse_ok hpb
  obtain ⟨b0, hb0⟩ := cond_ok hc
  have hh := lx_hd
  rcases hq : lexS hdB with ⟨hx, h3, h4⟩
  rw [hq] at hh
  obtain ⟨hh1, hh2⟩ := hh
  dsimp only at hh1 hh2
  cases hh1
  obtain ⟨ys, hy1, hy2⟩ := lex_blank (b := 32) rfl hs (by omega)
  obtain ⟨zs, hz1, hz2⟩ := lex_open hs (by omega)
  have hlen : hdB.length = 15 := rfl
  obtain ⟨us, hu1, hu2⟩ := lex_more (b := 32) rfl hq hy1 (by simp only [List.length_append, List.length_cons, hlen]; omega)
  obtain ⟨vs, hv1, hv2⟩ := lex_more (b := 32) rfl hq hz1 (by simp only [List.length_append, List.length_cons, List.length_nil, hlen]; omega)
  rw [ha] at hu1
  cases hu1
  rw [hb] at hv1
  cases hv1
  rw [hu2, hh2, hy2] at hca
  rw [hv2, hh2, hz2] at hcb
  obtain ⟨c1, t1, n1, g1⟩ := head_ok hcb
  obtain ⟨c, n, e1, e2⟩ := cond_brk hb0 g1
  have r1 := head_at e1
  have r2 := head_at e2
  rw [hca] at r1
  rw [hcb] at r2
  refine ⟨?_, h128⟩
  have q1 := congrArg (fun x => match x with | .ok (_, _, q) => q | .error _ => []) r1
  have q2 := congrArg (fun x => match x with | .ok (_, _, q) => q | .error _ => []) r2
  dsimp only at q1 q2
  rw [q1, q2]
end Go.Proofs.YtlonkcmkgmbkcaaDoor.ParS
