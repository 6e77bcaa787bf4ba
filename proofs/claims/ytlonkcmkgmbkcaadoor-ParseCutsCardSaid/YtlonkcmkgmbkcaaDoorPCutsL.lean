/- The plain law of ParseCuts: a text and a step behind it, if both read well. -/
import Derived.Test.YtlonkcmkgmbkcaaDoorPCutsQ
namespace Go.Proofs.YtlonkcmkgmbkcaaDoor.ParS
open LexS
set_option linter.unusedVariables false

theorem parse_ok {l : List Tok} {ns : List Nd} {n : Nat} (h : parseS l = (ns, n, 0)) : ∃ b, pQuery 16 (l.map tk) [] = .ok (b, [], ns) ∧ l.length ≤ 1024 ∧ b = ns.length - 1 ∧ ns ≠ [] ∧ ns.length ≤ 128 := by
  unfold parseS parseAll at h
  split at h
  · cases h
  · rename_i hl
    rw [List.length_map] at hl
    split at h
    · rename_i k e he
      cases e <;> cases h
    · rename_i a ts ns1 he
      split at h
      · cases h
      · rename_i ht
        split at h
        · cases h
        · cases h
          have ht' : ts = [] := by
            by_cases x : ts = []
            · exact x
            · exact absurd x ht
          subst ht'
          obtain ⟨ms, rfl, _, hne, hb⟩ := lays_query 16 _ _ _ _ _ he
          exact ⟨a, he, by omega, by simpa using hb, by simpa using hne, by omega⟩
theorem query_ok {s : Bytes} (h : (queryS s).2.2 = 0) : ∃ xs n, lexS s = (xs, 0, 0) ∧ parseS xs = ((queryS s).1, n, 0) ∧ s.length ≤ 2048 := by
  have hg := lexS_good s
  have hsm := lexS_small s
  unfold queryS at h ⊢
  rcases hx : lexS s with ⟨l, a, e⟩
  rw [hx] at h hg hsm
  dsimp only at h hg hsm ⊢
  by_cases he : e ≠ 0
  · rw [if_pos he] at h
    exact absurd h he
  · have he0 : e = 0 := by omega
    subst he0
    rw [if_neg he] at h ⊢
    have ha : a = 0 := by
      rcases hg with ⟨_, h2, _⟩ | ⟨h2, _⟩
      · exact h2
      · exact absurd rfl h2
    subst ha
    rcases hp : parseS l with ⟨ns, n, f⟩
    rw [hp] at h
    dsimp only at h ⊢
    by_cases hf : f = 0
    · subst hf
      rw [if_pos rfl]
      exact ⟨l, n, rfl, hp, hsm rfl⟩
    · rw [if_neg hf] at h
      split at h
      · exact absurd h hf
      · exact absurd h hf
theorem cut_law {s t : Bytes} {us : List Tk} {f : Nat → Nat → List Nd} (ht : (lexS (32 :: t)).2 = (0, 0) ∧ (lexS (32 :: t)).1.map tk = bar :: us) (hlen : us.length ≤ 20)
    (hstep : ∀ (b : Nat) (ns : List Nd), ∃ c, stepOf (pInner 16) (pCond 16) b us ns = .ok (c, [], ns ++ f b ns.length)) (h1 : (queryS s).2.2 = 0) (h2 : (queryS (s ++ 32 :: t)).2.2 = 0) :
    (queryS (s ++ 32 :: t)).1 = (queryS s).1 ++ f ((queryS s).1.length - 1) (queryS s).1.length ∧ (queryS s).1 ≠ [] ∧ (queryS (s ++ 32 :: t)).1.length ≤ 128 := by
  obtain ⟨xs, n, hx, hp, _⟩ := query_ok h1
  obtain ⟨zs, m, hz, hpz, hl⟩ := query_ok h2
  rcases hy : lexS (32 :: t) with ⟨ys, ay, ey⟩
  rw [hy] at ht
  dsimp only at ht
  obtain ⟨h3, h4⟩ := ht
  cases h3
  obtain ⟨zs', hz', hm⟩ := lex_more (b := 32) rfl hx hy hl
  rw [hz] at hz'
  cases hz'
  obtain ⟨b, hb, hxl, hbn, hne, _⟩ := parse_ok hp
  obtain ⟨b2, hb2, hzl, _, _, h128⟩ := parse_ok hpz
  refine ⟨?_, hne, h128⟩
  rw [hm, h4] at hb2
  have hzlen : zs.length = xs.length + (us.length + 1) := by
    have := congrArg List.length hm
    rw [List.length_append, List.length_map, List.length_map, h4] at this
    simpa using this
  obtain ⟨K', e1, e2⟩ := query_more (step := stepOf (pInner 16) (pCond 16)) (fun a => rel_step (rel_inner 16 0) (rel_pCond 16 0) fun _ => rfl) hb (us := bar :: us) ⟨rfl, rfl, rfl, rfl⟩ (by simp only [List.length_cons, List.length_map]; omega)
  obtain ⟨K0, rfl⟩ : ∃ K0, K' = K0 + 1 := ⟨K' - 1, by simp only [List.length_cons] at e2; omega⟩
  obtain ⟨c, hc⟩ := hstep b (queryS s).1
  have e3 : stepsGo (stepOf (pInner 16) (pCond 16)) (K0 + 1) b (bar :: us) (queryS s).1 = .ok (c, [], (queryS s).1 ++ f b (queryS s).1.length) := by
    rw [stepsGo_eq]
    show M.bind (stepOf (pInner 16) (pCond 16) b) (stepsGo (stepOf (pInner 16) (pCond 16)) K0) us (queryS s).1 = _
    unfold M.bind
    rw [hc]
    dsimp only
    cases K0 with
    | zero => rfl
    | succ K0 => rfl
  have e4 : pQuery 16 (xs.map tk ++ bar :: us) [] = .ok (c, [], (queryS s).1 ++ f b (queryS s).1.length) := e1.trans e3
  rw [e4] at hb2
  have := congrArg (fun x => match x with | .ok (_, _, q) => q | .error _ => []) hb2
  dsimp only at this
  rw [← this, hbn]
end Go.Proofs.YtlonkcmkgmbkcaaDoor.ParS
