/- A text that reads well, and a step behind it: what is read then. Plain lists, no program. -/
import Derived.Test.YtlonkcmkgmbkcaaDoorParX
import Derived.Test.YtlonkcmkgmbkcaaDoorParW
import Derived.Test.YtlonkcmkgmbkcaaDoorBlanksP
import Derived.Test.YtlonkcmkgmbkcaaDoorPlacesP
namespace Go.Proofs.YtlonkcmkgmbkcaaDoor.ParS
open LexS
set_option linter.unusedVariables false

theorem lexGo_shift : ∀ (k a : Nat) (r : Bytes) (acc xs : List Tok), lexGo k a r acc = (xs, 0, 0) → r.length < k → ∀ (k' a' : Nat) (acc' : List Tok), r.length < k' →
      ∃ us vs, lexGo k' a' r acc' = (acc' ++ us, 0, 0) ∧ xs = acc ++ vs ∧ us.map strip = vs.map strip
  | 0, _, _, _, _, _, hk => by omega
  | k + 1, a, r, acc, xs, h, hk => by
    intro k' a' acc' hk'
    match r, h, hk, hk' with
    | [], h, _, hk' =>
      have : xs = acc := by
        have : lexGo (k + 1) a [] acc = (acc, 0, 0) := rfl
        rw [this] at h
        exact (Prod.mk.inj h).1.symm
      match k', hk' with
      | k' + 1, _ => exact ⟨[], [], by simp [lexGo], by simp [this], rfl⟩
    | c :: r, h, hk, hk' =>
      simp only [List.length_cons] at hk hk'
      match k', hk' with
      | k' + 1, hk' =>
        unfold lexGo at h ⊢
        dsimp only at h ⊢
        by_cases hc : blankB c = true
        · rw [if_pos hc] at h ⊢
          exact lexGo_shift k _ r acc xs h (by omega) k' _ acc' (by omega)
        · rw [if_neg hc] at h ⊢
          by_cases hn : (oneS (c :: r)).2 = 0
          · rw [if_pos hn] at h
            simp at h
          · rw [if_neg hn] at h ⊢
            obtain ⟨us, vs, h1, h3, h4⟩ := lexGo_shift k _ _ _ xs h (by rw [List.length_drop, List.length_cons]; omega) k' (a' + (oneS (c :: r)).2) (acc' ++ [{ (oneS (c :: r)).1 with at_ := a' }]) (by rw [List.length_drop, List.length_cons]; omega)
            exact ⟨{ (oneS (c :: r)).1 with at_ := a' } :: us, { (oneS (c :: r)).1 with at_ := a } :: vs, by rw [h1]; simp, by rw [h3]; simp, by simp [h4, strip]⟩
theorem tk_strip : ∀ {xs ys : List Tok}, xs.map strip = ys.map strip → xs.map tk = ys.map tk
  | [], [], _ => rfl
  | [], y :: ys, h => by simp at h
  | x :: xs, [], h => by simp at h
  | x :: xs, y :: ys, h => by
    simp only [List.map_cons, List.cons.injEq] at h ⊢
    refine ⟨?_, tk_strip h.2⟩
    have h1 := congrArg tk h.1
    exact h1
/-- A text, and another one behind it that opens with a blank. -/
theorem lex_more {s t : Bytes} {b : UInt8} {xs ys : List Tok} (hb : blankB b = true) (hs : lexS s = (xs, 0, 0)) (ht : lexS (b :: t) = (ys, 0, 0)) (hl : (s ++ b :: t).length ≤ 2048) : ∃ zs, lexS (s ++ b :: t) = (zs, 0, 0) ∧ zs.map tk = xs.map tk ++ ys.map tk := by
  have hs' : lexGo (s.length + 1) 0 s [] = (xs, 0, 0) := by
    unfold lexS at hs
    split at hs
    · simp at hs
    · exact hs
  have ht' : lexGo ((b :: t).length + 1) 0 (b :: t) [] = (ys, 0, 0) := by
    unfold lexS at ht
    split at ht
    · simp at ht
    · exact ht
  unfold lexS
  rw [if_neg (by omega)]
  obtain ⟨us, vs, k2, a2, h2, g2, x2, m2⟩ := lexGo_ahead _ _ s [] xs hs' (by omega) b t ((s ++ b :: t).length + 1) 0 [] hb (by omega)
  obtain ⟨us2, vs2, h3, x3, m3⟩ := lexGo_shift _ _ (b :: t) [] ys ht' (by omega) k2 a2 ([] ++ us) g2
  refine ⟨us ++ us2, by rw [h2, h3]; simp, ?_⟩
  rw [List.map_append, tk_strip m2, tk_strip m3, x2, x3]
  simp
section
variable {step : Nat → M Nat}
theorem steps_more (hs : ∀ (a : Nat), Rel Quits True (step a) (step a)) : ∀ (k a : Nat) (ts : List Tk) (ns : List Nd) (b : Nat) (ns1 : List Nd), stepsGo step k a ts ns = .ok (b, [], ns1) → ts.length < k → ∀ (us : List Tk), Quits us → ∀ (K : Nat), us.length + ts.length < K →
    ∃ K', stepsGo step K a (ts ++ us) ns = stepsGo step K' b us ns1 ∧ us.length < K'
  | 0, a, ts, ns, b, ns1, h, hk => by omega
  | k + 1, a, ts, ns, b, ns1, h, hk => by
    intro us hu K hK
    rw [stepsGo_eq] at h
    dsimp only at h
    rcases hq : sees kw_bar ts with _ | ts1
    · rw [hq] at h
      cases h
      exact ⟨K, rfl, by simpa using hK⟩
    · rw [hq] at h
      obtain ⟨c, ts2, ns2, h1, h2⟩ := bind_ok h
      obtain ⟨l1, k1⟩ := hs a _ _ _ _ _ h1
      obtain ⟨a', n', e1, e2⟩ := k1 us (fun _ => hu) ns
      obtain ⟨rfl, rfl⟩ := e2 trivial rfl
      have hm := sees_more (us := us) hq
      have hl := hm.2
      obtain ⟨K0, rfl⟩ : ∃ K0, K = K0 + 1 := ⟨K - 1, by omega⟩
      obtain ⟨K', e3, e4⟩ := steps_more hs k a' ts2 n' b ns1 h2 (by omega) us hu K0 (by omega)
      refine ⟨K', ?_, e4⟩
      rw [stepsGo_eq, ← e3]
      dsimp only
      rw [hm.1]
      dsimp only
      unfold M.bind
      rw [e1]
theorem query_more (hs : ∀ (a : Nat), Rel Quits True (step a) (step a)) {ts : List Tk} {ns : List Nd} {b : Nat} {ns1 : List Nd} (h : queryOf step ts ns = .ok (b, [], ns1)) {us : List Tk} (hu : Quits us) (hl : us.length + ts.length ≤ 1024) :
    ∃ K', queryOf step (ts ++ us) ns = stepsGo step K' b us ns1 ∧ us.length < K' := by
  unfold queryOf at h
  obtain ⟨x1, t1, n1, h1, g1⟩ := bind_ok h
  obtain ⟨x2, t2, n2, h2, g2⟩ := bind_ok g1
  obtain ⟨x3, t3, n3, h3, g3⟩ := bind_ok g2
  obtain ⟨x4, t4, n4, h4, g4⟩ := bind_ok g3
  obtain ⟨l1, k1⟩ := rel_wants (S := Quits) (e := True) _ _ _ _ _ _ h1
  obtain ⟨l2, k2⟩ := rel_take (S := Quits) (e := True) _ _ _ _ _ _ h2
  obtain ⟨l3, k3⟩ := rel_times (e := True) _ _ _ _ _ h3
  obtain ⟨y1, m1, e1, f1⟩ := k1 us (fun _ => hu) ns
  obtain ⟨rfl, rfl⟩ := f1 trivial rfl
  obtain ⟨y2, m2, e2, f2⟩ := k2 us (fun _ => hu) _
  obtain ⟨rfl, rfl⟩ := f2 trivial rfl
  obtain ⟨y3, m3, e3, f3⟩ := k3 us (fun _ => hu) _
  obtain ⟨rfl, rfl⟩ := f3 trivial rfl
  cases h4
  obtain ⟨K', e5, e6⟩ := steps_more hs _ _ _ _ _ _ g4 (by unfold fuel; omega) us hu fuel (by unfold fuel; omega)
  refine ⟨K', ?_, e6⟩
  rw [← e5]
  unfold queryOf M.bind
  rw [e1]
  dsimp only
  rw [e2]
  dsimp only
  rw [e3]
  rfl
end
end Go.Proofs.YtlonkcmkgmbkcaaDoor.ParS
