/- Several texts of the proof, joined. -/
import Derived.Test.YtnaehhpikhlppaaGreatDoorD4
set_option maxHeartbeats 4000000
set_option linter.unusedVariables false
set_option linter.unusedSimpArgs false
namespace Go.Proofs.YtnaehhpikhlppaaGreatDoor.ParS
open LexS

def rowsOf (k : Nat) : Nat := if 2 ≤ k ∧ k ≤ 6 then 1 else if k = 7 ∨ k = 8 then 2 else 0
def condsOf (k : Nat) : Nat := if k = 2 ∨ k = 13 then 1 else if k = 11 ∨ k = 12 then 2 else 0
def known (k : Nat) : Prop := (1 ≤ k ∧ k ≤ 8) ∨ (11 ≤ k ∧ k ≤ 15)
/-- A node at i fits those ahead of it. -/
structure Fit (b : Nat) (ms : List Nd) (i : Nat) (nd : Nd) : Prop where
  kd : known nd.kind
  len : nd.l.length = rowsOf nd.kind + condsOf nd.kind
  below : ∀ j a, nd.l[j]? = some a → b ≤ a ∧ a < b + i ∧ ∃ c, ms[a - b]? = some c ∧ (rowsOf nd.kind ≤ j ↔ 11 ≤ c.kind)
  between : ∀ a, nd.l[0]? = some a → 2 ≤ nd.kind → nd.kind ≤ 6 → ∀ k c, a < b + k → k < i → ms[k]? = some c → 11 ≤ c.kind
  under : 11 ≤ nd.kind → ∀ (j a : Nat), nd.l[j]? = some a → ∀ k c, a < b + k → k < i → ms[k]? = some c → 11 ≤ c.kind
  order : ∀ a d, nd.l[0]? = some a → nd.l[1]? = some d → a < d
def Fits (b : Nat) (ms : List Nd) : Prop := ∀ i nd, ms[i]? = some nd → Fit b ms i nd
theorem some_lt {α : Type} {l : List α} {i : Nat} {x : α} (h : l[i]? = some x) : i < l.length := (List.getElem?_eq_some_iff.1 h).1
theorem Fit.more {b i : Nat} {ms us : List Nd} {nd : Nd} (h : Fit b ms i nd) (hi : i ≤ ms.length) : Fit b (ms ++ us) i nd := by
  refine ⟨h.kd, h.len, fun j a e => ?_, fun a e h1 h2 k c h3 h4 h5 => ?_, fun h1 j a e k c h3 h4 h5 => ?_, h.order⟩
  · obtain ⟨h1, h2, c, h3, h4⟩ := h.below j a e
    exact ⟨h1, h2, c, by rw [List.getElem?_append_left (some_lt h3)]; exact h3, h4⟩
  · rw [List.getElem?_append_left (by omega)] at h5
    exact h.between a e h1 h2 k c h3 h4 h5
  · rw [List.getElem?_append_left (by omega)] at h5
    exact h.under h1 j a e k c h3 h4 h5
theorem Fit.shift {b i : Nat} {ts us : List Nd} {nd : Nd} (h : Fit (b + ts.length) us i nd) : Fit b (ts ++ us) (ts.length + i) nd := by
  refine ⟨h.kd, h.len, fun j a e => ?_, fun a e h1 h2 k c h3 h4 h5 => ?_, fun h1 j a e k c h3 h4 h5 => ?_, h.order⟩
  · obtain ⟨h1, h2, c, h3, h4⟩ := h.below j a e
    refine ⟨by omega, by omega, c, ?_, h4⟩
    rw [List.getElem?_append_right (by omega), show a - b - ts.length = a - (b + ts.length) by omega]
    exact h3
  · have h6 := (h.below 0 a e).1
    rw [List.getElem?_append_right (by omega)] at h5
    exact h.between a e h1 h2 (k - ts.length) c (by omega) (by omega) h5
  · have h6 := (h.below j a e).1
    rw [List.getElem?_append_right (by omega)] at h5
    exact h.under h1 j a e (k - ts.length) c (by omega) (by omega) h5
theorem fits_last {b : Nat} {ms : List Nd} {n : Nd} (h : Fits b ms) (hn : Fit b ms ms.length n) : Fits b (ms ++ [n]) := by
  intro i nd hi
  by_cases hlt : i < ms.length
  · rw [List.getElem?_append_left hlt] at hi
    exact (h i nd hi).more (by omega)
  · rw [List.getElem?_append_right (by omega)] at hi
    have he : i - ms.length = 0 := by
      have := some_lt hi
      simp at this
      omega
    rw [he] at hi
    simp only [List.getElem?_cons_zero, Option.some.injEq] at hi
    subst hi
    have : i = ms.length := by omega
    subst this
    exact hn.more (Nat.le_refl _)
theorem fits_app {b : Nat} {ts us : List Nd} (h : Fits b ts) (k : Fits (b + ts.length) us) : Fits b (ts ++ us) := by
  intro i nd hi
  by_cases hlt : i < ts.length
  · rw [List.getElem?_append_left hlt] at hi
    exact (h i nd hi).more (by omega)
  · rw [List.getElem?_append_right (by omega)] at hi
    have := (k _ nd hi).shift
    rwa [show ts.length + (i - ts.length) = i by omega] at this
theorem ct_kinds {b : Nat} {ms : List Nd} (h : CT b ms) : ∀ nd ∈ ms, 11 ≤ nd.kind := by
  induction h with
  | leaf b n hk _ =>
    intro nd hm
    rw [List.mem_singleton] at hm
    subst hm
    omega
  | un b ts n _ hk _ ih =>
    intro nd hm
    rcases List.mem_append.1 hm with hm | hm
    · exact ih nd hm
    · rw [List.mem_singleton] at hm
      subst hm
      omega
  | bin b ts us n _ _ hk _ i1 i2 =>
    intro nd hm
    rcases List.mem_append.1 hm with hm | hm
    · rcases List.mem_append.1 hm with hm | hm
      · exact i1 nd hm
      · exact i2 nd hm
    · rw [List.mem_singleton] at hm
      subst hm
      omega
theorem ct_ne {b : Nat} {ms : List Nd} (h : CT b ms) : 0 < ms.length := List.length_pos_iff.2 (tree_ct h).ne
theorem qt_ne {b : Nat} {ms : List Nd} (h : QT b ms) : 0 < ms.length := List.length_pos_iff.2 (tree_qt h).ne
theorem ct_last {b : Nat} {ms : List Nd} (h : CT b ms) : ∃ c, ms[ms.length - 1]? = some c ∧ 11 ≤ c.kind := by
  have hl := ct_ne h
  exact ⟨ms[ms.length - 1], List.getElem?_eq_getElem (by omega), ct_kinds h _ (List.getElem_mem _)⟩
theorem last_one {ts : List Nd} {n : Nd} : (ts ++ [n])[(ts ++ [n]).length - 1]? = some n := by
  rw [List.length_append, List.length_singleton, Nat.add_sub_cancel, List.getElem?_append_right (Nat.le_refl _), Nat.sub_self]
  rfl
theorem qt_last {b : Nat} {ms : List Nd} (h : QT b ms) : ∃ c, ms[ms.length - 1]? = some c ∧ ¬ 11 ≤ c.kind := by
  cases h with
  | fetch _ n hk _ => exact ⟨n, rfl, by omega⟩
  | step _ ts n _ hk _ => exact ⟨n, last_one, by omega⟩
  | where_ _ ts us n _ _ hk _ => exact ⟨n, last_one, by omega⟩
  | join _ ts us n _ _ hk _ => exact ⟨n, last_one, by omega⟩
theorem fits_leaf {b : Nat} {n : Nd} (hk : n.kind = 1 ∨ n.kind = 14 ∨ n.kind = 15) (hl : n.l = []) : Fits b [n] := by
  have h : Fit b [] 0 n := by
    refine ⟨by unfold known; omega, ?_, fun j a e => ?_, fun a e => ?_, fun _ j a e => ?_, fun a d e => ?_⟩
    · rw [hl]
      unfold rowsOf condsOf
      rw [if_neg (by omega), if_neg (by omega), if_neg (by omega), if_neg (by omega)]
      rfl
    · rw [hl] at e; simp at e
    · rw [hl] at e; simp at e
    · rw [hl] at e; simp at e
    · rw [hl] at e; simp at e
  exact fits_last (ms := []) (fun i nd hi => by simp at hi) h
theorem fit_un {b : Nat} {ts : List Nd} {n c : Nd} (h0 : 0 < ts.length) (hc : ts[ts.length - 1]? = some c) (hk : (n.kind = 13 ∧ 11 ≤ c.kind) ∨ (3 ≤ n.kind ∧ n.kind ≤ 6 ∧ ¬ 11 ≤ c.kind)) (hl : n.l = [b + ts.length - 1]) : Fit b ts ts.length n := by
  refine ⟨by unfold known; omega, ?_, fun j a e => ?_, fun a e h1 h2 k c' h3 h4 h5 => ?_, fun h1 j a e k c' h3 h4 h5 => ?_, fun a d e e2 => ?_⟩
  · rw [hl]
    unfold rowsOf condsOf
    rcases hk with ⟨h1, _⟩ | ⟨h1, h2, _⟩
    · rw [h1]; rfl
    · rw [if_pos (by omega), if_neg (by omega), if_neg (by omega)]; rfl
  · rw [hl] at e
    have hj : j = 0 := by
      have := some_lt e
      simp at this
      exact this
    subst hj
    simp only [List.getElem?_cons_zero, Option.some.injEq] at e
    subst e
    refine ⟨by omega, by omega, c, by rw [show b + ts.length - 1 - b = ts.length - 1 by omega]; exact hc, ?_⟩
    unfold rowsOf
    rcases hk with ⟨h1, h2⟩ | ⟨h1, h2, h3⟩
    · rw [if_neg (by omega), if_neg (by omega)]; omega
    · rw [if_pos (by omega)]; omega
  · rw [hl] at e
    simp only [List.getElem?_cons_zero, Option.some.injEq] at e
    omega
  · rw [hl] at e
    have hj : j = 0 := by
      have := some_lt e
      simp at this
      exact this
    subst hj
    simp only [List.getElem?_cons_zero, Option.some.injEq] at e
    omega
  · rw [hl] at e2
    simp at e2
theorem fit_bin {b : Nat} {ts us : List Nd} {n c d : Nd} (h0 : 0 < ts.length) (h1 : 0 < us.length) (hc : ts[ts.length - 1]? = some c) (hd : us[us.length - 1]? = some d)
    (hk : ((n.kind = 11 ∨ n.kind = 12) ∧ 11 ≤ c.kind ∧ 11 ≤ d.kind ∧ ∀ x ∈ us, 11 ≤ x.kind) ∨ (n.kind = 2 ∧ ¬ 11 ≤ c.kind ∧ 11 ≤ d.kind ∧ ∀ x ∈ us, 11 ≤ x.kind) ∨ ((n.kind = 7 ∨ n.kind = 8) ∧ ¬ 11 ≤ c.kind ∧ ¬ 11 ≤ d.kind)) (hl : n.l = [b + ts.length - 1, b + ts.length + us.length - 1]) : Fit b (ts ++ us) (ts ++ us).length n := by
  have e0 : (ts ++ us)[ts.length - 1]? = some c := by rw [List.getElem?_append_left (by omega)]; exact hc
  have e1 : (ts ++ us)[ts.length + us.length - 1]? = some d := by rw [List.getElem?_append_right (by omega), show ts.length + us.length - 1 - ts.length = us.length - 1 by omega]; exact hd
  refine ⟨by unfold known; omega, ?_, fun j a e => ?_, fun a e k1 k2 k c' k3 k4 k5 => ?_, fun k1 j a e k c' k3 k4 k5 => ?_, fun a d' e e2 => ?_⟩
  · rw [hl]
    unfold rowsOf condsOf
    rcases hk with ⟨h1 | h1, _⟩ | ⟨h1, _⟩ | ⟨h1 | h1, _⟩ <;> rw [h1] <;> rfl
  · rw [hl] at e
    have hj : j = 0 ∨ j = 1 := by
      have := some_lt e
      simp at this
      omega
    rw [List.length_append]
    rcases hj with rfl | rfl
    · simp only [List.getElem?_cons_zero, Option.some.injEq] at e
      subst e
      refine ⟨by omega, by omega, c, by rw [show b + ts.length - 1 - b = ts.length - 1 by omega]; exact e0, ?_⟩
      unfold rowsOf
      rcases hk with ⟨h1, h2, _⟩ | ⟨h1, h2, _⟩ | ⟨h1, h2, _⟩
      · rw [if_neg (by omega), if_neg (by omega)]; omega
      · rw [if_pos (by omega)]; omega
      · rw [if_neg (by omega), if_pos (by omega)]; omega
    · simp only [List.getElem?_cons_succ, List.getElem?_cons_zero, Option.some.injEq] at e
      subst e
      refine ⟨by omega, by omega, d, by rw [show b + ts.length + us.length - 1 - b = ts.length + us.length - 1 by omega]; exact e1, ?_⟩
      unfold rowsOf
      rcases hk with ⟨h1, _, h2, _⟩ | ⟨h1, _, h2, _⟩ | ⟨h1, _, h2⟩
      · rw [if_neg (by omega), if_neg (by omega)]; omega
      · rw [if_pos (by omega)]; omega
      · rw [if_neg (by omega), if_pos (by omega)]; omega
  · rw [hl] at e
    simp only [List.getElem?_cons_zero, Option.some.injEq] at e
    rcases hk with ⟨h1, _, h2, _⟩ | ⟨h1, _, h2, h3⟩ | ⟨h1, _, h2⟩
    · omega
    · rw [List.length_append] at k4
      rw [List.getElem?_append_right (by omega)] at k5
      exact h3 c' (List.mem_of_getElem? k5)
    · omega
  · rcases hk with ⟨h1, _, h2, h3⟩ | ⟨h1, _, h2, h3⟩ | ⟨h1, _, h2⟩
    · rw [List.length_append] at k4
      have hge : ts.length ≤ k := by
        rw [hl] at e
        have hj : j = 0 ∨ j = 1 := by
          have := some_lt e
          simp at this
          omega
        rcases hj with rfl | rfl
        · simp only [List.getElem?_cons_zero, Option.some.injEq] at e
          omega
        · simp only [List.getElem?_cons_succ, List.getElem?_cons_zero, Option.some.injEq] at e
          omega
      rw [List.getElem?_append_right hge] at k5
      exact h3 c' (List.mem_of_getElem? k5)
    · omega
    · omega
  · rw [hl] at e e2
    simp only [List.getElem?_cons_zero, List.getElem?_cons_succ, Option.some.injEq] at e e2
    omega
theorem fits_ct {b : Nat} {ms : List Nd} (h : CT b ms) : Fits b ms := by
  induction h with
  | leaf b n hk hl => exact fits_leaf (by omega) hl
  | un b ts n h hk hl ih =>
    obtain ⟨c, hc, hk2⟩ := ct_last h
    exact fits_last ih (fit_un (ct_ne h) hc (.inl ⟨hk, hk2⟩) hl)
  | bin b ts us n h k hk hl i1 i2 =>
    obtain ⟨c, hc, hk2⟩ := ct_last h
    obtain ⟨d, hd, hk3⟩ := ct_last k
    exact fits_last (fits_app i1 i2) (fit_bin (ct_ne h) (ct_ne k) hc hd (.inl ⟨hk, hk2, hk3, ct_kinds k⟩) hl)
theorem fits_qt {b : Nat} {ms : List Nd} (h : QT b ms) : Fits b ms := by
  induction h with
  | fetch b n hk hl => exact fits_leaf (.inl hk) hl
  | step b ts n h hk hl ih =>
    obtain ⟨c, hc, hk2⟩ := qt_last h
    exact fits_last ih (fit_un (qt_ne h) hc (.inr ⟨by omega, by omega, hk2⟩) hl)
  | where_ b ts us n h k hk hl ih =>
    obtain ⟨c, hc, hk2⟩ := qt_last h
    obtain ⟨d, hd, hk3⟩ := ct_last k
    exact fits_last (fits_app ih (fits_ct k)) (fit_bin (qt_ne h) (ct_ne k) hc hd (.inr (.inl ⟨hk, hk2, hk3, ct_kinds k⟩)) hl)
  | join b ts us n h k hk hl i1 i2 =>
    obtain ⟨c, hc, hk2⟩ := qt_last h
    obtain ⟨d, hd, hk3⟩ := qt_last k
    exact fits_last (fits_app i1 i2) (fit_bin (qt_ne h) (qt_ne k) hc hd (.inr (.inr ⟨hk, hk2, hk3⟩)) hl)
end Go.Proofs.YtnaehhpikhlppaaGreatDoor.ParS
