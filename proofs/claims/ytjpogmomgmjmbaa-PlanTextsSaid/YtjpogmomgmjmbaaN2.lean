/- What a query's nodes are like, of which each names others: kinds, and what stands between. Plain lists, no program. Which node names which, and how a query is split into parts and the rest. Plain lists, no program. Words on memory for these claims: a block that is known whole; bytes of a text. The walks of the lexers' small functions: letters, digits, inner signs; how many bytes a text begins with that are so. The walk of lex.text: it reads a text as the plain lexer does. What the lexer leans on in memory; the walk of lex.sign. The walk of lex.number: a number is read as the plain lexer reads it. The walk of lex.one: the token at a text's front is read as the plain lexer reads it. -/
import Derived.Test.YtjpogmomgmjmbaaN1
import Derived.Below
import Derived.Laws.OwnMore
import Derived.Deep.Draws
import Derived.Laws.Rows
import Derived.WalkKit
import Derived.LoopTactic
import Derived.BigQuiet
import Derived.Outline
import Derived.Lib.Hide
import Derived.Deep.DeepCutAuto
import Derived.Deep.RegionHeld3
import Derived.Deep.LoopGhost
import Derived.Test.YtjpogmomgmjmbaaProg
import Derived.Lib.Builder
import Derived.Laws.Externs
import Derived.Lib.UnsafeStr
import Derived.WalkSmall
import Derived.Sort.Grow
/-! What a query's nodes are like, of which each names others: kinds, and what stands between. Plain lists, no program. -/
namespace Go.Proofs.Ytjpogmomgmjmbaa.ParS
open LexS
set_option linter.unusedVariables false

def rowsOf (k : Nat) : Nat := if 2 ≤ k ∧ k ≤ 6 then 1 else if k = 7 ∨ k = 8 then 2 else 0
def condsOf (k : Nat) : Nat := if k = 2 ∨ k = 13 then 1 else if k = 11 ∨ k = 12 then 2 else 0
def known (k : Nat) : Prop := (1 ≤ k ∧ k ≤ 8) ∨ (11 ≤ k ∧ k ≤ 15)
/-- A node at i fits those ahead of it. -/
structure Fit (b : Nat) (ms : List Nd) (i : Nat) (nd : Nd) : Prop where
  kd : known nd.kind
  len : nd.l.length = rowsOf nd.kind + condsOf nd.kind
  below : ∀ j a, nd.l[j]? = some a → b ≤ a ∧ a < b + i ∧ ∃ c, ms[a - b]? = some c ∧ (rowsOf nd.kind ≤ j ↔ 11 ≤ c.kind)
  between : ∀ a, nd.l[0]? = some a → 2 ≤ nd.kind → nd.kind ≤ 6 → ∀ k c, a < b + k → k < i → ms[k]? = some c → 11 ≤ c.kind
  under : 11 ≤ nd.kind → ∀ (j a : Nat), nd.l[j]? = some a → ∀ k c, a < b + k → k < i → ms[k]? = some c → 11 ≤ c.kind
  order : ∀ a d, nd.l[0]? = some a → nd.l[1]? = some d → a < d
def Fits (b : Nat) (ms : List Nd) : Prop := ∀ i nd, ms[i]? = some nd → Fit b ms i nd
theorem some_lt {α : Type} {l : List α} {i : Nat} {x : α} (h : l[i]? = some x) : i < l.length := (List.getElem?_eq_some_iff.1 h).1
theorem Fit.more {b i : Nat} {ms us : List Nd} {nd : Nd} (h : Fit b ms i nd) (hi : i ≤ ms.length) : Fit b (ms ++ us) i nd := by
  refine ⟨h.kd, h.len, fun j a e => ?_, fun a e h1 h2 k c h3 h4 h5 => ?_, fun h1 j a e k c h3 h4 h5 => ?_, h.order⟩
  · obtain ⟨h1, h2, c, h3, h4⟩ := h.below j a e
    exact ⟨h1, h2, c, by rw [List.getElem?_append_left (some_lt h3)]; exact h3, h4⟩
  · rw [List.getElem?_append_left (by omega)] at h5
    exact h.between a e h1 h2 k c h3 h4 h5
  · rw [List.getElem?_append_left (by omega)] at h5
    exact h.under h1 j a e k c h3 h4 h5
theorem Fit.shift {b i : Nat} {ts us : List Nd} {nd : Nd} (h : Fit (b + ts.length) us i nd) : Fit b (ts ++ us) (ts.length + i) nd := by
  refine ⟨h.kd, h.len, fun j a e => ?_, fun a e h1 h2 k c h3 h4 h5 => ?_, fun h1 j a e k c h3 h4 h5 => ?_, h.order⟩
  · obtain ⟨h1, h2, c, h3, h4⟩ := h.below j a e
    refine ⟨by omega, by omega, c, ?_, h4⟩
    rw [List.getElem?_append_right (by omega), show a - b - ts.length = a - (b + ts.length) by omega]
    exact h3
  · have h6 := (h.below 0 a e).1
    rw [List.getElem?_append_right (by omega)] at h5
    exact h.between a e h1 h2 (k - ts.length) c (by omega) (by omega) h5
  · have h6 := (h.below j a e).1
    rw [List.getElem?_append_right (by omega)] at h5
    exact h.under h1 j a e (k - ts.length) c (by omega) (by omega) h5
theorem fits_last {b : Nat} {ms : List Nd} {n : Nd} (h : Fits b ms) (hn : Fit b ms ms.length n) : Fits b (ms ++ [n]) := by
  intro i nd hi
  by_cases hlt : i < ms.length
  · rw [List.getElem?_append_left hlt] at hi
    exact (h i nd hi).more (by omega)
  · rw [List.getElem?_append_right (by omega)] at hi
    have he : i - ms.length = 0 := by
      have := some_lt hi
      simp at this
      omega
    rw [he] at hi
    simp only [List.getElem?_cons_zero, Option.some.injEq] at hi
    subst hi
    have : i = ms.length := by omega
    subst this
    exact hn.more (Nat.le_refl _)
theorem fits_app {b : Nat} {ts us : List Nd} (h : Fits b ts) (k : Fits (b + ts.length) us) : Fits b (ts ++ us) := by
  intro i nd hi
  by_cases hlt : i < ts.length
  · rw [List.getElem?_append_left hlt] at hi
    exact (h i nd hi).more (by omega)
  · rw [List.getElem?_append_right (by omega)] at hi
    have := (k _ nd hi).shift
    rwa [show ts.length + (i - ts.length) = i by omega] at this
theorem ct_kinds {b : Nat} {ms : List Nd} (h : CT b ms) : ∀ nd ∈ ms, 11 ≤ nd.kind := by
  induction h with
  | leaf b n hk _ =>
    intro nd hm
    rw [List.mem_singleton] at hm
    subst hm
    omega
  | un b ts n _ hk _ ih =>
    intro nd hm
    rcases List.mem_append.1 hm with hm | hm
    · exact ih nd hm
    · rw [List.mem_singleton] at hm
      subst hm
      omega
  | bin b ts us n _ _ hk _ i1 i2 =>
    intro nd hm
    rcases List.mem_append.1 hm with hm | hm
    · rcases List.mem_append.1 hm with hm | hm
      · exact i1 nd hm
      · exact i2 nd hm
    · rw [List.mem_singleton] at hm
      subst hm
      omega
theorem ct_ne {b : Nat} {ms : List Nd} (h : CT b ms) : 0 < ms.length := List.length_pos_iff.2 (tree_ct h).ne
theorem qt_ne {b : Nat} {ms : List Nd} (h : QT b ms) : 0 < ms.length := List.length_pos_iff.2 (tree_qt h).ne
theorem ct_last {b : Nat} {ms : List Nd} (h : CT b ms) : ∃ c, ms[ms.length - 1]? = some c ∧ 11 ≤ c.kind := by
  have hl := ct_ne h
  exact ⟨ms[ms.length - 1], List.getElem?_eq_getElem (by omega), ct_kinds h _ (List.getElem_mem _)⟩
theorem last_one {ts : List Nd} {n : Nd} : (ts ++ [n])[(ts ++ [n]).length - 1]? = some n := by
  rw [List.length_append, List.length_singleton, Nat.add_sub_cancel, List.getElem?_append_right (Nat.le_refl _), Nat.sub_self]
  rfl
theorem qt_last {b : Nat} {ms : List Nd} (h : QT b ms) : ∃ c, ms[ms.length - 1]? = some c ∧ ¬ 11 ≤ c.kind := by
  cases h with
  | fetch _ n hk _ => exact ⟨n, rfl, by omega⟩
  | step _ ts n _ hk _ => exact ⟨n, last_one, by omega⟩
  | where_ _ ts us n _ _ hk _ => exact ⟨n, last_one, by omega⟩
  | join _ ts us n _ _ hk _ => exact ⟨n, last_one, by omega⟩
theorem fits_leaf {b : Nat} {n : Nd} (hk : n.kind = 1 ∨ n.kind = 14 ∨ n.kind = 15) (hl : n.l = []) : Fits b [n] := by
  have h : Fit b [] 0 n := by
    refine ⟨by unfold known; omega, ?_, fun j a e => ?_, fun a e => ?_, fun _ j a e => ?_, fun a d e => ?_⟩
    · rw [hl]
      unfold rowsOf condsOf
      rw [if_neg (by omega), if_neg (by omega), if_neg (by omega), if_neg (by omega)]
      rfl
    · rw [hl] at e; simp at e
    · rw [hl] at e; simp at e
    · rw [hl] at e; simp at e
    · rw [hl] at e; simp at e
  exact fits_last (ms := []) (fun i nd hi => by simp at hi) h
theorem fit_un {b : Nat} {ts : List Nd} {n c : Nd} (h0 : 0 < ts.length) (hc : ts[ts.length - 1]? = some c) (hk : (n.kind = 13 ∧ 11 ≤ c.kind) ∨ (3 ≤ n.kind ∧ n.kind ≤ 6 ∧ ¬ 11 ≤ c.kind)) (hl : n.l = [b + ts.length - 1]) : Fit b ts ts.length n := by
  refine ⟨by unfold known; omega, ?_, fun j a e => ?_, fun a e h1 h2 k c' h3 h4 h5 => ?_, fun h1 j a e k c' h3 h4 h5 => ?_, fun a d e e2 => ?_⟩
  · rw [hl]
    unfold rowsOf condsOf
    rcases hk with ⟨h1, _⟩ | ⟨h1, h2, _⟩
    · rw [h1]; rfl
    · rw [if_pos (by omega), if_neg (by omega), if_neg (by omega)]; rfl
  · rw [hl] at e
    have hj : j = 0 := by
      have := some_lt e
      simp at this
      exact this
    subst hj
    simp only [List.getElem?_cons_zero, Option.some.injEq] at e
    subst e
    refine ⟨by omega, by omega, c, by rw [show b + ts.length - 1 - b = ts.length - 1 by omega]; exact hc, ?_⟩
    unfold rowsOf
    rcases hk with ⟨h1, h2⟩ | ⟨h1, h2, h3⟩
    · rw [if_neg (by omega), if_neg (by omega)]; omega
    · rw [if_pos (by omega)]; omega
  · rw [hl] at e
    simp only [List.getElem?_cons_zero, Option.some.injEq] at e
    omega
  · rw [hl] at e
    have hj : j = 0 := by
      have := some_lt e
      simp at this
      exact this
    subst hj
    simp only [List.getElem?_cons_zero, Option.some.injEq] at e
    omega
  · rw [hl] at e2
    simp at e2
theorem fit_bin {b : Nat} {ts us : List Nd} {n c d : Nd} (h0 : 0 < ts.length) (h1 : 0 < us.length) (hc : ts[ts.length - 1]? = some c) (hd : us[us.length - 1]? = some d)
    (hk : ((n.kind = 11 ∨ n.kind = 12) ∧ 11 ≤ c.kind ∧ 11 ≤ d.kind ∧ ∀ x ∈ us, 11 ≤ x.kind) ∨ (n.kind = 2 ∧ ¬ 11 ≤ c.kind ∧ 11 ≤ d.kind ∧ ∀ x ∈ us, 11 ≤ x.kind) ∨ ((n.kind = 7 ∨ n.kind = 8) ∧ ¬ 11 ≤ c.kind ∧ ¬ 11 ≤ d.kind)) (hl : n.l = [b + ts.length - 1, b + ts.length + us.length - 1]) : Fit b (ts ++ us) (ts ++ us).length n := by
  have e0 : (ts ++ us)[ts.length - 1]? = some c := by rw [List.getElem?_append_left (by omega)]; exact hc
  have e1 : (ts ++ us)[ts.length + us.length - 1]? = some d := by rw [List.getElem?_append_right (by omega), show ts.length + us.length - 1 - ts.length = us.length - 1 by omega]; exact hd
  refine ⟨by unfold known; omega, ?_, fun j a e => ?_, fun a e k1 k2 k c' k3 k4 k5 => ?_, fun k1 j a e k c' k3 k4 k5 => ?_, fun a d' e e2 => ?_⟩
  · rw [hl]
    unfold rowsOf condsOf
    rcases hk with ⟨h1 | h1, _⟩ | ⟨h1, _⟩ | ⟨h1 | h1, _⟩ <;> rw [h1] <;> rfl
  · rw [hl] at e
    have hj : j = 0 ∨ j = 1 := by
      have := some_lt e
      simp at this
      omega
    rw [List.length_append]
    rcases hj with rfl | rfl
    · simp only [List.getElem?_cons_zero, Option.some.injEq] at e
      subst e
      refine ⟨by omega, by omega, c, by rw [show b + ts.length - 1 - b = ts.length - 1 by omega]; exact e0, ?_⟩
      unfold rowsOf
      rcases hk with ⟨h1, h2, _⟩ | ⟨h1, h2, _⟩ | ⟨h1, h2, _⟩
      · rw [if_neg (by omega), if_neg (by omega)]; omega
      · rw [if_pos (by omega)]; omega
      · rw [if_neg (by omega), if_pos (by omega)]; omega
    · simp only [List.getElem?_cons_succ, List.getElem?_cons_zero, Option.some.injEq] at e
      subst e
      refine ⟨by omega, by omega, d, by rw [show b + ts.length + us.length - 1 - b = ts.length + us.length - 1 by omega]; exact e1, ?_⟩
      unfold rowsOf
      rcases hk with ⟨h1, _, h2, _⟩ | ⟨h1, _, h2, _⟩ | ⟨h1, _, h2⟩
      · rw [if_neg (by omega), if_neg (by omega)]; omega
      · rw [if_pos (by omega)]; omega
      · rw [if_neg (by omega), if_pos (by omega)]; omega
  · rw [hl] at e
    simp only [List.getElem?_cons_zero, Option.some.injEq] at e
    rcases hk with ⟨h1, _, h2, _⟩ | ⟨h1, _, h2, h3⟩ | ⟨h1, _, h2⟩
    · omega
    · rw [List.length_append] at k4
      rw [List.getElem?_append_right (by omega)] at k5
      exact h3 c' (List.mem_of_getElem? k5)
    · omega
  · rcases hk with ⟨h1, _, h2, h3⟩ | ⟨h1, _, h2, h3⟩ | ⟨h1, _, h2⟩
    · rw [List.length_append] at k4
      have hge : ts.length ≤ k := by
        rw [hl] at e
        have hj : j = 0 ∨ j = 1 := by
          have := some_lt e
          simp at this
          omega
        rcases hj with rfl | rfl
        · simp only [List.getElem?_cons_zero, Option.some.injEq] at e
          omega
        · simp only [List.getElem?_cons_succ, List.getElem?_cons_zero, Option.some.injEq] at e
          omega
      rw [List.getElem?_append_right hge] at k5
      exact h3 c' (List.mem_of_getElem? k5)
    · omega
    · omega
  · rw [hl] at e e2
    simp only [List.getElem?_cons_zero, List.getElem?_cons_succ, Option.some.injEq] at e e2
    omega
theorem fits_ct {b : Nat} {ms : List Nd} (h : CT b ms) : Fits b ms := by
  induction h with
  | leaf b n hk hl => exact fits_leaf (by omega) hl
  | un b ts n h hk hl ih =>
    obtain ⟨c, hc, hk2⟩ := ct_last h
    exact fits_last ih (fit_un (ct_ne h) hc (.inl ⟨hk, hk2⟩) hl)
  | bin b ts us n h k hk hl i1 i2 =>
    obtain ⟨c, hc, hk2⟩ := ct_last h
    obtain ⟨d, hd, hk3⟩ := ct_last k
    exact fits_last (fits_app i1 i2) (fit_bin (ct_ne h) (ct_ne k) hc hd (.inl ⟨hk, hk2, hk3, ct_kinds k⟩) hl)
theorem fits_qt {b : Nat} {ms : List Nd} (h : QT b ms) : Fits b ms := by
  induction h with
  | fetch b n hk hl => exact fits_leaf (.inl hk) hl
  | step b ts n h hk hl ih =>
    obtain ⟨c, hc, hk2⟩ := qt_last h
    exact fits_last ih (fit_un (qt_ne h) hc (.inr ⟨by omega, by omega, hk2⟩) hl)
  | where_ b ts us n h k hk hl ih =>
    obtain ⟨c, hc, hk2⟩ := qt_last h
    obtain ⟨d, hd, hk3⟩ := ct_last k
    exact fits_last (fits_app ih (fits_ct k)) (fit_bin (qt_ne h) (ct_ne k) hc hd (.inr (.inl ⟨hk, hk2, hk3, ct_kinds k⟩)) hl)
  | join b ts us n h k hk hl i1 i2 =>
    obtain ⟨c, hc, hk2⟩ := qt_last h
    obtain ⟨d, hd, hk3⟩ := qt_last k
    exact fits_last (fits_app i1 i2) (fit_bin (qt_ne h) (qt_ne k) hc hd (.inr (.inr ⟨hk, hk2, hk3⟩)) hl)
end Go.Proofs.Ytjpogmomgmjmbaa.ParS

/-! Which node names which, and how a query is split into parts and the rest. Plain lists, no program. -/
namespace Go.Proofs.Ytjpogmomgmjmbaa.ParS
open LexS
set_option linter.unusedVariables false

/-- The node i names those of l. -/
def byStep (i : Nat) (l : List Nat) (p : List Int) : List Int := l.foldl (fun p a => p.set a (i : Int)) p
/-- By which node each is named, once the first i were looked at; -1: by none. -/
def byP (ns : List Nd) : Nat → List Int
  | 0 => List.replicate ns.length (-1)
  | i + 1 => byStep i ((ns[i]?.map (·.l)).getD []) (byP ns i)
def byS (ns : List Nd) : List Int := byP ns ns.length
theorem byStep_len (i : Nat) : ∀ (l : List Nat) (p : List Int), (byStep i l p).length = p.length
  | [], p => rfl
  | a :: l, p => by
    show (byStep i l (p.set a (i : Int))).length = _
    rw [byStep_len i l, List.length_set]
theorem byP_len (ns : List Nd) : ∀ i, (byP ns i).length = ns.length
  | 0 => by simp [byP]
  | i + 1 => by
    show (byStep i _ (byP ns i)).length = _
    rw [byStep_len, byP_len ns i]
theorem byStep_get (i : Nat) : ∀ (l : List Nat) (p : List Int) (a : Nat), a < p.length → (byStep i l p)[a]? = if a ∈ l then some (i : Int) else p[a]?
  | [], p, a, h => by simp [byStep]
  | b :: l, p, a, h => by
    show (byStep i l (p.set b (i : Int)))[a]? = _
    rw [byStep_get i l _ a (by rw [List.length_set]; exact h)]
    by_cases h1 : a ∈ l
    · rw [if_pos h1, if_pos (by simp [h1])]
    · rw [if_neg h1]
      by_cases h2 : a = b
      · subst h2
        rw [if_pos (by simp), List.getElem?_set_self h]
      · rw [if_neg (by simp [h1, h2]), List.getElem?_set_ne (fun e => h2 e.symm)]
theorem byStep_app (i : Nat) (l m : List Nat) (p : List Int) : byStep i (l ++ m) p = byStep i m (byStep i l p) := by
  unfold byStep
  rw [List.foldl_append]
/-- Nobody among the first i names a. -/
def Free (ns : List Nd) (i a : Nat) : Prop := ∀ p nd, p < i → ns[p]? = some nd → a ∉ nd.l
/-- p names a. -/
def Names (ns : List Nd) (p a : Nat) : Prop := ∃ nd, ns[p]? = some nd ∧ a ∈ nd.l
theorem byP_inv (ns : List Nd) : ∀ i, i ≤ ns.length → ∀ a, a < ns.length → (Free ns i a ∧ (byP ns i)[a]? = some (-1)) ∨ ∃ p, p < i ∧ Names ns p a ∧ (byP ns i)[a]? = some (p : Int)
  | 0, _, a, ha => .inl ⟨fun p nd h => by omega, by simp [byP, ha]⟩
  | i + 1, hi, a, ha => by
    have e : ns[i]? = some ns[i] := List.getElem?_eq_getElem (by omega)
    have e2 : (byP ns (i + 1))[a]? = if a ∈ ns[i].l then some (i : Int) else (byP ns i)[a]? := by
      show (byStep i ((ns[i]?.map (·.l)).getD []) (byP ns i))[a]? = _
      rw [e]
      exact byStep_get i _ _ a (by rw [byP_len]; exact ha)
    by_cases h : a ∈ ns[i].l
    · rw [if_pos h] at e2
      exact .inr ⟨i, by omega, ⟨_, e, h⟩, e2⟩
    · rw [if_neg h] at e2
      rcases byP_inv ns i (by omega) a ha with ⟨h1, h2⟩ | ⟨p, h1, h2, h3⟩
      · refine .inl ⟨fun p nd hp hn => ?_, by rw [e2]; exact h2⟩
        by_cases hpi : p = i
        · subst hpi
          rw [e] at hn
          injection hn with hn
          rw [← hn]
          exact h
        · exact h1 p nd (by omega) hn
      · exact .inr ⟨p, by omega, h2, by rw [e2]; exact h3⟩
theorem count_flat {ns : List Nd} {p a : Nat} {nd : Nd} (h : ns[p]? = some nd) : (named ns).count a = (named (ns.take p)).count a + nd.l.count a + (named (ns.drop (p + 1))).count a := by
  obtain ⟨hl, rfl⟩ := List.getElem?_eq_some_iff.1 h
  have e : ns = ns.take p ++ [ns[p]] ++ ns.drop (p + 1) := by
    rw [List.append_assoc, List.singleton_append, ← List.drop_eq_getElem_cons hl, List.take_append_drop]
  conv => lhs; rw [e]
  rw [named_app, named_app, named_one, List.count_append, List.count_append]
theorem count_pos_of {ns : List Nd} {a : Nat} (h : 0 < (named ns).count a) : ∃ p, p < ns.length ∧ Names ns p a := by
  have h1 := List.count_pos_iff.1 h
  unfold named at h1
  obtain ⟨nd, h2, h3⟩ := List.mem_flatMap.1 h1
  obtain ⟨p, hp, e⟩ := List.getElem_of_mem h2
  exact ⟨p, hp, nd, by rw [List.getElem?_eq_getElem hp, e], h3⟩
theorem names_count {ns : List Nd} {p a : Nat} (h : Names ns p a) : 0 < (named ns).count a := by
  obtain ⟨nd, h1, h2⟩ := h
  rw [count_flat h1]
  have := List.count_pos_iff.2 h2
  omega
section
variable {ns : List Nd} (ht : Tree 0 ns)
include ht
theorem once_le (a : Nat) : (named ns).count a ≤ 1 := by
  rw [ht.once]
  split <;> omega
theorem names_lt {p a : Nat} (h : Names ns p a) : a < p ∧ p < ns.length ∧ a + 1 < ns.length := by
  obtain ⟨nd, h1, h2⟩ := h
  have h3 := ht.ahead p nd h1 a h2
  have h4 := some_lt h1
  omega
/-- A node that names a at its place j finds it free. -/
theorem free_here {i : Nat} {nd : Nd} (h : ns[i]? = some nd) {j a : Nat} (hj : nd.l[j]? = some a) : Free ns i a ∧ a ∉ nd.l.take j := by
  have h1 := once_le ht a
  rw [count_flat h] at h1
  have hmem : a ∈ nd.l := List.mem_of_getElem? hj
  have h2 := List.count_pos_iff.2 hmem
  refine ⟨fun p pd hp hpn hin => ?_, fun hin => ?_⟩
  · have h3 : 0 < (named (ns.take i)).count a := names_count (p := p) ⟨pd, by rw [List.getElem?_take_of_lt hp]; exact hpn, hin⟩
    omega
  · obtain ⟨hl, e⟩ := List.getElem?_eq_some_iff.1 hj
    have h3 : nd.l = nd.l.take j ++ (a :: nd.l.drop (j + 1)) := by
      rw [← e, ← List.drop_eq_getElem_cons hl, List.take_append_drop]
    have h4 := List.count_pos_iff.2 hin
    have h5 : nd.l.count a = (nd.l.take j).count a + (1 + (nd.l.drop (j + 1)).count a) := by
      conv => lhs; rw [h3]
      rw [List.count_append, List.count_cons_self]
      omega
    omega
/-- Where it is looked for: nobody named it yet. -/
theorem by_free {i : Nat} {nd : Nd} (h : ns[i]? = some nd) {j a : Nat} (hj : nd.l[j]? = some a) : (byStep i (nd.l.take j) (byP ns i))[a]? = some (-1) := by
  obtain ⟨h1, h2⟩ := free_here ht h hj
  have hlt := names_lt ht ⟨nd, h, List.mem_of_getElem? hj⟩
  rw [byStep_get i _ _ a (by rw [byP_len]; omega), if_neg h2]
  rcases byP_inv ns i (by omega) a (by omega) with ⟨_, h3⟩ | ⟨p, h3, ⟨pd, h4, h5⟩, _⟩
  · exact h3
  · exact absurd h5 (h1 p pd h3 h4)
/-- In the end each but the last one is named, by one behind it. -/
theorem by_end {a : Nat} (h : a + 1 < ns.length) : ∃ p, Names ns p a ∧ a < p ∧ p < ns.length ∧ (byS ns)[a]? = some (p : Int) := by
  rcases byP_inv ns ns.length (Nat.le_refl _) a (by omega) with ⟨h1, _⟩ | ⟨p, h1, h2, h3⟩
  · exfalso
    have h2 := ht.once a
    rw [if_pos (by omega)] at h2
    obtain ⟨p, h3, pd, h4, h5⟩ := count_pos_of (ns := ns) (a := a) (by omega)
    exact h1 p pd h3 h4 h5
  · have := names_lt ht h2
    exact ⟨p, h2, this.1, this.2.1, h3⟩
theorem by_last {a : Nat} (h : a + 1 = ns.length) : (byS ns)[a]? = some (-1) := by
  rcases byP_inv ns ns.length (Nat.le_refl _) a (by omega) with ⟨_, h2⟩ | ⟨p, _, h2, _⟩
  · exact h2
  · have := names_lt ht h2
    omega
end

/-! How it is split. -/
def kindAt (ns : List Nd) (a : Nat) : Nat := (ns[a]?.map (·.kind)).getD 0
/-- Whether a part that has come to a goes on, and whether it ends there. -/
def goesP (ns : List Nd) (push : Bool) (a : Nat) : Bool × Bool := match (byS ns)[a]? with
  | none => (false, false)
  | some q => if q < 0 then (false, false) else match ns[q.toNat]? with
    | none => (false, false)
    | some nd => if nd.l[0]? = some a then
        (if nd.kind = 2 then (push || decide (kindAt ns a = 1), false) else if nd.kind = 3 ∨ nd.kind = 4 then (push, false) else if nd.kind = 5 ∨ nd.kind = 6 then (push, true) else (false, false))
      else (false, false)
def upP (ns : List Nd) (a : Nat) : Nat := (((byS ns)[a]?).getD 0).toNat
/-- The nodes of a part, from a on (ends: a is the last one). -/
def chainP (ns : List Nd) (push : Bool) : Nat → Nat → Bool → List Nat
  | 0, a, _ => [a]
  | f + 1, a, true => [a]
  | f + 1, a, false => match goesP ns push a with
    | (true, e) => a :: chainP ns push f (upP ns a) e
    | (false, _) => [a]
def chainS (ns : List Nd) (push : Bool) (a : Nat) : List Nat := chainP ns push ns.length a false
def setAll (k : Int) (l : List Nat) (p : List Int) : List Int := l.foldl (fun p a => p.set a k) p
/-- Which part each node is in, and the parts' last nodes, once the first i were looked at. -/
def fetchP (ns : List Nd) (push : Bool) : Nat → List Int × List Nat
  | 0 => (List.replicate ns.length (-1), [])
  | i + 1 => if kindAt ns i = 1 then (setAll ((fetchP ns push i).2.length : Int) (chainS ns push i) (fetchP ns push i).1, (fetchP ns push i).2 ++ [(chainS ns push i).getLast?.getD i]) else fetchP ns push i
/-- Conditions are where the node is that names them. -/
def condP (ns : List Nd) : Nat → List Int → List Int
  | 0, p => p
  | i + 1, p => condP ns i (if 11 ≤ kindAt ns i then p.set i ((p[upP ns i]?).getD (-1)) else p)
def partS (ns : List Nd) (push : Bool) : List Int := condP ns ns.length (fetchP ns push ns.length).1
def lastS (ns : List Nd) (push : Bool) : List Nat := (fetchP ns push ns.length).2
/-- Some of the nodes, with their new numbers. -/
def takeP (ns : List Nd) (so : Nat → Bool) (made : Nat → Nd) : Nat → List Nat × List Nd
  | 0 => (List.replicate ns.length 0, [])
  | i + 1 => if so i then ((takeP ns so made i).1.set i (takeP ns so made i).2.length, (takeP ns so made i).2 ++ [{ made i with l := (made i).l.map fun a => ((takeP ns so made i).1[a]?).getD 0 }]) else takeP ns so made i
def nodeAt (ns : List Nd) (i : Nat) : Nd := (ns[i]?).getD (node 0 [])
def partAt (ns : List Nd) (push : Bool) (i : Nat) : Int := ((partS ns push)[i]?).getD (-1)
def inPart (ns : List Nd) (push : Bool) (k : Nat) (i : Nat) : Bool := decide (partAt ns push i = (k : Int))
def inRest (ns : List Nd) (push : Bool) (i : Nat) : Bool := decide (partAt ns push i < 0) || decide ((lastS ns push)[(partAt ns push i).toNat]? = some i)
def restNode (ns : List Nd) (push : Bool) (i : Nat) : Nd := if partAt ns push i < 0 then nodeAt ns i else { node 9 [] with n := partAt ns push i }
def splitParts (ns : List Nd) (push : Bool) : List (List Nd) := (List.range (lastS ns push).length).map fun k => (takeP ns (inPart ns push k) (nodeAt ns) ns.length).2
def splitRest (ns : List Nd) (push : Bool) : List Nd := (takeP ns (inRest ns push) (restNode ns push) ns.length).2
end Go.Proofs.Ytjpogmomgmjmbaa.ParS

/-! Words on memory for these claims: a block that is known whole; bytes of a text. -/
namespace Go.Proofs.Ytjpogmomgmjmbaa
open Go.RowKit

/-- Block g is just these cells, none of them frozen. -/
def Blk (w : World) (g : Nat) (t : TypeId) (cs : Array Value) : Prop := w.heap[g]? = some (.cells cs t (0, 0))
section
variable {w w' : World} {g : Nat} {t : TypeId} {cs : Array Value}
theorem Blk.lt (h : Blk w g t cs) : g < w.heap.size := by
  unfold Blk at h
  exact (Array.getElem?_eq_some_iff.1 h).1
theorem Blk.cell (h : Blk w g t cs) (i : Nat) : w.cell? ⟨g, i, none⟩ = cs[i]? := cell_of_row w g i cs t (0, 0) h
theorem Blk.free (h : Blk w g t cs) (i : Nat) : w.frozen? ⟨g, i, none⟩ = false := by
  unfold Blk at h
  simp [World.frozen?, h]
theorem Blk.new (w : World) (t : TypeId) (cs : Array Value) : Blk (w.alloc (.cells cs t)) w.heap.size t cs := heap_alloc_new w _
theorem Blk.alloc (h : Blk w g t cs) (o : Obj) : Blk (w.alloc o) g t cs := (Below.heap_alloc w o g h.lt).trans h
theorem Blk.drewN (h : Blk w g t cs) (n : Nat) : Blk (w.drewN n) g t cs := h
theorem Blk.drew (h : Blk w g t cs) : Blk w.drew g t cs := h
theorem Blk.put (h : Blk w g t cs) (i : Nat) (u : Value) : Blk (w.setCell ⟨g, i, none⟩ u) g t (cs.setIfInBounds i u) := by
  unfold Blk at h ⊢
  simp [World.setCell, Array.getElem?_modify, h]
theorem Blk.far (h : Blk w g t cs) {p : Addr} (hp : g ≠ p.block) (u : Value) : Blk (w.setCell p u) g t cs := (Below.heap_setCell w p u g hp).trans h
theorem Blk.below {b : Nat} (h : Blk w g t cs) (hb : Below b w w') (hg : g < b) : Blk w' g t cs := (hb.block g hg).trans h
theorem Blk.kept (h : Blk w g t cs) (hb : Below w.heap.size w w') : Blk w' g t cs := h.below hb h.lt
end
theorem below_drewN {b : Nat} {a w : World} (h : Below b a w) (n : Nat) : Below b a (w.drewN n) := ⟨h.os, h.tape, h.output, h.size, h.block⟩
theorem chain {w a b : World} (h1 : Below w.heap.size w a) (h2 : Below a.heap.size a b) : Below w.heap.size w b := h1.trans (h2.mono h1.size)
theorem keepc {W w1 : World} {g i : Nat} {v : Value} (hb : Below W.heap.size W w1) (h : W.cell? ⟨g, i, none⟩ = some v) : w1.cell? ⟨g, i, none⟩ = some v :=
  (hb.cell (p := ⟨g, i, none⟩) (World.block_lt_of_cell? W _ h)).trans h
/-! Bytes of a text -/
theorem size_list (s : ByteArray) : s.data.toList.length = s.size := by simp
theorem byte_at {s : ByteArray} {i : Nat} {c : UInt8} {r : List UInt8} (h : s.data.toList.drop i = c :: r) : ∃ hi : i < s.size, s[i]'hi = c ∧ s.data.toList.drop (i + 1) = r := by
  have hlt : i < s.data.toList.length := by
    rcases Nat.lt_or_ge i s.data.toList.length with h1 | h1
    · exact h1
    · rw [List.drop_eq_nil_of_le h1] at h; cases h
  rw [List.drop_eq_getElem_cons hlt] at h
  injection h with h1 h2
  exact ⟨by rw [size_list] at hlt; exact hlt, h1, h2⟩
theorem at_end {s : ByteArray} {i : Nat} (h : s.data.toList.drop i = []) : s.size ≤ i := by
  rw [← size_list]
  rcases Nat.lt_or_ge i s.data.toList.length with h1 | h1
  · rw [List.drop_eq_getElem_cons h1] at h; cases h
  · exact h1
theorem list_cut (s : ByteArray) (a b : Nat) : (s.extract a b).data.toList = (s.data.toList.take b).drop a := by
  rw [ByteArray.data_extract, Array.toList_extract, List.extract_eq_take_drop]
  rw [List.drop_take]
theorem list_from (s : ByteArray) (a : Nat) : (s.extract a s.size).data.toList = s.data.toList.drop a := by
  rw [list_cut, List.take_of_length_le (by rw [size_list]; exact Nat.le_refl _)]
theorem of_list (s : ByteArray) : (⟨s.data.toList.toArray⟩ : ByteArray) = s := by simp
end Go.Proofs.Ytjpogmomgmjmbaa

/-! The walks of the lexers' small functions: letters, digits, inner signs; how many bytes a text begins with that are so. -/
namespace Go.Proofs.Ytjpogmomgmjmbaa
open Go.RowKit LexS
set_option maxHeartbeats 400000

theorem rletter_any (c : UInt8) (w : World) : Calls Try.prog 34 #[.int .u8 (c.toNat : Int)] w fun e w' => e = .returned (.bool (letterB c)) ∧ w = w' := by
  unfold letterB
  by_cases h : 97 ≤ c.toNat
  · have h' : (97 : Int) ≤ c.toNat := by omega
    rw [decide_eq_true h, Bool.true_and]
    go_enter Try.func34, Try.ntmps34
    go_wp2
    go_ret
    exact ⟨by simp; omega, rfl⟩
  · have h' : (c.toNat : Int) < 97 := by omega
    rw [decide_eq_false h, Bool.false_and]
    go_enter Try.func34, Try.ntmps34
    go_wp2
    go_ret
    exact ⟨by simp, rfl⟩
theorem rdigit_any (c : UInt8) (w : World) : Calls Try.prog 37 #[.int .u8 (c.toNat : Int)] w fun e w' => e = .returned (.bool (digitB c)) ∧ w = w' := by
  unfold digitB
  by_cases h : 48 ≤ c.toNat
  · have h' : (48 : Int) ≤ c.toNat := by omega
    rw [decide_eq_true h, Bool.true_and]
    go_enter Try.func37, Try.ntmps37
    go_wp2
    go_ret
    exact ⟨by simp; omega, rfl⟩
  · have h' : (c.toNat : Int) < 48 := by omega
    rw [decide_eq_false h, Bool.false_and]
    go_enter Try.func37, Try.ntmps37
    go_wp2
    go_ret
    exact ⟨by simp, rfl⟩
theorem rinner_any (c : UInt8) (w : World) : Calls Try.prog 35 #[.int .u8 (c.toNat : Int)] w fun e w' => e = .returned (.bool (innerB c)) ∧ w = w' := by
  have h1 := rletter_any c
  have h2 := rdigit_any c
  unfold innerB
  cases hl : letterB c
  · rw [hl] at h1
    cases hd : digitB c
    · rw [hd] at h2
      by_cases h95 : c.toNat = 95
      · have g : ((c.toNat : Int) == 95) = true := by rw [h95]; rfl
        rw [decide_eq_true h95]
        clear h95
        go_enter Try.func35, Try.ntmps35
        go_wp2_with fail
        refine (h1 _).mono ?_
        rintro e w1 ⟨rfl, rfl⟩
        go_wp2_with fail
        refine (h2 _).mono ?_
        rintro e w1 ⟨rfl, rfl⟩
        go_wp2_with fail
        go_ret
        exact ⟨rfl, rfl⟩
      · have g : ((c.toNat : Int) == 95) = false := by rw [beq_eq_false_iff_ne]; omega
        rw [decide_eq_false h95]
        clear h95
        go_enter Try.func35, Try.ntmps35
        go_wp2_with fail
        refine (h1 _).mono ?_
        rintro e w1 ⟨rfl, rfl⟩
        go_wp2_with fail
        refine (h2 _).mono ?_
        rintro e w1 ⟨rfl, rfl⟩
        go_wp2_with fail
        go_ret
        exact ⟨rfl, rfl⟩
    · rw [hd] at h2
      go_enter Try.func35, Try.ntmps35
      go_wp2_with fail
      refine (h1 _).mono ?_
      rintro e w1 ⟨rfl, rfl⟩
      go_wp2_with fail
      refine (h2 _).mono ?_
      rintro e w1 ⟨rfl, rfl⟩
      go_wp2_with fail
      go_ret
      exact ⟨rfl, rfl⟩
  · rw [hl] at h1
    go_enter Try.func35, Try.ntmps35
    go_wp2_with fail
    refine (h1 _).mono ?_
    rintro e w1 ⟨rfl, rfl⟩
    go_wp2_with fail
    go_ret
    exact ⟨rfl, rfl⟩
end Go.Proofs.Ytjpogmomgmjmbaa

/-! The walk of lex.text: it reads a text as the plain lexer does. -/
namespace Go.Proofs.Ytjpogmomgmjmbaa
open Go.RowKit LexS
set_option maxHeartbeats 2000000

def tokA (t : Tok) : Array Value := #[.int .i64 (t.kind : Int), .string ⟨t.s.toArray⟩, .int .i64 t.n, .int .i64 (t.at_ : Int)]
def tokV (t : Tok) : Value := .agg (tokA t)
theorem tokV_eq (t : Tok) : tokV t = .agg #[.int .i64 (t.kind : Int), .string ⟨t.s.toArray⟩, .int .i64 t.n, .int .i64 (t.at_ : Int)] := rfl
def textT (l : Bytes) : Tok × Nat := match textS l with
  | some (t, n) => (⟨3, t, 0, 0⟩, n)
  | none => (noTok, 0)
def textO (o : Option (Bytes × Nat)) : Tok × Nat := match o with
  | some (t, n) => if t.length ≤ 64 then (⟨3, t, 0, 0⟩, n) else (noTok, 0)
  | none => (noTok, 0)
theorem textT_eq (l : Bytes) : textT l = textO (textFrom [] 1 (l.drop 1)) := by
  unfold textT textS textO
  match textFrom [] 1 (l.drop 1) with
  | none => rfl
  | some (t, n) =>
    by_cases h : t.length ≤ 64
    · simp only [if_pos h]
    · simp only [if_neg h]
theorem blk_tok {w : World} {g : Nat} {t : TypeId} {x : Tok} (h : Blk w g t (tokA x)) :
    w.cell? ⟨g, 0, none⟩ = some (.int .i64 (x.kind : Int)) ∧ w.cell? ⟨g, 1, none⟩ = some (.string ⟨x.s.toArray⟩) ∧ w.cell? ⟨g, 2, none⟩ = some (.int .i64 x.n) ∧ w.cell? ⟨g, 3, none⟩ = some (.int .i64 (x.at_ : Int)) :=
  ⟨h.cell 0, h.cell 1, h.cell 2, h.cell 3⟩
theorem free_tok {w : World} {g : Nat} {t : TypeId} {x : Tok} (h : Blk w g t (tokA x)) :
    w.frozen? ⟨g, 0, none⟩ = false ∧ w.frozen? ⟨g, 1, none⟩ = false ∧ w.frozen? ⟨g, 2, none⟩ = false ∧ w.frozen? ⟨g, 3, none⟩ = false :=
  ⟨h.free 0, h.free 1, h.free 2, h.free 3⟩
theorem put_tok {w : World} {g : Nat} {t : TypeId} {x y : Tok} (h : Blk w g t (tokA x)) :
    Blk ((((w.setCell ⟨g, 0, none⟩ (.int .i64 (y.kind : Int))).setCell ⟨g, 1, none⟩ (.string ⟨y.s.toArray⟩)).setCell ⟨g, 2, none⟩ (.int .i64 y.n)).setCell ⟨g, 3, none⟩ (.int .i64 (y.at_ : Int))) g t (tokA y) :=
  (((h.put 0 _).put 1 _).put 2 _).put 3 _
theorem res_tok {f : Func} {r q g : Nat} {tmps : Array Value} {w : World} {x : Tok} {n : Int} (hf : f.results = #[.cell r 52, .tmp q]) (ht : tmps[r]?.getD undef = .pointer (some ⟨g, 0, none⟩)) (hq : tmps[q]?.getD undef = .int .i64 n)
    (h : Blk w g 52 (tokA x)) : (results f tmps).run Try.prog w = .ok (.tuple #[tokV x, .int .i64 n]) w := by
  obtain ⟨h0, h1, h2, h3⟩ := blk_tok h
  simp [results, hf, go_sem, ht, hq, h0, h1, h2, h3, tokV, tokA]
theorem bcells_app (l : Bytes) (c : UInt8) : Lib.byteCells l ++ [.int .u8 (c.toNat : Int)] = Lib.byteCells (l ++ [c]) := by simp [Lib.byteCells]
theorem textFrom_cons (acc : Bytes) (i : Nat) (c : UInt8) (r : Bytes) : textFrom acc i (c :: r) =
    if c.toNat = 34 then some (acc, i + 1)
    else if c.toNat = 92 then
      match r with
      | [] => none
      | d :: r' => if d.toNat = 34 ∨ d.toNat = 92 then textFrom (acc ++ [d]) (i + 2) r' else none
    else textFrom (acc ++ [c]) (i + 1) r := by
  cases r <;> simp only [textFrom]
end Go.Proofs.Ytjpogmomgmjmbaa

/-! What the lexer leans on in memory; the walk of lex.sign. -/
namespace Go.Proofs.Ytjpogmomgmjmbaa
open Go.RowKit LexS
set_option maxHeartbeats 1000000

theorem byte_all (p : UInt8 → Prop) (h : ∀ n, n < 256 → p (UInt8.ofNat n)) (c : UInt8) : p c := by
  have := h c.toNat c.toNat_lt
  rwa [UInt8.ofNat_toNat] at this
theorem text_of {s : ByteArray} {l : List UInt8} (h : s.data.toList = l) : s = ⟨l.toArray⟩ := by rw [← h]
theorem cut_text (s : ByteArray) (a b : Nat) : s.extract a b = ⟨((s.data.toList.take b).drop a).toArray⟩ := text_of (list_cut s a b)
def signT (l : Bytes) : Tok × Nat := if signLen l = 0 then (noTok, 0) else (⟨4, l.take (signLen l), 0, 0⟩, signLen l)
theorem tok_stores {w : World} {wr : World} (hr : Blk wr w.heap.size 52 (tokA noTok)) (hb : Below w.heap.size w wr) (y : Tok) :
    Blk ((((wr.setCell ⟨w.heap.size, 0, none⟩ (.int .i64 (y.kind : Int))).setCell ⟨w.heap.size, 1, none⟩ (.string ⟨y.s.toArray⟩)).setCell ⟨w.heap.size, 2, none⟩ (.int .i64 y.n)).setCell ⟨w.heap.size, 3, none⟩ (.int .i64 (y.at_ : Int))) w.heap.size 52 (tokA y) ∧
    Below w.heap.size w ((((wr.setCell ⟨w.heap.size, 0, none⟩ (.int .i64 (y.kind : Int))).setCell ⟨w.heap.size, 1, none⟩ (.string ⟨y.s.toArray⟩)).setCell ⟨w.heap.size, 2, none⟩ (.int .i64 y.n)).setCell ⟨w.heap.size, 3, none⟩ (.int .i64 (y.at_ : Int))) :=
  ⟨put_tok hr, (((hb.setCell (Nat.le_refl _) _).setCell (Nat.le_refl _) _).setCell (Nat.le_refl _) _).setCell (Nat.le_refl _) _⟩
end Go.Proofs.Ytjpogmomgmjmbaa

/-! The walk of lex.number: a number is read as the plain lexer reads it. -/
namespace Go.Proofs.Ytjpogmomgmjmbaa
open Go.RowKit LexS BigFrame
open Go.Sort (grow)
set_option maxHeartbeats 1000000

def numberT (l : Bytes) : Tok × Nat := match numberS l with
  | some (v, n) => (⟨2, [], v, 0⟩, n)
  | none => (noTok, 0)
theorem toList_data (s : ByteArray) : s.toList = s.data.toList := ByteArray.toList_eq s
end Go.Proofs.Ytjpogmomgmjmbaa

/-! The walk of lex.one: the token at a text's front is read as the plain lexer reads it. -/
namespace Go.Proofs.Ytjpogmomgmjmbaa
open Go.RowKit LexS
set_option maxHeartbeats 4000000

theorem one_letter (c : UInt8) (r : Bytes) (h : letterB c = true) : oneS (c :: r) = if while_ innerB (c :: r) ≤ 24 then (⟨1, (c :: r).take (while_ innerB (c :: r)), 0, 0⟩, while_ innerB (c :: r)) else (noTok, 0) := by
  unfold oneS
  dsimp only
  rw [if_pos h]
theorem one_text (c : UInt8) (r : Bytes) (h : letterB c = false) (h34 : c.toNat = 34) : oneS (c :: r) = textT (c :: r) := by
  unfold oneS textT
  dsimp only
  rw [if_neg (by simp [h]), if_pos h34]
  cases textS (c :: r) <;> rfl
theorem one_number (c : UInt8) (r : Bytes) (h : letterB c = false) (h34 : c.toNat ≠ 34) (hd : digitB c = true ∨ (c.toNat = 45 ∧ r.head?.map digitB = some true)) : oneS (c :: r) = numberT (c :: r) := by
  unfold oneS numberT
  dsimp only
  rw [if_neg (by simp [h]), if_neg h34, if_pos hd]
  cases numberS (c :: r) <;> rfl
theorem one_sign (c : UInt8) (r : Bytes) (h : letterB c = false) (h34 : c.toNat ≠ 34) (hd : ¬ (digitB c = true ∨ (c.toNat = 45 ∧ r.head?.map digitB = some true))) : oneS (c :: r) = signT (c :: r) := by
  unfold oneS signT
  dsimp only
  rw [if_neg (by simp [h]), if_neg h34, if_neg hd]
theorem letter_no34 {c : UInt8} (h : c.toNat = 34) : letterB c = false := by simp [letterB, h]
end Go.Proofs.Ytjpogmomgmjmbaa
