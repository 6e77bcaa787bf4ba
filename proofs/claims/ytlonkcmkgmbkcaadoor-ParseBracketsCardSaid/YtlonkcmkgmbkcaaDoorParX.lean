/- A tree, told by its numbers: each names only what stands ahead of it; each but the last is named once. Plain lists, no program. -/
import Derived.Test.YtlonkcmkgmbkcaaDoorParT
namespace Go.Proofs.YtlonkcmkgmbkcaaDoor.ParS
open LexS
set_option linter.unusedVariables false

/-- All that the nodes name. -/
def named (ms : List Nd) : List Nat := ms.flatMap (·.l)
structure Tree (b : Nat) (ms : List Nd) : Prop where
  ne : ms ≠ []
  ahead : ∀ i nd, ms[i]? = some nd → ∀ c ∈ nd.l, c < b + i
  once : ∀ c, (named ms).count c = if b ≤ c ∧ c + 1 < b + ms.length then 1 else 0
theorem named_app (a c : List Nd) : named (a ++ c) = named a ++ named c := by simp [named]
theorem named_one (n : Nd) : named [n] = n.l := by simp [named]
theorem tree_leaf {b : Nat} {n : Nd} (h : n.l = []) : Tree b [n] := by
  refine ⟨by simp, fun i nd hi c hc => ?_, fun c => ?_⟩
  · match i, hi with
    | 0, hi =>
      simp only [List.getElem?_cons_zero, Option.some.injEq] at hi
      subst hi
      rw [h] at hc
      cases hc
    | i + 1, hi => simp at hi
  · rw [named_one, h, if_neg (by simp)]
    rfl
theorem last_ahead {b : Nat} {ts : List Nd} {n : Nd} (h : ∀ i nd, ts[i]? = some nd → ∀ c ∈ nd.l, c < b + i) (hn : ∀ c ∈ n.l, c < b + ts.length) : ∀ i nd, (ts ++ [n])[i]? = some nd → ∀ c ∈ nd.l, c < b + i := by
  intro i nd hi c hc
  by_cases hlt : i < ts.length
  · rw [List.getElem?_append_left hlt] at hi
    exact h i nd hi c hc
  · rw [List.getElem?_append_right (by omega)] at hi
    have he : i - ts.length = 0 := by
      rcases hk : i - ts.length with _ | k
      · rfl
      · rw [hk] at hi
        simp at hi
    rw [he] at hi
    simp only [List.getElem?_cons_zero, Option.some.injEq] at hi
    subst hi
    have := hn c hc
    omega
theorem count_one' (a c : Nat) : [a].count c = if a = c then 1 else 0 := by
  rw [List.count_cons, List.count_nil]
  by_cases h : a = c
  · simp [h]
  · simp [h]
theorem count_two' (a d c : Nat) : [a, d].count c = (if a = c then 1 else 0) + (if d = c then 1 else 0) := by
  rw [List.count_cons, count_one']
  by_cases h : a = c
  · simp [h]; omega
  · simp [h]
theorem tree_un {b : Nat} {ts : List Nd} {n : Nd} (h : Tree b ts) (hn : n.l = [b + ts.length - 1]) : Tree b (ts ++ [n]) := by
  have hl : 0 < ts.length := List.length_pos_iff.2 h.ne
  refine ⟨by simp, last_ahead h.ahead (fun c hc => ?_), fun c => ?_⟩
  · rw [hn, List.mem_singleton] at hc
    omega
  · rw [named_app, named_one, hn, List.count_append, h.once, count_one', List.length_append, List.length_singleton]
    split <;> split <;> split <;> omega
theorem tree_bin {b : Nat} {ts us : List Nd} {n : Nd} (h : Tree b ts) (k : Tree (b + ts.length) us) (hn : n.l = [b + ts.length - 1, b + ts.length + us.length - 1]) : Tree b (ts ++ us ++ [n]) := by
  have hl : 0 < ts.length := List.length_pos_iff.2 h.ne
  have hu : 0 < us.length := List.length_pos_iff.2 k.ne
  refine ⟨by simp, last_ahead (fun i nd hi c hc => ?_) (fun c hc => ?_), fun c => ?_⟩
  · by_cases hlt : i < ts.length
    · rw [List.getElem?_append_left hlt] at hi
      exact h.ahead i nd hi c hc
    · rw [List.getElem?_append_right (by omega)] at hi
      have := k.ahead _ nd hi c hc
      omega
  · rw [List.length_append]
    rw [hn] at hc
    simp only [List.mem_cons, List.not_mem_nil, or_false] at hc
    omega
  · rw [named_app, named_app, named_one, hn, List.count_append, List.count_append, h.once, k.once, count_two', List.length_append, List.length_append, List.length_singleton]
    split <;> split <;> split <;> split <;> split <;> omega
theorem tree_ct {b : Nat} {ms : List Nd} (h : CT b ms) : Tree b ms := by
  induction h with
  | leaf b n _ hl => exact tree_leaf hl
  | un b ts n _ _ hl ih => exact tree_un ih hl
  | bin b ts us n _ _ _ hl i1 i2 => exact tree_bin i1 i2 hl
theorem tree_qt {b : Nat} {ms : List Nd} (h : QT b ms) : Tree b ms := by
  induction h with
  | fetch b n _ hl => exact tree_leaf hl
  | step b ts n _ _ hl ih => exact tree_un ih hl
  | where_ b ts us n _ hc _ hl ih => exact tree_bin ih (tree_ct hc) hl
  | join b ts us n _ _ _ hl i1 i2 => exact tree_bin i1 i2 hl
/-- What is told of a text: an error and nothing, or a tree of 1 to 128 nodes. -/
theorem query_tree (s : Bytes) : ((queryS s).2.2 ≠ 0 ∧ (queryS s).1 = []) ∨ ((queryS s).2.2 = 0 ∧ Tree 0 (queryS s).1 ∧ (queryS s).1.length ≤ 128) := by
  unfold queryS
  rcases hx : lexS s with ⟨l, a, e⟩
  dsimp only
  by_cases he : e ≠ 0
  · rw [if_pos he]
    exact .inl ⟨he, rfl⟩
  · rw [if_neg he]
    rcases hp : parseS l with ⟨ns, n, f⟩
    dsimp only
    by_cases hf : f = 0
    · rw [if_pos hf]
      subst hf
      obtain ⟨h1, _, h3⟩ := parse_tree hp
      exact .inr ⟨rfl, tree_qt h1, h3⟩
    · rw [if_neg hf]
      have hn : ns = [] := by
        unfold parseS parseAll at hp
        split at hp
        · cases hp; rfl
        · split at hp
          · cases hp; rfl
          · split at hp
            · cases hp; rfl
            · split at hp
              · cases hp; rfl
              · cases hp
                exact absurd rfl hf
      subst hn
      split
      · exact .inl ⟨hf, rfl⟩
      · exact .inl ⟨hf, rfl⟩
end Go.Proofs.YtlonkcmkgmbkcaaDoor.ParS
