/- A split's parts and its rest, node by node. Plain lists, no program. How many nodes a split's parts and its rest have, and the rest's inputs. Plain lists, no program. -/
import Derived.Test.YtjpogmomgmjmbaaN20
/-! A split's parts and its rest, node by node. Plain lists, no program. -/
namespace Go.Proofs.Ytjpogmomgmjmbaa.ParS
open LexS
set_option linter.unusedVariables false

theorem sorted_ext : ∀ (l m : List Nat), l.Pairwise (· < ·) → m.Pairwise (· < ·) → (∀ x, x ∈ l ↔ x ∈ m) → l = m
  | [], [], _, _, _ => rfl
  | [], b :: m, _, _, h => absurd ((h b).2 (by simp)) (by simp)
  | a :: l, [], _, _, h => absurd ((h a).1 (by simp)) (by simp)
  | a :: l, b :: m, hl, hm, h => by
    obtain ⟨h1, h2⟩ := List.pairwise_cons.1 hl
    obtain ⟨h3, h4⟩ := List.pairwise_cons.1 hm
    have hab : a = b := by
      have e1 := (h a).1 (by simp)
      have e2 := (h b).2 (by simp)
      rcases List.mem_cons.1 e1 with e1 | e1
      · exact e1
      · rcases List.mem_cons.1 e2 with e2 | e2
        · exact e2.symm
        · have := h3 a e1
          have := h1 b e2
          omega
    subst hab
    rw [sorted_ext l m h2 h4 fun x => ⟨fun hx => ?_, fun hx => ?_⟩]
    · rcases List.mem_cons.1 ((h x).1 (by simp [hx])) with e | e
      · have := h1 x hx
        omega
      · exact e
    · rcases List.mem_cons.1 ((h x).2 (by simp [hx])) with e | e
      · have := h3 x hx
        omega
      · exact e
theorem range_sorted (n : Nat) (p : Nat → Bool) : ((List.range n).filter p).Pairwise (· < ·) := (List.pairwise_lt_range).filter _
/-- What a taking leaves of kinds and numbers. -/
theorem take_map (ns : List Nd) (so : Nat → Bool) (made : Nat → Nd) : ∀ i, (takeP ns so made i).2.map (fun nd => (nd.kind, nd.n)) = ((List.range i).filter so).map fun x => ((made x).kind, (made x).n)
  | 0 => rfl
  | i + 1 => by
    have e : takeP ns so made (i + 1) = if so i then ((takeP ns so made i).1.set i (takeP ns so made i).2.length, (takeP ns so made i).2 ++ [{ made i with l := (made i).l.map fun a => ((takeP ns so made i).1[a]?).getD 0 }]) else takeP ns so made i := rfl
    rw [List.range_succ, List.filter_append, List.map_append, ← take_map ns so made i, e]
    by_cases h : so i = true
    · rw [if_pos h]
      simp [h]
    · rw [if_neg h]
      simp [h]
theorem take_len (ns : List Nd) (so : Nat → Bool) (made : Nat → Nd) (i : Nat) : (takeP ns so made i).2.length = ((List.range i).filter so).length := by
  have := congrArg List.length (take_map ns so made i)
  simpa using this
section
variable {ns : List Nd} (hq : QNs ns) {push : Bool}
include hq
theorem chain_of {j : Nat} (hj : j ∈ fets ns ns.length) : j < ns.length ∧ kindAt ns j = 1 ∧ j ∈ chainS ns push j ∧ (∀ x ∈ chainS ns push j, j ≤ x ∧ x < ns.length) ∧ ∀ x ∈ chainS ns push j, x = j ∨ (2 ≤ kindAt ns x ∧ kindAt ns x ≤ 6) := by
  obtain ⟨h1, h2⟩ := (fets_mem ns _ j).1 hj
  obtain ⟨c1, c2, c3, c4⟩ := chain_facts (push := push) hq.tree ns.length j false h1
  exact ⟨h1, h2, List.mem_of_head? c1, c2, c4⟩
theorem chain_rows {j x : Nat} (hj : j ∈ fets ns ns.length) (hx : x ∈ chainS ns push j) : kindAt ns x < 11 := by
  obtain ⟨h1, h2, h3, h4, h5⟩ := chain_of hq (push := push) hj
  rcases h5 x hx with e | e
  · rw [e, h2]; omega
  · omega
/-- A chain's nodes are in its part. -/
theorem part_of_chain {k j x : Nat} (hk : (fets ns ns.length)[k]? = some j) (hx : x ∈ chainS ns push j) : (partS ns push)[x]? = some (k : Int) := by
  have hj := List.mem_of_getElem? hk
  obtain ⟨h1, h2, h3, h4, h5⟩ := chain_of hq (push := push) hj
  rw [part_rows hq (h4 x hx).2 (chain_rows hq hj hx)]
  exact (fetch_fst hq.tree hq.fits ns.length (Nat.le_refl _)).1 k j hk x hx
/-- A node that is no condition: it is in no part, or in its chain. -/
theorem rows_part {x : Nat} (hx : x < ns.length) (hk : kindAt ns x < 11) : (partS ns push)[x]? = some (-1) ∨ ∃ (k j : Nat), (fets ns ns.length)[k]? = some j ∧ x ∈ chainS ns push j ∧ (partS ns push)[x]? = some (k : Int) := by
  by_cases h : ∃ j ∈ fets ns ns.length, x ∈ chainS ns push j
  · obtain ⟨j, hj, hm⟩ := h
    obtain ⟨k, hk2⟩ := List.getElem?_of_mem hj
    exact .inr ⟨k, j, hk2, hm, part_of_chain hq hk2 hm⟩
  · left
    rw [part_rows hq hx hk]
    exact (fetch_fst hq.tree hq.fits ns.length (Nat.le_refl _)).2 x hx fun j hj hm => h ⟨j, hj, hm⟩
/-- Each node is in no part, or in one, behind its fetch. -/
theorem node_part {x : Nat} (hx : x < ns.length) : (partS ns push)[x]? = some (-1) ∨ ∃ (k j : Nat), (fets ns ns.length)[k]? = some j ∧ (partS ns push)[x]? = some (k : Int) ∧ (x = j ∨ (j < x ∧ (2 ≤ kindAt ns x ∧ kindAt ns x ≤ 6 ∨ 11 ≤ kindAt ns x))) := by
  by_cases hk : 11 ≤ kindAt ns x
  · obtain ⟨s, a, nd, s1, s2, s3, s4, s5, s6, s7, s8⟩ := cond_root hq (push := push) ns.length x (by omega) hx hk
    rw [s7]
    rcases rows_part hq (push := push) s6 (by rw [kindAt_of s1, s2]; omega) with h | ⟨k, j, h1, h2, h3⟩
    · exact .inl h
    · right
      refine ⟨k, j, h1, h3, .inr ⟨?_, .inr hk⟩⟩
      have hj := List.mem_of_getElem? h1
      obtain ⟨c1, c2, c3, c4, c5⟩ := chain_of hq (push := push) hj
      have hsj : s ≠ j := by
        rintro rfl
        rw [kindAt_of s1, s2] at c2
        omega
      obtain ⟨y, hy, nd2, e1, e2⟩ := chain_prev hq.tree ns.length j false c1 s h2 hsj
      rw [s1] at e1
      injection e1 with e1
      subst e1
      rw [s3] at e2
      injection e2 with e2
      have := (c4 y hy).1
      omega
  · rcases rows_part hq (push := push) hx (by omega) with h | ⟨k, j, h1, h2, h3⟩
    · exact .inl h
    · right
      have hj := List.mem_of_getElem? h1
      obtain ⟨c1, c2, c3, c4, c5⟩ := chain_of hq (push := push) hj
      refine ⟨k, j, h1, h3, ?_⟩
      rcases c5 x h2 with e | e
      · exact .inl e
      · have h6 := (c4 x h2).1
        by_cases hxj : x = j
        · exact .inl hxj
        · exact .inr ⟨by omega, .inl e⟩
omit hq in
theorem partAt_of {x : Nat} {v : Int} (h : (partS ns push)[x]? = some v) : partAt ns push x = v := by
  unfold partAt
  rw [h]
  rfl
/-- A part begins with its fetch, and goes on with steps and conditions. -/
theorem part_nodes {k j : Nat} (hk : (fets ns ns.length)[k]? = some j) : ∃ l, (List.range ns.length).filter (inPart ns push k) = j :: l ∧ ∀ x ∈ l, x < ns.length ∧ (2 ≤ kindAt ns x ∧ kindAt ns x ≤ 6 ∨ 11 ≤ kindAt ns x) := by
  have hj := List.mem_of_getElem? hk
  obtain ⟨c1, c2, c3, c4, c5⟩ := chain_of hq (push := push) hj
  have hin : ∀ x, x ∈ (List.range ns.length).filter (inPart ns push k) → x < ns.length ∧ (x = j ∨ (j < x ∧ (2 ≤ kindAt ns x ∧ kindAt ns x ≤ 6 ∨ 11 ≤ kindAt ns x))) := by
    intro x hx
    obtain ⟨h1, h2⟩ := List.mem_filter.1 hx
    rw [List.mem_range] at h1
    refine ⟨h1, ?_⟩
    unfold inPart at h2
    rw [decide_eq_true_eq] at h2
    rcases node_part hq (push := push) h1 with h | ⟨k', j', h3, h4, h5⟩
    · rw [partAt_of h] at h2
      omega
    · rw [partAt_of h4] at h2
      have : k' = k := by omega
      subst this
      rw [hk] at h3
      injection h3 with h3
      subst h3
      exact h5
  have hjm : j ∈ (List.range ns.length).filter (inPart ns push k) := by
    refine List.mem_filter.2 ⟨List.mem_range.2 c1, ?_⟩
    unfold inPart
    rw [partAt_of (part_of_chain hq hk c3)]
    simp
  have hs := range_sorted ns.length (inPart ns push k)
  rcases hl : (List.range ns.length).filter (inPart ns push k) with _ | ⟨a, l⟩
  · rw [hl] at hjm; cases hjm
  · rw [hl] at hjm hs hin
    obtain ⟨p1, p2⟩ := List.pairwise_cons.1 hs
    have haj : a = j := by
      rcases List.mem_cons.1 hjm with e | e
      · exact e.symm
      · have h1 := p1 j e
        rcases (hin a (by simp)).2 with h2 | h2 <;> omega
    subst haj
    refine ⟨l, rfl, fun x hx => ?_⟩
    obtain ⟨h1, h2⟩ := hin x (List.mem_cons_of_mem _ hx)
    refine ⟨h1, ?_⟩
    rcases h2 with h2 | h2
    · have := p1 x hx
      omega
    · exact h2.2
end
end Go.Proofs.Ytjpogmomgmjmbaa.ParS

/-! How many nodes a split's parts and its rest have, and the rest's inputs. Plain lists, no program. -/
namespace Go.Proofs.Ytjpogmomgmjmbaa.ParS
open LexS
set_option linter.unusedVariables false

theorem split_len {α : Type} (p q r : α → Bool) : ∀ l : List α, (∀ x ∈ l, p x = (q x || r x) ∧ ¬ (q x = true ∧ r x = true)) → (l.filter p).length = (l.filter q).length + (l.filter r).length
  | [], _ => rfl
  | a :: l, h => by
    have ih := split_len p q r l fun x hx => h x (List.mem_cons_of_mem _ hx)
    obtain ⟨h1, h2⟩ := h a (by simp)
    cases hq : q a <;> cases hr : r a
    · rw [List.filter_cons_of_neg (by rw [h1, hq, hr]; simp), List.filter_cons_of_neg (by rw [hq]; simp), List.filter_cons_of_neg (by rw [hr]; simp), ih]
    · rw [List.filter_cons_of_pos (by rw [h1, hq, hr]; rfl), List.filter_cons_of_neg (by rw [hq]; simp), List.filter_cons_of_pos (by rw [hr]), List.length_cons, List.length_cons, ih]
      omega
    · rw [List.filter_cons_of_pos (by rw [h1, hq, hr]; rfl), List.filter_cons_of_pos (by rw [hq]), List.filter_cons_of_neg (by rw [hr]; simp), List.length_cons, List.length_cons, ih]
      omega
    · exact absurd ⟨hq, hr⟩ h2
section
variable {ns : List Nd} (hq : QNs ns) {push : Bool}
include hq
theorem last_in {j : Nat} (hj : j ∈ fets ns ns.length) : lastOf ns push j ∈ chainS ns push j ∧ j ≤ lastOf ns push j ∧ lastOf ns push j < ns.length := by
  obtain ⟨c1, c2, c3, c4, c5⟩ := chain_of hq (push := push) hj
  have hm : lastOf ns push j ∈ chainS ns push j := by
    unfold lastOf
    rcases hg : (chainS ns push j).getLast? with _ | y
    · rw [List.getLast?_eq_none_iff] at hg
      rw [hg] at c3
      cases c3
    · exact List.mem_of_getLast? hg
  exact ⟨hm, c4 _ hm⟩
theorem last_at {k j : Nat} (hk : (fets ns ns.length)[k]? = some j) : partAt ns push (lastOf ns push j) = (k : Int) :=
  partAt_of (part_of_chain hq hk (last_in hq (List.mem_of_getElem? hk)).1)
omit hq in
theorem lasts_get {k j : Nat} (hk : (fets ns ns.length)[k]? = some j) : (lastS ns push)[k]? = some (lastOf ns push j) := by
  unfold lastS
  rw [fetch_snd, List.getElem?_map, hk]
  rfl
omit hq in
theorem lasts_len : (lastS ns push).length = (fets ns ns.length).length := by
  unfold lastS
  rw [fetch_snd, List.length_map]
theorem lasts_sorted : (lastS ns push).Pairwise (· < ·) := by
  unfold lastS
  rw [fetch_snd, List.pairwise_map]
  refine (fets_pairwise ns ns.length).imp_of_mem fun {a b} ha hb hab => ?_
  obtain ⟨l1, l2, l3⟩ := last_in hq (push := push) ha
  obtain ⟨m1, m2, m3⟩ := last_in hq (push := push) hb
  have hb2 := (fets_mem ns _ b).1 hb
  have := chain_before hq.tree hq.fits hb2.2 ns.length a false hab _ l1
  omega
/-- Where a node may be. -/
theorem at_cases {x : Nat} (hx : x < ns.length) : partAt ns push x = -1 ∨ ∃ (k j : Nat), (fets ns ns.length)[k]? = some j ∧ partAt ns push x = (k : Int) := by
  rcases node_part hq (push := push) hx with h | ⟨k, j, h1, h2, _⟩
  · exact .inl (partAt_of h)
  · exact .inr ⟨k, j, h1, partAt_of h2⟩
def isIn (ns : List Nd) (push : Bool) (x : Nat) : Bool := inRest ns push x && decide (0 ≤ partAt ns push x)
/-- The parts' last nodes are the rest's inputs. -/
theorem rest_in : (List.range ns.length).filter (isIn ns push) = lastS ns push := by
  refine sorted_ext _ _ (range_sorted _ _) (lasts_sorted hq) fun x => ⟨fun hx => ?_, fun hx => ?_⟩
  · obtain ⟨h1, h2⟩ := List.mem_filter.1 hx
    rw [List.mem_range] at h1
    simp only [isIn, inRest, Bool.and_eq_true, Bool.or_eq_true, decide_eq_true_eq] at h2
    obtain ⟨h2 | h2, h3⟩ := h2
    · omega
    · exact List.mem_of_getElem? h2
  · obtain ⟨k, hk⟩ := List.getElem?_of_mem hx
    have hkl : k < (fets ns ns.length).length := by
      rw [← lasts_len (push := push)]
      exact some_lt hk
    have hf : (fets ns ns.length)[k]? = some ((fets ns ns.length)[k]) := List.getElem?_eq_getElem hkl
    have e := lasts_get (push := push) hf
    rw [hk] at e
    injection e with e
    have hl := last_in hq (push := push) (List.mem_of_getElem? hf)
    have ha := last_at hq (push := push) hf
    rw [← e] at hl ha
    refine List.mem_filter.2 ⟨List.mem_range.2 hl.2.2, ?_⟩
    simp only [isIn, inRest, Bool.and_eq_true, Bool.or_eq_true, decide_eq_true_eq]
    rw [ha]
    exact ⟨.inr (by simpa using hk), by omega⟩
theorem known_at {x : Nat} (hx : x < ns.length) : known (nodeAt ns x).kind := by
  unfold nodeAt
  rw [List.getElem?_eq_getElem hx]
  exact (hq.fits x _ (List.getElem?_eq_getElem hx)).kd
/-- The rest's inputs, in their order. -/
theorem rest_inputs : ((splitRest ns push).filter fun nd => decide (nd.kind = 9)).map (fun nd => nd.n) = (List.range (fets ns ns.length).length).map fun (k : Nat) => (k : Int) := by
  have h := take_map ns (inRest ns push) (restNode ns push) ns.length
  have h2 := congrArg (fun l => (l.filter fun (p : Nat × Int) => decide (p.1 = 9)).map Prod.snd) h
  simp only [List.filter_map, List.map_map, List.filter_filter] at h2
  have e1 : ((splitRest ns push).filter fun nd => decide (nd.kind = 9)).map (fun nd => nd.n) = (((List.range ns.length).filter (isIn ns push)).map fun x => (restNode ns push x).n) := by
    refine Eq.trans h2 ?_
    have e : (List.range ns.length).filter (fun a => ((fun (p : Nat × Int) => decide (p.1 = 9)) ∘ fun x => ((restNode ns push x).kind, (restNode ns push x).n)) a && inRest ns push a) = (List.range ns.length).filter (isIn ns push) := by
      refine List.filter_congr fun x hx => ?_
      rw [List.mem_range] at hx
      have hkn := known_at hq hx
      show (decide ((restNode ns push x).kind = 9) && inRest ns push x) = isIn ns push x
      unfold isIn restNode
      by_cases hp : partAt ns push x < 0
      · rw [if_pos hp]
        have : ¬ (nodeAt ns x).kind = 9 := by
          rcases hkn with h | h <;> omega
        simp [this, show ¬ 0 ≤ partAt ns push x by omega]
      · rw [if_neg hp]
        simp [node, show 0 ≤ partAt ns push x by omega]
    rw [e]
    rfl
  rw [e1, rest_in hq]
  refine List.ext_getElem? fun k => ?_
  rw [List.getElem?_map, List.getElem?_map]
  by_cases hk : k < (fets ns ns.length).length
  · have hf : (fets ns ns.length)[k]? = some ((fets ns ns.length)[k]) := List.getElem?_eq_getElem hk
    have ha := last_at hq (push := push) hf
    rw [lasts_get hf, List.getElem?_range hk]
    show some (restNode ns push _).n = some (k : Int)
    unfold restNode
    rw [ha, if_neg (by omega)]
  · rw [List.getElem?_eq_none (by rw [lasts_len]; omega), List.getElem?_eq_none (by simp; omega)]
    rfl
omit hq in
/-- The parts' lengths, laid together. -/
theorem parts_sum : ∀ m, ((List.range m).map fun k => ((List.range ns.length).filter (inPart ns push k)).length).sum = ((List.range ns.length).filter fun x => decide (0 ≤ partAt ns push x) && decide (partAt ns push x < (m : Int))).length
  | 0 => by
    rw [List.filter_eq_nil_iff.2 fun x _ => by simp]
    rfl
  | m + 1 => by
    rw [List.range_succ, List.map_append, List.sum_append, parts_sum m]
    rw [split_len (fun x => decide (0 ≤ partAt ns push x) && decide (partAt ns push x < ((m + 1 : Nat) : Int))) (fun x => decide (0 ≤ partAt ns push x) && decide (partAt ns push x < (m : Int))) (inPart ns push m) (List.range ns.length) ?_]
    · simp
    · intro x _
      unfold inPart
      constructor
      · rw [Bool.eq_iff_iff]
        simp only [Bool.and_eq_true, Bool.or_eq_true, decide_eq_true_eq]
        omega
      · simp only [Bool.and_eq_true, decide_eq_true_eq]
        omega
/-- Each node is in a part or in the rest; an input stands for each part. -/
theorem split_count : ((splitParts ns push).map List.length).sum + (splitRest ns push).length = ns.length + (fets ns ns.length).length := by
  have e1 : (splitParts ns push).map List.length = (List.range (fets ns ns.length).length).map fun k => ((List.range ns.length).filter (inPart ns push k)).length := by
    unfold splitParts
    rw [List.map_map, lasts_len]
    refine List.map_congr_left fun k _ => ?_
    exact take_len ns _ _ _
  have e2 : (splitRest ns push).length = ((List.range ns.length).filter (inRest ns push)).length := take_len ns _ _ _
  have e3 := split_len (inRest ns push) (fun x => decide (partAt ns push x < 0)) (isIn ns push) (List.range ns.length) fun x _ => by
    unfold isIn inRest
    constructor
    · rw [Bool.eq_iff_iff]
      simp only [Bool.and_eq_true, Bool.or_eq_true, decide_eq_true_eq]
      constructor
      · rintro (h | h)
        · exact .inl h
        · by_cases h2 : partAt ns push x < 0
          · exact .inl h2
          · exact .inr ⟨.inr h, by omega⟩
      · rintro (h | ⟨h, _⟩)
        · exact .inl h
        · exact h
    · simp only [Bool.and_eq_true, decide_eq_true_eq]
      omega
  have e4 := split_len (fun _ => true) (fun x => decide (partAt ns push x < 0)) (fun x => decide (0 ≤ partAt ns push x) && decide (partAt ns push x < ((fets ns ns.length).length : Int))) (List.range ns.length) fun x hx => by
    rw [List.mem_range] at hx
    constructor
    · rcases at_cases hq (push := push) hx with h | ⟨k, j, h1, h2⟩
      · rw [h]; rfl
      · have := some_lt h1
        rw [h2]
        simp only [eq_comm (a := true), Bool.or_eq_true, Bool.and_eq_true, decide_eq_true_eq]
        omega
    · simp only [Bool.and_eq_true, decide_eq_true_eq]
      omega
  rw [rest_in hq, lasts_len] at e3
  rw [List.filter_eq_self.2 (fun _ _ => rfl), List.length_range] at e4
  rw [e1, parts_sum, e2, e3]
  omega
end
end Go.Proofs.Ytjpogmomgmjmbaa.ParS
