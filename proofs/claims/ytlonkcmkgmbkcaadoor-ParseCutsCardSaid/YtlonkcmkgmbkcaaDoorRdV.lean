/- A tree's nodes as they lie; the walk of ints. -/
import Derived.Test.YtlonkcmkgmbkcaaDoorRdU
namespace Go.Proofs.YtlonkcmkgmbkcaaDoor
open Go.RowKit LexS ParS BigFrame
set_option maxHeartbeats 4000000
set_option linter.unusedVariables false
set_option linter.unusedSimpArgs false

theorem cellsM_cons (a : NodeM) (l : List NodeM) : cellsM (a :: l) = a.cells ++ cellsM l := by simp [cellsM]
theorem cellsM_get : ∀ (l : List NodeM) (i : Nat) (t : NodeM) (j : Nat), l[i]? = some t → j < 19 → (cellsM l)[i * 19 + j]? = t.cells[j]?
  | [], i, t, j, h, _ => by simp at h
  | a :: l, 0, t, j, h, hj => by
    simp only [List.getElem?_cons_zero, Option.some.injEq] at h
    subst h
    rw [cellsM_cons, Nat.zero_mul, Nat.zero_add, List.getElem?_append_left (by simp [NodeM.cells]; omega)]
  | a :: l, i + 1, t, j, h, hj => by
    have ha : a.cells.length = 19 := rfl
    rw [cellsM_cons, List.getElem?_append_right (by rw [ha]; omega), ha]
    have : (i + 1) * 19 + j - 19 = i * 19 + j := by omega
    rw [this]
    exact cellsM_get l i t j (by simpa using h) hj
/-- A tree's row. -/
theorem nodes_row {W : World} {base : Nat} {nv : Value} {ns : List Nd} (h : NS W base nv ns) :
    ∃ p cap, nv = .slice p ns.length cap ∧ ns.length ≤ cap ∧ ns.length ≤ maxLen ∧ (ns ≠ [] → ∃ g, p = some ⟨g, 0, none⟩ ∧ base ≤ g ∧ g < W.heap.size ∧
      ∀ i nd, ns[i]? = some nd → ∃ m : NodeM, m.node = nd ∧ MOk W base m ∧ ∀ j v, j < 19 → m.cells[j]? = some v → W.cell? ⟨g, i * 19 + j, none⟩ = some v) := by
  obtain ⟨ms, hms, ho, hall⟩ := h
  have hf := fun g hg => ho.cells (g := g) hg
  have hlt := ho.lt
  have hlen : ms.length = ns.length := by rw [← hms, List.length_map]
  rcases ho.2 with ⟨h1, h2⟩ | ⟨g, cap, cur, h2, h3, h4, h5, h6, _⟩
  · exact ⟨none, 0, by rw [h2]; exact h1, by omega, by rw [h2]; exact Nat.zero_le _, fun hc => absurd (List.eq_nil_of_length_eq_zero h2) hc⟩
  · subst h2
    refine ⟨_, cap, rfl, h5, Nat.le_trans h5 h6, fun _ => ⟨g, rfl, h3, (hlt g rfl).2, fun i nd hi => ?_⟩⟩
    have hi2 : (ms.map (·.node))[i]? = some nd := by rw [hms]; exact hi
    rw [List.getElem?_map] at hi2
    obtain ⟨m, hm, hmn⟩ := Option.map_eq_some_iff.1 hi2
    refine ⟨m, hmn, hall m (List.mem_of_getElem? hm), fun j v hj hv => ?_⟩
    have := hf g rfl (i * 19 + j) v (by rw [cellsM_get ms i m j hm hj]; exact hv)
    rwa [Addr.add_lit, Nat.zero_add] at this
/-- A row of numbers. -/
theorem ints_row {W : World} {base : Nat} {v : Value} {l : List Nat} (h : W.ownsRow base 3 1 v l.length (intsL l)) :
    ∃ p cap, v = .slice p l.length cap ∧ l.length ≤ cap ∧ l.length ≤ maxLen ∧ (l ≠ [] → ∃ g, p = some ⟨g, 0, none⟩ ∧ ∀ (i x : Nat), l[i]? = some x → W.cell? ⟨g, i, none⟩ = some (.int .i64 (x : Int))) := by
  have hf := fun g hg => h.cells (g := g) hg
  rcases h.2 with ⟨h1, h2⟩ | ⟨g, cap, cur, h2, h3, h4, h5, h6, _⟩
  · exact ⟨none, 0, by rw [h2]; exact h1, by omega, by rw [h2]; exact Nat.zero_le _, fun hc => absurd (List.eq_nil_of_length_eq_zero h2) hc⟩
  · subst h2
    refine ⟨_, cap, rfl, h5, Nat.le_trans h5 h6, fun _ => ⟨g, rfl, fun i x hi => ?_⟩⟩
    have := hf g rfl i (.int .i64 (x : Int)) (by unfold intsL; rw [List.getElem?_map, hi]; rfl)
    rwa [Addr.add_lit, Nat.zero_add] at this
set_option maxRecDepth 100000 in
theorem ints_same {W : World} {va vb : Value} {l : List Nat} {b1 b2 : Nat} (ha : W.ownsRow b1 3 1 va l.length (intsL l)) (hb : W.ownsRow b2 3 1 vb l.length (intsL l)) :
    Calls Tryd.prog 27 #[va, vb] W fun e W' => e = .returned (.bool true) ∧ Below W.heap.size W W' := by
  obtain ⟨p, cp, rfl, h1, h2, hp⟩ := ints_row ha
  obtain ⟨q, cq, rfl, h3, h4, hq⟩ := ints_row hb
  simp only [maxLen] at h2 h4
  have HP := Lib.hid (And.intro hp hq)
  clear ha hb hp hq
  go_enter Tryd.func27, Tryd.ntmps27
  go_wp2_with fail
  go_loopg [5] (l.length + 1) (fun gk c wr => ∃ i : Nat, i ≤ l.length ∧ l.length < i + gk ∧ c = .int .i64 (i : Int) ∧ Drawn W wr)
  case atStart => exact ⟨0, Nat.zero_le _, by omega, rfl, 0, rfl⟩
  case round =>
    obtain ⟨i, hi, hgk, rfl, k, rfl⟩ := hrel
    by_cases hlt : i < l.length
    · have hne : l ≠ [] := by intro h; rw [h] at hlt; simp at hlt
      obtain ⟨g, rfl, hg⟩ := HP.out.1 hne
      obtain ⟨g2, rfl, hg2⟩ := HP.out.2 hne
      obtain ⟨x, hx⟩ : ∃ x, l[i]? = some x := ⟨l[i], List.getElem?_eq_getElem hlt⟩
      have c1 := hg i x hx
      have c2 := hg2 i x hx
      have n1 : (i : Int) < (l.length : Int) := by omega
      have n2 : (0 : Int) ≤ (i : Int) := by omega
      have n3 : decide ((i : Int) < (l.length : Int)) = true := decide_eq_true n1
      have w1_ : IntKind.i64.wrap ((i : Int) + 1) = (i : Int) + 1 := IntWalk.i64_in _ (by omega)
      clear hg hg2 hx
      go_wp2_with fail
      go_region
      go_wp2_with fail
      go_roundg (l.length - i)
      case measure => omega
      case rel => exact ⟨i + 1, by omega, by omega, rfl, Drawn.more ⟨k, rfl⟩ 1⟩
    · have n1 : ¬ (i : Int) < (l.length : Int) := by omega
      have n3 : decide ((i : Int) < (l.length : Int)) = false := decide_eq_false n1
      go_wp2_with fail
      exact bodyPost_ret (results_tmp rfl _ _ _) rfl ⟨rfl, ⟨rfl, rfl, rfl, Nat.le_refl _, fun _ _ => rfl⟩⟩
end Go.Proofs.YtlonkcmkgmbkcaaDoor
