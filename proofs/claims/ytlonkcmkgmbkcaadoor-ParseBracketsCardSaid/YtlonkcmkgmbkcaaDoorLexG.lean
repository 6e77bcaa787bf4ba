/- What a row of tokens is in memory; the walk of the statements' own head, 'shown'. -/
import Derived.Test.YtlonkcmkgmbkcaaDoorLexF
namespace Go.Proofs.YtlonkcmkgmbkcaaDoor
open Go.RowKit LexS
set_option maxHeartbeats 4000000

theorem toksL_cons (a : Tok) (l : List Tok) : toksL (a :: l) = (tokA a).toList ++ toksL l := by simp [toksL]
theorem toksL_get : ∀ (l : List Tok) (i : Nat) (t : Tok) (j : Nat), l[i]? = some t → j < 4 → (toksL l)[i * 4 + j]? = (tokA t).toList[j]?
  | [], i, t, j, h, _ => by simp at h
  | a :: l, 0, t, j, h, hj => by
    simp only [List.getElem?_cons_zero, Option.some.injEq] at h
    subst h
    rw [toksL_cons, Nat.zero_mul, Nat.zero_add, List.getElem?_append_left (by simp [tokA]; omega)]
  | a :: l, i + 1, t, j, h, hj => by
    have ha : (tokA a).toList.length = 4 := rfl
    rw [toksL_cons, List.getElem?_append_right (by rw [ha]; omega), ha]
    have : (i + 1) * 4 + j - 4 = i * 4 + j := by omega
    rw [this]
    exact toksL_get l i t j (by simpa using h) hj
theorem row_form {W : World} {base : Nat} {v : Value} {l : List Tok} (h : W.ownsRow base 32 4 v l.length (toksL l)) (hn : l ≠ []) :
    ∃ g cap, v = .slice (some ⟨g, 0, none⟩) l.length cap ∧ l.length ≤ cap ∧ base ≤ g ∧ g < W.heap.size ∧
      ∀ i t, l[i]? = some t → W.cell? ⟨g, i * 4, none⟩ = some (.int .i64 (t.kind : Int)) ∧ W.cell? ⟨g, i * 4 + 1, none⟩ = some (.string ⟨t.s.toArray⟩) ∧ W.cell? ⟨g, i * 4 + 2, none⟩ = some (.int .i64 t.n) ∧ W.cell? ⟨g, i * 4 + 3, none⟩ = some (.int .i64 (t.at_ : Int)) := by
  have hf := fun g hg => h.cells (g := g) hg
  have hlt := h.lt
  rcases h.2 with ⟨_, h2⟩ | ⟨g, cap, cur, h2, h3, h4, h5, _⟩
  · exact absurd (List.eq_nil_of_length_eq_zero h2) hn
  · subst h2
    refine ⟨g, cap, rfl, h5, h3, (hlt g rfl).2, fun i t hi => ?_⟩
    have hk : ∀ j u, j < 4 → (tokA t).toList[j]? = some u → W.cell? ⟨g, i * 4 + j, none⟩ = some u := by
      intro j u hj hu
      have := hf g rfl (i * 4 + j) u (by rw [toksL_get l i t j hi hj]; exact hu)
      rwa [Addr.add_lit, Nat.zero_add] at this
    exact ⟨hk 0 _ (by omega) rfl, hk 1 _ (by omega) rfl, hk 2 _ (by omega) rfl, hk 3 _ (by omega) rfl⟩
theorem lex_lit (l : Bytes) (x : List Tok × Nat × Nat) (hx : lexS l = x) (hl : l.length ≤ 2048) (w : World) (hg : GW w) : Calls Tryd.prog 13 #[.string ⟨l.toArray⟩] w (LexRes x w) := by
  have h := lex_any ⟨l.toArray⟩ (by simp [ByteArray.size]; omega) w hg
  have e : (⟨l.toArray⟩ : ByteArray).data.toList = l := by simp
  rw [e, hx] at h
  exact h

theorem ex1 : lexS [107, 101, 101, 112, 32, 97, 44, 45, 53] = ([⟨1, [107, 101, 101, 112], 0, 0⟩, ⟨1, [97], 0, 5⟩, ⟨4, [44], 0, 6⟩, ⟨2, [], -5, 7⟩], 0, 0) := by decide +kernel
theorem ex2 : lexS [97, 32, 33, 61, 32, 34, 120, 92, 34, 121, 34] = ([⟨1, [97], 0, 0⟩, ⟨4, [33, 61], 0, 2⟩, ⟨3, [120, 34, 121], 0, 5⟩], 0, 0) := by decide +kernel
theorem ex3 : lexS [53, 97] = ([], 0, 110) := by decide +kernel
theorem ex4 : lexS [97, 32, 45, 32, 53] = ([], 2, 110) := by decide +kernel
theorem ex5 : lexS [34, 97] = ([], 0, 110) := by decide +kernel
theorem ex6 : lexS [48, 48, 55] = ([], 0, 110) := by decide +kernel

set_option maxRecDepth 100000 in
theorem shown_any (w : World) (hg : GW w) : Calls Tryd.prog 12 #[] w fun e w' => e = .returned (.bool true) ∧ Below w.heap.size w w' := by
  have k1 := lex_lit _ _ ex1 (by decide)
  have k2 := lex_lit _ _ ex2 (by decide)
  have k3 := lex_lit _ _ ex3 (by decide)
  have k4 := lex_lit _ _ ex4 (by decide)
  have k5 := lex_lit _ _ ex5 (by decide)
  have k6 := lex_lit _ _ ex6 (by decide)
  go_enter Tryd.func12, Tryd.ntmps12
  go_wp2_with fail
  refine (k1 _ hg).mono ?_
  rintro e w1 ⟨v1, rfl, o1, b1⟩
  have g1 := hg.kept b1
  dsimp only
  go_wp2_with fail
  refine (k2 _ g1).mono ?_
  rintro e w2 ⟨v2, rfl, o2, b2⟩
  have g2 := g1.kept b2
  dsimp only
  go_wp2_with fail
  refine (k3 _ g2).mono ?_
  rintro e w3 ⟨v3, rfl, o3, b3⟩
  have g3 := g2.kept b3
  dsimp only
  go_wp2_with fail
  refine (k4 _ g3).mono ?_
  rintro e w4 ⟨v4, rfl, o4, b4⟩
  have g4 := g3.kept b4
  dsimp only
  go_wp2_with fail
  refine (k5 _ g4).mono ?_
  rintro e w5 ⟨v5, rfl, o5, b5⟩
  have g5 := g4.kept b5
  dsimp only
  go_wp2_with fail
  refine (k6 _ g5).mono ?_
  rintro e w6 ⟨v6, rfl, o6, b6⟩
  dsimp only
  have q1 := own_kept (own_kept (own_kept (own_kept (own_kept o1 b2) b3) b4) b5) b6
  have q2 := own_kept (own_kept (own_kept (own_kept o2 b3) b4) b5) b6
  obtain ⟨ga, ca, rfl, _, _, _, ha⟩ := row_form q1 (by simp)
  obtain ⟨gb, cb, rfl, _, _, _, hb⟩ := row_form q2 (by simp)
  have a0 : w6.cell? ⟨ga, 12, none⟩ = some (.int .i64 2) := (ha 3 _ rfl).1
  have a1 : w6.cell? ⟨ga, 13, none⟩ = some (.string ⟨#[]⟩) := (ha 3 _ rfl).2.1
  have a2 : w6.cell? ⟨ga, 14, none⟩ = some (.int .i64 (-5)) := (ha 3 _ rfl).2.2.1
  have a3 : w6.cell? ⟨ga, 15, none⟩ = some (.int .i64 7) := (ha 3 _ rfl).2.2.2
  have c1 : w6.cell? ⟨gb, 5, none⟩ = some (.string ⟨#[33, 61]⟩) := (hb 1 _ rfl).2.1
  have c2 : w6.cell? ⟨gb, 9, none⟩ = some (.string ⟨#[120, 34, 121]⟩) := (hb 2 _ rfl).2.1
  have HB := Lib.hid (chain (chain (chain (chain (chain b1 b2) b3) b4) b5) b6)
  clear q1 q2 o1 o2 o3 o4 o5 o6 b1 b2 b3 b4 b5 b6 g1 g2 g3 g4 g5 k1 k2 k3 k4 k5 k6 ha hb hg
  go_wp2_with fail
  exact bodyPost_ret (results_tmp rfl _ _ _) rfl ⟨rfl, HB.out⟩
end Go.Proofs.YtlonkcmkgmbkcaaDoor
