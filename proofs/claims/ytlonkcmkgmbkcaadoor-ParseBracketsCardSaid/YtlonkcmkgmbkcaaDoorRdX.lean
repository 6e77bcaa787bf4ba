/- The walk of package parse's Query: a text. A tree's nodes as they lie; the walk of ints. The walk of the law's shown: five texts. -/
import Derived.Test.YtlonkcmkgmbkcaaDoorRdT
import Derived.Test.YtlonkcmkgmbkcaaDoorPlacesW
/-! The walk of package parse's Query: a text. -/
namespace Go.Proofs.YtlonkcmkgmbkcaaDoor
open Go.RowKit LexS ParS BigFrame
set_option maxHeartbeats 4000000
set_option linter.unusedVariables false
set_option linter.unusedSimpArgs false
attribute [local go_sem] World.cell?_alloc_some cell_drewN_new free_drewN_new cell_drew_new free_drew_new

theorem two_put {W W0 w1 : World} {nv : Value} {ns : List Nd} (hb0 : Below W.heap.size W W0) (hs0 : W.heap.size < W0.heap.size) (k0 : Blk W0 W.heap.size 39 #[.slice none 0 0]) (hn : NS w1 W0.heap.size nv ns) (hb : Below W0.heap.size W0 w1) :
    Blk ((w1.setCell ⟨W.heap.size, 0, none⟩ nv).setCell ⟨W.heap.size, 0, none⟩ nv) W.heap.size 39 #[nv] ∧ NS ((w1.setCell ⟨W.heap.size, 0, none⟩ nv).setCell ⟨W.heap.size, 0, none⟩ nv) W.heap.size nv ns ∧ Below W.heap.size W ((w1.setCell ⟨W.heap.size, 0, none⟩ nv).setCell ⟨W.heap.size, 0, none⟩ nv) :=
  ⟨((k0.kept hb).put 0 nv).put 0 nv, hn.high (fun k hk => (Below.heap_setCell _ _ _ _ (show k ≠ W.heap.size by omega)).trans (Below.heap_setCell _ _ _ _ (show k ≠ W.heap.size by omega))) (by omega),
    ((hb0.trans (hb.mono (Nat.le_of_lt hs0))).setCell (p := ⟨W.heap.size, 0, none⟩) (Nat.le_refl _) nv).setCell (p := ⟨W.heap.size, 0, none⟩) (Nat.le_refl _) nv⟩
theorem NS.self {W : World} {b : Nat} {v : Value} {ns : List Nd} {b' : Nat} (h : NS W b v ns) (hb : b' ≤ b) : NS W b' v ns := h.high (fun _ _ => rfl) hb
set_option maxRecDepth 100000 in
theorem query_text (s : ByteArray) (hs : s.size ≤ 140737488351232) (w : World) (hg : GW w) :
    Calls Tryd.prog 20 #[.string s] w (PostAll w (queryS s.data.toList)) := by
  obtain ⟨W0, hW0⟩ : ∃ W0, W0 = w.alloc (.cells #[.slice none 0 0] 39) := ⟨_, rfl⟩
  have hb0 : Below w.heap.size w W0 := by rw [hW0]; exact (Below.refl _ _).alloc (Nat.le_refl _) _
  have k0 : Blk W0 w.heap.size 39 #[.slice none 0 0] := by rw [hW0]; exact Blk.new w _ _
  have hs0 : w.heap.size < W0.heap.size := k0.lt
  have HK := Lib.hid (And.intro hb0 (And.intro hs0 k0))
  have hlex := lex_any s hs W0 (hg.kept hb0)
  have HW0 := Lib.hid hW0
  obtain ⟨⟨x, a, er⟩, hx⟩ : ∃ q, q = lexS s.data.toList := ⟨_, rfl⟩
  have HX := Lib.hid hx
  rw [← hx] at hlex
  have HL := Lib.hid hlex
  clear hb0 k0 hs0 hlex hx hg
  go_enter Tryd.func20, Tryd.ntmps20
  go_wp2_with fail
  rw [show w.alloc (.cells #[.slice none 0 0] 39) = W0 from HW0.out.symm]
  clear hW0
  refine HL.out.mono ?_
  rintro e w1 ⟨v, rfl, o1, b1⟩
  dsimp only at o1 ⊢
  have k1 := HK.out.2.2.kept b1
  have c0 : w1.cell? ⟨w.heap.size, 0, none⟩ = some (.slice none 0 0) := k1.cell 0
  have f0 := k1.free 0
  by_cases he : er = 0
  case neg =>
    have HE := Lib.hid (show queryS s.data.toList = ([], a, er) by unfold queryS; rw [← HX.out]; dsimp only; rw [if_pos he])
    have HF := Lib.hid (one_put HK.out.1 HK.out.2.1 HK.out.2.2 nil_NS b1)
    have he2 : ((er : Int) == 0) = false := by rw [beq_eq_false_iff_ne]; omega
    have he3 : ¬ (er : Int) = 0 := by omega
    clear o1 b1 k1
    go_wp2_with fail
    exact bodyPost_ret (res_q Tryd.results20 rfl rfl rfl HF.out.1) rfl ⟨_, by rw [HE.out]; rfl, by rw [HE.out]; exact HF.out.2.1, HF.out.2.2⟩
  subst he
  have O1 := Lib.hid o1
  have B1 := Lib.hid b1
  have HP := Lib.hid (parse_any (own_base o1 (Nat.zero_le _)))
  clear o1 b1 k1
  go_wp2_with fail
  refine HP.out.mono ?_
  rintro e w2 ⟨nv, rfl, hn, b2⟩
  obtain ⟨⟨ns, n, f⟩, hp⟩ : ∃ q, q = parseS x := ⟨_, rfl⟩
  rw [← hp] at hn ⊢
  dsimp only at hn ⊢
  have HPS := Lib.hid hp
  obtain ⟨no, nc, rfl⟩ : ∃ o c, nv = .slice o ns.length c := by
    obtain ⟨ms, _, ho, _⟩ := hn
    exact row_slice ho
  have hb12 : Below W0.heap.size W0 w2 := chain B1.out b2
  have hn2 := hn.self (b' := W0.heap.size) B1.out.size
  have HF := Lib.hid (two_put HK.out.1 HK.out.2.1 HK.out.2.2 hn2 hb12)
  have HF1 := Lib.hid (one_put HK.out.1 HK.out.2.1 HK.out.2.2 hn2 hb12)
  have k2 := HK.out.2.2.kept hb12
  have d0 : w2.cell? ⟨w.heap.size, 0, none⟩ = some (.slice none 0 0) := k2.cell 0
  have g0 := k2.free 0
  have O2 := Lib.hid (own_high (own_kept O1.out b2) (W' := w2.setCell ⟨w.heap.size, 0, none⟩ (.slice no ns.length nc)) (fun k hk => Below.heap_setCell _ _ _ _ (show k ≠ w.heap.size by have := HK.out.2.1; omega)))
  clear hn b2 hb12 hn2 k2 hp c0 f0
  by_cases hf : f = 0
  · subst hf
    have HE := Lib.hid (show queryS s.data.toList = (ns, 0, 0) by unfold queryS; rw [← HX.out]; dsimp only; rw [if_neg (by simp), ← HPS.out]; rfl)
    go_wp2_with fail
    exact bodyPost_ret (res_q Tryd.results20 rfl rfl rfl HF.out.1) rfl ⟨_, by rw [HE.out]; rfl, by rw [HE.out]; exact HF.out.2.1, HF.out.2.2⟩
  have hf2 : ((f : Int) == 0) = false := by rw [beq_eq_false_iff_ne]; omega
  have hf3 : ¬ (f : Int) = 0 := by omega
  obtain ⟨p, cap, rfl, hcap, hmax, hrow⟩ := row_any O2.out
  have HR := Lib.hid hrow
  simp only [maxLen] at hmax
  clear hrow
  by_cases hlt : n < x.length
  · obtain ⟨t, ht⟩ : ∃ t, x[n]? = some t := ⟨x[n], List.getElem?_eq_getElem hlt⟩
    have hne : x ≠ [] := by intro h; rw [h] at hlt; simp at hlt
    have HE := Lib.hid (show queryS s.data.toList = (ns, t.at_, f) by
      unfold queryS
      rw [← HX.out]
      dsimp only
      rw [if_neg (by simp), ← HPS.out]
      dsimp only
      rw [if_neg hf, ht])
    obtain ⟨g, rfl, hg1, hg2, hcells⟩ := HR.out hne
    obtain ⟨q0, q1, q2, q3⟩ := hcells n t ht
    have l1 : (n : Int) < (x.length : Int) := by omega
    have l2 : decide ((n : Int) < (x.length : Int)) = true := decide_eq_true l1
    have l3 : (0 : Int) ≤ (n : Int) := by omega
    clear hcells
    go_wp2_with fail
    go_region
    go_wp2_with fail
    exact bodyPost_ret (res_q Tryd.results20 rfl rfl rfl (show Blk (World.drew _) _ _ _ from HF.out.1)) rfl ⟨_, by rw [HE.out]; rfl, by rw [HE.out]; exact HF.out.2.1.high (fun _ _ => rfl) (Nat.le_refl _), HF.out.2.2.drew⟩
  · have HE := Lib.hid (show queryS s.data.toList = (ns, s.data.toList.length, f) by
      unfold queryS
      rw [← HX.out]
      dsimp only
      rw [if_neg (by simp), ← HPS.out]
      dsimp only
      rw [if_neg hf, List.getElem?_eq_none (by omega)])
    have l1 : ¬ (n : Int) < (x.length : Int) := by omega
    have l2 : decide ((n : Int) < (x.length : Int)) = false := decide_eq_false l1
    go_wp2_with fail
    exact bodyPost_ret (res_q Tryd.results20 rfl rfl rfl HF.out.1) rfl ⟨_, by rw [HE.out]; rfl, by rw [HE.out]; exact HF.out.2.1, HF.out.2.2⟩
end Go.Proofs.YtlonkcmkgmbkcaaDoor

/-! A tree's nodes as they lie; the walk of ints. -/
namespace Go.Proofs.YtlonkcmkgmbkcaaDoor
open Go.RowKit LexS ParS BigFrame
set_option maxHeartbeats 4000000
set_option linter.unusedVariables false
set_option linter.unusedSimpArgs false

theorem cellsM_cons (a : NodeM) (l : List NodeM) : cellsM (a :: l) = a.cells ++ cellsM l := by simp [cellsM]
theorem cellsM_get : ∀ (l : List NodeM) (i : Nat) (t : NodeM) (j : Nat), l[i]? = some t → j < 19 → (cellsM l)[i * 19 + j]? = t.cells[j]?
  | [], i, t, j, h, _ => by simp at h
  | a :: l, 0, t, j, h, hj => by
    simp only [List.getElem?_cons_zero, Option.some.injEq] at h
    subst h
    rw [cellsM_cons, Nat.zero_mul, Nat.zero_add, List.getElem?_append_left (by simp [NodeM.cells]; omega)]
  | a :: l, i + 1, t, j, h, hj => by
    have ha : a.cells.length = 19 := rfl
    rw [cellsM_cons, List.getElem?_append_right (by rw [ha]; omega), ha]
    have : (i + 1) * 19 + j - 19 = i * 19 + j := by omega
    rw [this]
    exact cellsM_get l i t j (by simpa using h) hj
/-- A tree's row. -/
theorem nodes_row {W : World} {base : Nat} {nv : Value} {ns : List Nd} (h : NS W base nv ns) :
    ∃ p cap, nv = .slice p ns.length cap ∧ ns.length ≤ cap ∧ ns.length ≤ maxLen ∧ (ns ≠ [] → ∃ g, p = some ⟨g, 0, none⟩ ∧ base ≤ g ∧ g < W.heap.size ∧
      ∀ i nd, ns[i]? = some nd → ∃ m : NodeM, m.node = nd ∧ MOk W base m ∧ ∀ j v, j < 19 → m.cells[j]? = some v → W.cell? ⟨g, i * 19 + j, none⟩ = some v) := by
  obtain ⟨ms, hms, ho, hall⟩ := h
  have hf := fun g hg => ho.cells (g := g) hg
  have hlt := ho.lt
  have hlen : ms.length = ns.length := by rw [← hms, List.length_map]
  rcases ho.2 with ⟨h1, h2⟩ | ⟨g, cap, cur, h2, h3, h4, h5, h6, _⟩
  · exact ⟨none, 0, by rw [h2]; exact h1, by omega, by rw [h2]; exact Nat.zero_le _, fun hc => absurd (List.eq_nil_of_length_eq_zero h2) hc⟩
  · subst h2
    refine ⟨_, cap, rfl, h5, Nat.le_trans h5 h6, fun _ => ⟨g, rfl, h3, (hlt g rfl).2, fun i nd hi => ?_⟩⟩
    have hi2 : (ms.map (·.node))[i]? = some nd := by rw [hms]; exact hi
    rw [List.getElem?_map] at hi2
    obtain ⟨m, hm, hmn⟩ := Option.map_eq_some_iff.1 hi2
    refine ⟨m, hmn, hall m (List.mem_of_getElem? hm), fun j v hj hv => ?_⟩
    have := hf g rfl (i * 19 + j) v (by rw [cellsM_get ms i m j hm hj]; exact hv)
    rwa [Addr.add_lit, Nat.zero_add] at this
/-- A row of numbers. -/
theorem ints_row {W : World} {base : Nat} {v : Value} {l : List Nat} (h : W.ownsRow base 3 1 v l.length (intsL l)) :
    ∃ p cap, v = .slice p l.length cap ∧ l.length ≤ cap ∧ l.length ≤ maxLen ∧ (l ≠ [] → ∃ g, p = some ⟨g, 0, none⟩ ∧ ∀ (i x : Nat), l[i]? = some x → W.cell? ⟨g, i, none⟩ = some (.int .i64 (x : Int))) := by
  have hf := fun g hg => h.cells (g := g) hg
  rcases h.2 with ⟨h1, h2⟩ | ⟨g, cap, cur, h2, h3, h4, h5, h6, _⟩
  · exact ⟨none, 0, by rw [h2]; exact h1, by omega, by rw [h2]; exact Nat.zero_le _, fun hc => absurd (List.eq_nil_of_length_eq_zero h2) hc⟩
  · subst h2
    refine ⟨_, cap, rfl, h5, Nat.le_trans h5 h6, fun _ => ⟨g, rfl, fun i x hi => ?_⟩⟩
    have := hf g rfl i (.int .i64 (x : Int)) (by unfold intsL; rw [List.getElem?_map, hi]; rfl)
    rwa [Addr.add_lit, Nat.zero_add] at this
set_option maxRecDepth 100000 in
theorem ints_same {W : World} {va vb : Value} {l : List Nat} {b1 b2 : Nat} (ha : W.ownsRow b1 3 1 va l.length (intsL l)) (hb : W.ownsRow b2 3 1 vb l.length (intsL l)) :
    Calls Tryd.prog 27 #[va, vb] W fun e W' => e = .returned (.bool true) ∧ Below W.heap.size W W' := by
  obtain ⟨p, cp, rfl, h1, h2, hp⟩ := ints_row ha
  obtain ⟨q, cq, rfl, h3, h4, hq⟩ := ints_row hb
  simp only [maxLen] at h2 h4
  have HP := Lib.hid (And.intro hp hq)
  clear ha hb hp hq
  go_enter Tryd.func27, Tryd.ntmps27
  go_wp2_with fail
  go_loopg [5] (l.length + 1) (fun gk c wr => ∃ i : Nat, i ≤ l.length ∧ l.length < i + gk ∧ c = .int .i64 (i : Int) ∧ Drawn W wr)
  case atStart => exact ⟨0, Nat.zero_le _, by omega, rfl, 0, rfl⟩
  case round =>
    obtain ⟨i, hi, hgk, rfl, k, rfl⟩ := hrel
    by_cases hlt : i < l.length
    · have hne : l ≠ [] := by intro h; rw [h] at hlt; simp at hlt
      obtain ⟨g, rfl, hg⟩ := HP.out.1 hne
      obtain ⟨g2, rfl, hg2⟩ := HP.out.2 hne
      obtain ⟨x, hx⟩ : ∃ x, l[i]? = some x := ⟨l[i], List.getElem?_eq_getElem hlt⟩
      have c1 := hg i x hx
      have c2 := hg2 i x hx
      have n1 : (i : Int) < (l.length : Int) := by omega
      have n2 : (0 : Int) ≤ (i : Int) := by omega
      have n3 : decide ((i : Int) < (l.length : Int)) = true := decide_eq_true n1
      have w1_ : IntKind.i64.wrap ((i : Int) + 1) = (i : Int) + 1 := IntWalk.i64_in _ (by omega)
      clear hg hg2 hx
      go_wp2_with fail
      go_region
      go_wp2_with fail
      go_roundg (l.length - i)
      case measure => omega
      case rel => exact ⟨i + 1, by omega, by omega, rfl, Drawn.more ⟨k, rfl⟩ 1⟩
    · have n1 : ¬ (i : Int) < (l.length : Int) := by omega
      have n3 : decide ((i : Int) < (l.length : Int)) = false := decide_eq_false n1
      go_wp2_with fail
      exact bodyPost_ret (results_tmp rfl _ _ _) rfl ⟨rfl, ⟨rfl, rfl, rfl, Nat.le_refl _, fun _ _ => rfl⟩⟩
end Go.Proofs.YtlonkcmkgmbkcaaDoor

/-! The walk of the law's shown: five texts. -/
namespace Go.Proofs.YtlonkcmkgmbkcaaDoor
open Go.RowKit LexS ParS BigFrame
set_option maxHeartbeats 4000000
set_option linter.unusedVariables false
set_option linter.unusedSimpArgs false
attribute [local go_sem] World.cell?_alloc_some cell_drewN_new free_drewN_new cell_drew_new free_drew_new

def tree1 : List Nd := [⟨1, [108, 111, 97, 100], 0, 0, 1099511627775, ⟨0, 0, []⟩, [], [], []⟩, ⟨14, [104, 111, 115, 116], 1, 0, 0, ⟨2, 0, [97]⟩, [], [], []⟩, ⟨14, [110], 5, 0, 0, ⟨1, 5, []⟩, [], [], []⟩, ⟨14, [117, 112], 1, 0, 0, ⟨3, 1, []⟩, [], [], []⟩, ⟨11, [], 0, 0, 0, ⟨0, 0, []⟩, [2, 3], [], []⟩, ⟨12, [], 0, 0, 0, ⟨0, 0, []⟩, [1, 4], [], []⟩, ⟨2, [], 0, 0, 0, ⟨0, 0, []⟩, [0, 5], [], []⟩, ⟨6, [110], 3, 0, 0, ⟨0, 0, []⟩, [6], [], []⟩]
def tree2 : List Nd := [⟨1, [108, 111, 97, 100], 0, 0, 1099511627775, ⟨0, 0, []⟩, [], [], []⟩, ⟨1, [108, 97, 116], 0, 0, 1099511627775, ⟨0, 0, []⟩, [], [], []⟩, ⟨7, [], 0, 0, 0, ⟨0, 0, []⟩, [0, 1], [], []⟩, ⟨3, [], 0, 0, 0, ⟨0, 0, []⟩, [2], [[104, 111, 115, 116]], []⟩]
theorem query_lit (l : Bytes) (x : List Nd × Nat × Nat) (hx : queryS l = x) (hl : l.length ≤ 2048) (w : World) (hg : GW w) : Calls Tryd.prog 20 #[.string ⟨l.toArray⟩] w (PostAll w x) := by
  have := query_text ⟨l.toArray⟩ (by show l.toArray.size ≤ _; simp; omega) w hg
  rw [show (⟨l.toArray⟩ : ByteArray).data.toList = l from by simp, hx] at this
  exact this
/-- A node of a tree: its numbers, and two of its cells. -/
theorem node_at {W : World} {base g : Nat} {ns : List Nd} (h : ∀ i nd, ns[i]? = some nd → ∃ m : NodeM, m.node = nd ∧ MOk W base m ∧ ∀ j v, j < 19 → m.cells[j]? = some v → W.cell? ⟨g, i * 19 + j, none⟩ = some v) (i : Nat) (nd : Nd) (hi : ns[i]? = some nd) :
    ∃ lv, W.cell? ⟨g, i * 19 + 16, none⟩ = some lv ∧ W.ownsRow base 3 1 lv nd.l.length (intsL nd.l) ∧ W.cell? ⟨g, i * 19, none⟩ = some (.int .i64 (nd.kind : Int)) ∧ W.cell? ⟨g, i * 19 + 2, none⟩ = some (.int .i64 nd.n) ∧ W.cell? ⟨g, i * 19 + 1, none⟩ = some (.string (BA nd.s)) := by
  obtain ⟨m, rfl, hm, hc⟩ := h i nd hi
  exact ⟨_, hc 16 _ (by omega) rfl, hm.l, hc 0 _ (by omega) rfl, hc 2 _ (by omega) rfl, hc 1 _ (by omega) rfl⟩
theorem exq1 : queryS [102, 101, 116, 99, 104, 32, 108, 111, 97, 100, 32, 124, 32, 119, 104, 101, 114, 101, 32, 104, 111, 115, 116, 32, 61, 32, 34, 97, 34, 32, 111, 114, 32, 110, 32, 62, 32, 53, 32, 97, 110, 100, 32, 117, 112, 32, 61, 32, 116, 114, 117, 101, 32, 124, 32, 116, 111, 112, 32, 51, 32, 98, 121, 32, 110] = (tree1, 0, 0) := by decide +kernel
theorem exq2 : queryS [102, 101, 116, 99, 104, 32, 108, 111, 97, 100, 32, 124, 32, 106, 111, 105, 110, 32, 40, 102, 101, 116, 99, 104, 32, 108, 97, 116, 41, 32, 124, 32, 107, 101, 101, 112, 32, 104, 111, 115, 116] = (tree2, 0, 0) := by decide +kernel
theorem exq3 : queryS [102, 101, 116, 99, 104, 32, 108, 111, 97, 100, 32, 124] = ([], 12, 120) := by decide +kernel
theorem exq4 : queryS [102, 101, 116, 99, 104, 32, 108, 111, 97, 100, 32, 124, 32, 98, 121] = ([], 13, 120) := by decide +kernel
theorem exq5 : queryS [102, 101, 116, 99, 104, 32, 53] = ([], 6, 120) := by decide +kernel
set_option maxRecDepth 100000 in
theorem shown_12 (w : World) (hg : GW w) : Calls Tryd.prog 19 #[] w fun e w' => e = .returned (.bool true) ∧ Below w.heap.size w w' := by
  have k1 := query_lit _ _ exq1 (by decide)
  have k2 := query_lit _ _ exq2 (by decide)
  have k3 := query_lit _ _ exq3 (by decide)
  have k4 := query_lit _ _ exq4 (by decide)
  have k5 := query_lit _ _ exq5 (by decide)
  have g0 : GW w := hg
  go_enter Tryd.func19, Tryd.ntmps19
  go_wp2_with fail
  refine (k1 _ g0).mono ?_
  rintro e w1 ⟨v1, rfl, n1, b1⟩
  obtain ⟨p1, c1, hv1, _, _, r1⟩ := nodes_row n1
  have hv1 : v1 = .slice p1 8 c1 := hv1
  subst hv1
  obtain ⟨u1, hu1⟩ : ∃ u1, u1 = w1.alloc (.cells #[.slice p1 8 c1] 39) := ⟨_, rfl⟩
  have y1 : Below w1.heap.size w1 u1 := by rw [hu1]; exact (Below.refl _ _).alloc (Nat.le_refl _) _
  have x1 : u1.cell? ⟨w1.heap.size, 0, none⟩ = some (.slice p1 8 c1) := by rw [hu1]; exact (Blk.new w1 39 #[.slice p1 8 c1]).cell 0
  have g1 := (g0.kept b1).kept y1
  have z1 := chain b1 (y1.mono (Nat.le_refl _))
  dsimp only
  go_wp2_with fail
  rw [show w1.alloc (.cells #[.slice p1 8 c1] 39) = u1 from hu1.symm]
  refine (k2 _ g1).mono ?_
  rintro e w2 ⟨v2, rfl, n2, b2⟩
  obtain ⟨p2, c2, hv2, _, _, r2⟩ := nodes_row n2
  have hv2 : v2 = .slice p2 4 c2 := hv2
  subst hv2
  obtain ⟨u2, hu2⟩ : ∃ u2, u2 = w2.alloc (.cells #[.slice p2 4 c2] 39) := ⟨_, rfl⟩
  have y2 : Below w2.heap.size w2 u2 := by rw [hu2]; exact (Below.refl _ _).alloc (Nat.le_refl _) _
  have x2 : u2.cell? ⟨w2.heap.size, 0, none⟩ = some (.slice p2 4 c2) := by rw [hu2]; exact (Blk.new w2 39 #[.slice p2 4 c2]).cell 0
  have g2 := (g1.kept b2).kept y2
  have z2 := chain b2 (y2.mono (Nat.le_refl _))
  dsimp only
  go_wp2_with fail
  rw [show w2.alloc (.cells #[.slice p2 4 c2] 39) = u2 from hu2.symm]
  refine (k3 _ g2).mono ?_
  rintro e w3 ⟨v3, rfl, n3, b3⟩
  obtain ⟨p3, c3, hv3, _, _, r3⟩ := nodes_row n3
  have hv3 : v3 = .slice p3 0 c3 := hv3
  subst hv3
  obtain ⟨u3, hu3⟩ : ∃ u3, u3 = w3.alloc (.cells #[.slice p3 0 c3] 39) := ⟨_, rfl⟩
  have y3 : Below w3.heap.size w3 u3 := by rw [hu3]; exact (Below.refl _ _).alloc (Nat.le_refl _) _
  have x3 : u3.cell? ⟨w3.heap.size, 0, none⟩ = some (.slice p3 0 c3) := by rw [hu3]; exact (Blk.new w3 39 #[.slice p3 0 c3]).cell 0
  have g3 := (g2.kept b3).kept y3
  have z3 := chain b3 (y3.mono (Nat.le_refl _))
  dsimp only
  go_wp2_with fail
  rw [show w3.alloc (.cells #[.slice p3 0 c3] 39) = u3 from hu3.symm]
  refine (k4 _ g3).mono ?_
  rintro e w4 ⟨v4, rfl, n4, b4⟩
  obtain ⟨p4, c4, hv4, _, _, r4⟩ := nodes_row n4
  have hv4 : v4 = .slice p4 0 c4 := hv4
  subst hv4
  obtain ⟨u4, hu4⟩ : ∃ u4, u4 = w4.alloc (.cells #[.slice p4 0 c4] 39) := ⟨_, rfl⟩
  have y4 : Below w4.heap.size w4 u4 := by rw [hu4]; exact (Below.refl _ _).alloc (Nat.le_refl _) _
  have x4 : u4.cell? ⟨w4.heap.size, 0, none⟩ = some (.slice p4 0 c4) := by rw [hu4]; exact (Blk.new w4 39 #[.slice p4 0 c4]).cell 0
  have g4 := (g3.kept b4).kept y4
  have z4 := chain b4 (y4.mono (Nat.le_refl _))
  dsimp only
  go_wp2_with fail
  rw [show w4.alloc (.cells #[.slice p4 0 c4] 39) = u4 from hu4.symm]
  refine (k5 _ g4).mono ?_
  rintro e w5 ⟨v5, rfl, n5, b5⟩
  obtain ⟨p5, c5, hv5, _, _, r5⟩ := nodes_row n5
  have hv5 : v5 = .slice p5 0 c5 := hv5
  subst hv5
  obtain ⟨u5, hu5⟩ : ∃ u5, u5 = w5.alloc (.cells #[.slice p5 0 c5] 39) := ⟨_, rfl⟩
  have y5 : Below w5.heap.size w5 u5 := by rw [hu5]; exact (Below.refl _ _).alloc (Nat.le_refl _) _
  have x5 : u5.cell? ⟨w5.heap.size, 0, none⟩ = some (.slice p5 0 c5) := by rw [hu5]; exact (Blk.new w5 39 #[.slice p5 0 c5]).cell 0
  have g5 := (g4.kept b5).kept y5
  have z5 := chain b5 (y5.mono (Nat.le_refl _))
  dsimp only
  have X1 := keepc z5 (keepc z4 (keepc z3 (keepc z2 (x1))))
  have X2 := keepc z5 (keepc z4 (keepc z3 (x2)))
  have N1 := n1.kept (chain y1 (chain z2 (chain z3 (chain z4 z5))))
  have N2 := n2.kept (chain y2 (chain z3 (chain z4 z5)))
  have T5 : Below w.heap.size w u5 := chain (chain (chain (chain z1 z2) z3) z4) z5
  obtain ⟨pa, ca, ha1, _, _, ha⟩ := nodes_row N1
  obtain ⟨rfl, _, rfl⟩ : p1 = pa ∧ True ∧ c1 = ca := by
    injection ha1 with q1 q2 q3
    exact ⟨q1, trivial, q3⟩
  obtain ⟨g1_, rfl, _, _, hA⟩ := ha (by decide)
  obtain ⟨pb, cb, hb1, _, _, hb⟩ := nodes_row N2
  obtain ⟨rfl, _, rfl⟩ : p2 = pb ∧ True ∧ c2 = cb := by
    injection hb1 with q1 q2 q3
    exact ⟨q1, trivial, q3⟩
  obtain ⟨g2_, rfl, _, _, hB⟩ := hb (by decide)
  obtain ⟨l4, e4, o4, _, _, _⟩ := node_at hA 4 _ rfl
  obtain ⟨l5, e5, o5, q5, _, _⟩ := node_at hA 5 _ rfl
  obtain ⟨l6, e6, o6, _, _, _⟩ := node_at hA 6 _ rfl
  obtain ⟨l7, e7, o7, _, m7, s7⟩ := node_at hA 7 _ rfl
  obtain ⟨lb, eb, ob, _, _, _⟩ := node_at hB 2 _ rfl
  have F := Lib.hid (And.intro X1 (And.intro X2 (And.intro e4 (And.intro e5 (And.intro e6 (And.intro e7 (And.intro eb (And.intro q5 (And.intro m7 s7)))))))))
  have O := Lib.hid (And.intro o4 (And.intro o5 (And.intro o6 (And.intro o7 ob))))
  have TT := Lib.hid T5
  have HU5 := Lib.hid hu5
  clear n1 n2 n3 n4 n5 b1 b2 b3 b4 b5 r1 r2 r3 r4 r5 y1 y2 y3 y4 y5 x1 x2 x3 x4 x5 g0 g1 g2 g3 g4 g5 z1 z2 z3 z4 z5 N1 N2 T5 ha hb hA hB ha1 hb1 k1 k2 k3 k4 k5 hg hu1 hu2 hu3 hu4 o4 o5 o6 o7 ob X1 X2 e4 e5 e6 e7 eb q5 m7 s7
  have f0_X1 : u5.cell? ⟨w1.heap.size, 0, none⟩ = some (.slice (some ⟨g1_, 0, none⟩) 8 c1) := F.out.1
  have f0_X2 : u5.cell? ⟨w2.heap.size, 0, none⟩ = some (.slice (some ⟨g2_, 0, none⟩) 4 c2) := F.out.2.1
  have f0_e4 : u5.cell? ⟨g1_, 92, none⟩ = some (l4) := F.out.2.2.1
  have f0_e5 : u5.cell? ⟨g1_, 111, none⟩ = some (l5) := F.out.2.2.2.1
  have f0_e6 : u5.cell? ⟨g1_, 130, none⟩ = some (l6) := F.out.2.2.2.2.1
  have f0_e7 : u5.cell? ⟨g1_, 149, none⟩ = some (l7) := F.out.2.2.2.2.2.1
  have f0_eb : u5.cell? ⟨g2_, 54, none⟩ = some (lb) := F.out.2.2.2.2.2.2.1
  have f0_q5 : u5.cell? ⟨g1_, 95, none⟩ = some (.int .i64 12) := F.out.2.2.2.2.2.2.2.1
  have f0_m7 : u5.cell? ⟨g1_, 135, none⟩ = some (.int .i64 3) := F.out.2.2.2.2.2.2.2.2.1
  have f0_s7 : u5.cell? ⟨g1_, 134, none⟩ = some (.string ⟨#[110]⟩) := F.out.2.2.2.2.2.2.2.2.2
  obtain ⟨a0, hj0⟩ : ∃ a0, a0 = u5.alloc (.cells #[.int .i64 2, .int .i64 3] 3) := ⟨_, rfl⟩
  have hk0 : Below u5.heap.size u5 a0 := by rw [hj0]; exact (Below.refl _ _).alloc (Nat.le_refl _) _
  have hn0 : a0.ownsRow 0 3 1 (.slice (some ⟨u5.heap.size, 0, none⟩) 2 2) 2 (intsL [2, 3]) := own_blk (cs := intsL [2, 3]) (by rw [hj0]; exact Blk.new u5 _ _) (Nat.zero_le _) rfl (by decide)
  have hm0 := ints_same (l := [2, 3]) (own_kept O.out.1 hk0) hn0
  go_upto_region 6 with fail
  rw [show w5.alloc (.cells #[.slice p5 0 c5] 39) = u5 from HU5.out.symm]
  clear hu5
  go_wp2_with fail
  rw [show u5.alloc (.cells #[.int .i64 2, .int .i64 3] 3) = a0 from hj0.symm]
  refine hm0.mono ?_
  rintro e s1 ⟨rfl, hs1⟩
  have hz1 : Below u5.heap.size u5 s1 := chain hk0 hs1
  clear f0_X1 f0_X2 f0_e4 f0_e5 f0_e6 f0_e7 f0_eb f0_q5 f0_m7 f0_s7 hj0
  have f1_X1 : s1.cell? ⟨w1.heap.size, 0, none⟩ = some (.slice (some ⟨g1_, 0, none⟩) 8 c1) := keepc hz1 (F.out.1)
  have f1_X2 : s1.cell? ⟨w2.heap.size, 0, none⟩ = some (.slice (some ⟨g2_, 0, none⟩) 4 c2) := keepc hz1 (F.out.2.1)
  have f1_e4 : s1.cell? ⟨g1_, 92, none⟩ = some (l4) := keepc hz1 (F.out.2.2.1)
  have f1_e5 : s1.cell? ⟨g1_, 111, none⟩ = some (l5) := keepc hz1 (F.out.2.2.2.1)
  have f1_e6 : s1.cell? ⟨g1_, 130, none⟩ = some (l6) := keepc hz1 (F.out.2.2.2.2.1)
  have f1_e7 : s1.cell? ⟨g1_, 149, none⟩ = some (l7) := keepc hz1 (F.out.2.2.2.2.2.1)
  have f1_eb : s1.cell? ⟨g2_, 54, none⟩ = some (lb) := keepc hz1 (F.out.2.2.2.2.2.2.1)
  have f1_q5 : s1.cell? ⟨g1_, 95, none⟩ = some (.int .i64 12) := keepc hz1 (F.out.2.2.2.2.2.2.2.1)
  have f1_m7 : s1.cell? ⟨g1_, 135, none⟩ = some (.int .i64 3) := keepc hz1 (F.out.2.2.2.2.2.2.2.2.1)
  have f1_s7 : s1.cell? ⟨g1_, 134, none⟩ = some (.string ⟨#[110]⟩) := keepc hz1 (F.out.2.2.2.2.2.2.2.2.2)
  obtain ⟨a1, hj1⟩ : ∃ a1, a1 = s1.alloc (.cells #[.int .i64 1, .int .i64 4] 3) := ⟨_, rfl⟩
  have hk1 : Below s1.heap.size s1 a1 := by rw [hj1]; exact (Below.refl _ _).alloc (Nat.le_refl _) _
  have hn1 : a1.ownsRow 0 3 1 (.slice (some ⟨s1.heap.size, 0, none⟩) 2 2) 2 (intsL [1, 4]) := own_blk (cs := intsL [1, 4]) (by rw [hj1]; exact Blk.new s1 _ _) (Nat.zero_le _) rfl (by decide)
  have hm1 := ints_same (l := [1, 4]) (own_kept (own_kept (O.out.2.1) hz1) hk1) hn1
  go_wp2_with fail
  rw [show s1.alloc (.cells #[.int .i64 1, .int .i64 4] 3) = a1 from hj1.symm]
  refine hm1.mono ?_
  rintro e s2 ⟨rfl, hs2⟩
  have hz2 : Below u5.heap.size u5 s2 := chain hz1 (chain hk1 hs2)
  clear f1_X1 f1_X2 f1_e4 f1_e5 f1_e6 f1_e7 f1_eb f1_q5 f1_m7 f1_s7 hj1
  have f2_X1 : s2.cell? ⟨w1.heap.size, 0, none⟩ = some (.slice (some ⟨g1_, 0, none⟩) 8 c1) := keepc hz2 (F.out.1)
  have f2_X2 : s2.cell? ⟨w2.heap.size, 0, none⟩ = some (.slice (some ⟨g2_, 0, none⟩) 4 c2) := keepc hz2 (F.out.2.1)
  have f2_e4 : s2.cell? ⟨g1_, 92, none⟩ = some (l4) := keepc hz2 (F.out.2.2.1)
  have f2_e5 : s2.cell? ⟨g1_, 111, none⟩ = some (l5) := keepc hz2 (F.out.2.2.2.1)
  have f2_e6 : s2.cell? ⟨g1_, 130, none⟩ = some (l6) := keepc hz2 (F.out.2.2.2.2.1)
  have f2_e7 : s2.cell? ⟨g1_, 149, none⟩ = some (l7) := keepc hz2 (F.out.2.2.2.2.2.1)
  have f2_eb : s2.cell? ⟨g2_, 54, none⟩ = some (lb) := keepc hz2 (F.out.2.2.2.2.2.2.1)
  have f2_q5 : s2.cell? ⟨g1_, 95, none⟩ = some (.int .i64 12) := keepc hz2 (F.out.2.2.2.2.2.2.2.1)
  have f2_m7 : s2.cell? ⟨g1_, 135, none⟩ = some (.int .i64 3) := keepc hz2 (F.out.2.2.2.2.2.2.2.2.1)
  have f2_s7 : s2.cell? ⟨g1_, 134, none⟩ = some (.string ⟨#[110]⟩) := keepc hz2 (F.out.2.2.2.2.2.2.2.2.2)
  obtain ⟨a2, hj2⟩ : ∃ a2, a2 = s2.alloc (.cells #[.int .i64 0, .int .i64 5] 3) := ⟨_, rfl⟩
  have hk2 : Below s2.heap.size s2 a2 := by rw [hj2]; exact (Below.refl _ _).alloc (Nat.le_refl _) _
  have hn2 : a2.ownsRow 0 3 1 (.slice (some ⟨s2.heap.size, 0, none⟩) 2 2) 2 (intsL [0, 5]) := own_blk (cs := intsL [0, 5]) (by rw [hj2]; exact Blk.new s2 _ _) (Nat.zero_le _) rfl (by decide)
  have hm2 := ints_same (l := [0, 5]) (own_kept (own_kept (O.out.2.2.1) hz2) hk2) hn2
  go_wp2_with fail
  rw [show s2.alloc (.cells #[.int .i64 0, .int .i64 5] 3) = a2 from hj2.symm]
  refine hm2.mono ?_
  rintro e s3 ⟨rfl, hs3⟩
  have hz3 : Below u5.heap.size u5 s3 := chain hz2 (chain hk2 hs3)
  clear f2_X1 f2_X2 f2_e4 f2_e5 f2_e6 f2_e7 f2_eb f2_q5 f2_m7 f2_s7 hj2
  have f3_X1 : s3.cell? ⟨w1.heap.size, 0, none⟩ = some (.slice (some ⟨g1_, 0, none⟩) 8 c1) := keepc hz3 (F.out.1)
  have f3_X2 : s3.cell? ⟨w2.heap.size, 0, none⟩ = some (.slice (some ⟨g2_, 0, none⟩) 4 c2) := keepc hz3 (F.out.2.1)
  have f3_e4 : s3.cell? ⟨g1_, 92, none⟩ = some (l4) := keepc hz3 (F.out.2.2.1)
  have f3_e5 : s3.cell? ⟨g1_, 111, none⟩ = some (l5) := keepc hz3 (F.out.2.2.2.1)
  have f3_e6 : s3.cell? ⟨g1_, 130, none⟩ = some (l6) := keepc hz3 (F.out.2.2.2.2.1)
  have f3_e7 : s3.cell? ⟨g1_, 149, none⟩ = some (l7) := keepc hz3 (F.out.2.2.2.2.2.1)
  have f3_eb : s3.cell? ⟨g2_, 54, none⟩ = some (lb) := keepc hz3 (F.out.2.2.2.2.2.2.1)
  have f3_q5 : s3.cell? ⟨g1_, 95, none⟩ = some (.int .i64 12) := keepc hz3 (F.out.2.2.2.2.2.2.2.1)
  have f3_m7 : s3.cell? ⟨g1_, 135, none⟩ = some (.int .i64 3) := keepc hz3 (F.out.2.2.2.2.2.2.2.2.1)
  have f3_s7 : s3.cell? ⟨g1_, 134, none⟩ = some (.string ⟨#[110]⟩) := keepc hz3 (F.out.2.2.2.2.2.2.2.2.2)
  obtain ⟨a3, hj3⟩ : ∃ a3, a3 = s3.alloc (.cells #[.int .i64 6] 3) := ⟨_, rfl⟩
  have hk3 : Below s3.heap.size s3 a3 := by rw [hj3]; exact (Below.refl _ _).alloc (Nat.le_refl _) _
  have hn3 : a3.ownsRow 0 3 1 (.slice (some ⟨s3.heap.size, 0, none⟩) 1 1) 1 (intsL [6]) := own_blk (cs := intsL [6]) (by rw [hj3]; exact Blk.new s3 _ _) (Nat.zero_le _) rfl (by decide)
  have hm3 := ints_same (l := [6]) (own_kept (own_kept (O.out.2.2.2.1) hz3) hk3) hn3
  go_wp2_with fail
  rw [show s3.alloc (.cells #[.int .i64 6] 3) = a3 from hj3.symm]
  refine hm3.mono ?_
  rintro e s4 ⟨rfl, hs4⟩
  have hz4 : Below u5.heap.size u5 s4 := chain hz3 (chain hk3 hs4)
  clear f3_X1 f3_X2 f3_e4 f3_e5 f3_e6 f3_e7 f3_eb f3_q5 f3_m7 f3_s7 hj3
  have f4_X1 : s4.cell? ⟨w1.heap.size, 0, none⟩ = some (.slice (some ⟨g1_, 0, none⟩) 8 c1) := keepc hz4 (F.out.1)
  have f4_X2 : s4.cell? ⟨w2.heap.size, 0, none⟩ = some (.slice (some ⟨g2_, 0, none⟩) 4 c2) := keepc hz4 (F.out.2.1)
  have f4_e4 : s4.cell? ⟨g1_, 92, none⟩ = some (l4) := keepc hz4 (F.out.2.2.1)
  have f4_e5 : s4.cell? ⟨g1_, 111, none⟩ = some (l5) := keepc hz4 (F.out.2.2.2.1)
  have f4_e6 : s4.cell? ⟨g1_, 130, none⟩ = some (l6) := keepc hz4 (F.out.2.2.2.2.1)
  have f4_e7 : s4.cell? ⟨g1_, 149, none⟩ = some (l7) := keepc hz4 (F.out.2.2.2.2.2.1)
  have f4_eb : s4.cell? ⟨g2_, 54, none⟩ = some (lb) := keepc hz4 (F.out.2.2.2.2.2.2.1)
  have f4_q5 : s4.cell? ⟨g1_, 95, none⟩ = some (.int .i64 12) := keepc hz4 (F.out.2.2.2.2.2.2.2.1)
  have f4_m7 : s4.cell? ⟨g1_, 135, none⟩ = some (.int .i64 3) := keepc hz4 (F.out.2.2.2.2.2.2.2.2.1)
  have f4_s7 : s4.cell? ⟨g1_, 134, none⟩ = some (.string ⟨#[110]⟩) := keepc hz4 (F.out.2.2.2.2.2.2.2.2.2)
  obtain ⟨a4, hj4⟩ : ∃ a4, a4 = s4.alloc (.cells #[.int .i64 0, .int .i64 1] 3) := ⟨_, rfl⟩
  have hk4 : Below s4.heap.size s4 a4 := by rw [hj4]; exact (Below.refl _ _).alloc (Nat.le_refl _) _
  have hn4 : a4.ownsRow 0 3 1 (.slice (some ⟨s4.heap.size, 0, none⟩) 2 2) 2 (intsL [0, 1]) := own_blk (cs := intsL [0, 1]) (by rw [hj4]; exact Blk.new s4 _ _) (Nat.zero_le _) rfl (by decide)
  have hm4 := ints_same (l := [0, 1]) (own_kept (own_kept (O.out.2.2.2.2) hz4) hk4) hn4
  go_wp2_with fail
  rw [show s4.alloc (.cells #[.int .i64 0, .int .i64 1] 3) = a4 from hj4.symm]
  refine hm4.mono ?_
  rintro e s5 ⟨rfl, hs5⟩
  have hz5 : Below u5.heap.size u5 s5 := chain hz4 (chain hk4 hs5)
  clear f4_X1 f4_X2 f4_e4 f4_e5 f4_e6 f4_e7 f4_eb f4_q5 f4_m7 f4_s7 hj4
  have f5_X1 : s5.cell? ⟨w1.heap.size, 0, none⟩ = some (.slice (some ⟨g1_, 0, none⟩) 8 c1) := keepc hz5 (F.out.1)
  have f5_X2 : s5.cell? ⟨w2.heap.size, 0, none⟩ = some (.slice (some ⟨g2_, 0, none⟩) 4 c2) := keepc hz5 (F.out.2.1)
  have f5_e4 : s5.cell? ⟨g1_, 92, none⟩ = some (l4) := keepc hz5 (F.out.2.2.1)
  have f5_e5 : s5.cell? ⟨g1_, 111, none⟩ = some (l5) := keepc hz5 (F.out.2.2.2.1)
  have f5_e6 : s5.cell? ⟨g1_, 130, none⟩ = some (l6) := keepc hz5 (F.out.2.2.2.2.1)
  have f5_e7 : s5.cell? ⟨g1_, 149, none⟩ = some (l7) := keepc hz5 (F.out.2.2.2.2.2.1)
  have f5_eb : s5.cell? ⟨g2_, 54, none⟩ = some (lb) := keepc hz5 (F.out.2.2.2.2.2.2.1)
  have f5_q5 : s5.cell? ⟨g1_, 95, none⟩ = some (.int .i64 12) := keepc hz5 (F.out.2.2.2.2.2.2.2.1)
  have f5_m7 : s5.cell? ⟨g1_, 135, none⟩ = some (.int .i64 3) := keepc hz5 (F.out.2.2.2.2.2.2.2.2.1)
  have f5_s7 : s5.cell? ⟨g1_, 134, none⟩ = some (.string ⟨#[110]⟩) := keepc hz5 (F.out.2.2.2.2.2.2.2.2.2)
  go_wp2_with fail
  exact bodyPost_ret (results_tmp rfl _ _ _) rfl ⟨rfl, chain TT.out hz5⟩
end Go.Proofs.YtlonkcmkgmbkcaaDoor
