/- The walk of package parse's Query: a text. -/
import Derived.Test.YtlonkcmkgmbkcaaDoorRdT
import Derived.Test.YtlonkcmkgmbkcaaDoorPlacesW
namespace Go.Proofs.YtlonkcmkgmbkcaaDoor
open Go.RowKit LexS ParS BigFrame
set_option maxHeartbeats 4000000
set_option linter.unusedVariables false
set_option linter.unusedSimpArgs false
attribute [local go_sem] World.cell?_alloc_some cell_drewN_new free_drewN_new cell_drew_new free_drew_new

theorem two_put {W W0 w1 : World} {nv : Value} {ns : List Nd} (hb0 : Below W.heap.size W W0) (hs0 : W.heap.size < W0.heap.size) (k0 : Blk W0 W.heap.size 39 #[.slice none 0 0]) (hn : NS w1 W0.heap.size nv ns) (hb : Below W0.heap.size W0 w1) :
    Blk ((w1.setCell ⟨W.heap.size, 0, none⟩ nv).setCell ⟨W.heap.size, 0, none⟩ nv) W.heap.size 39 #[nv] ∧ NS ((w1.setCell ⟨W.heap.size, 0, none⟩ nv).setCell ⟨W.heap.size, 0, none⟩ nv) W.heap.size nv ns ∧ Below W.heap.size W ((w1.setCell ⟨W.heap.size, 0, none⟩ nv).setCell ⟨W.heap.size, 0, none⟩ nv) :=
  ⟨((k0.kept hb).put 0 nv).put 0 nv, hn.high (fun k hk => (Below.heap_setCell _ _ _ _ (show k ≠ W.heap.size by omega)).trans (Below.heap_setCell _ _ _ _ (show k ≠ W.heap.size by omega))) (by omega),
    ((hb0.trans (hb.mono (Nat.le_of_lt hs0))).setCell (p := ⟨W.heap.size, 0, none⟩) (Nat.le_refl _) nv).setCell (p := ⟨W.heap.size, 0, none⟩) (Nat.le_refl _) nv⟩
theorem NS.self {W : World} {b : Nat} {v : Value} {ns : List Nd} {b' : Nat} (h : NS W b v ns) (hb : b' ≤ b) : NS W b' v ns := h.high (fun _ _ => rfl) hb
set_option maxRecDepth 100000 in
theorem query_text (s : ByteArray) (hs : s.size ≤ 140737488351232) (w : World) (hg : GW w) :
    Calls Tryd.prog 20 #[.string s] w (PostAll w (queryS s.data.toList)) := by
  obtain ⟨W0, hW0⟩ : ∃ W0, W0 = w.alloc (.cells #[.slice none 0 0] 39) := ⟨_, rfl⟩
  have hb0 : Below w.heap.size w W0 := by rw [hW0]; exact (Below.refl _ _).alloc (Nat.le_refl _) _
  have k0 : Blk W0 w.heap.size 39 #[.slice none 0 0] := by rw [hW0]; exact Blk.new w _ _
  have hs0 : w.heap.size < W0.heap.size := k0.lt
  have HK := Lib.hid (And.intro hb0 (And.intro hs0 k0))
  have hlex := lex_any s hs W0 (hg.kept hb0)
  have HW0 := Lib.hid hW0
  obtain ⟨⟨x, a, er⟩, hx⟩ : ∃ q, q = lexS s.data.toList := ⟨_, rfl⟩
  have HX := Lib.hid hx
  rw [← hx] at hlex
  have HL := Lib.hid hlex
  clear hb0 k0 hs0 hlex hx hg
  go_enter Tryd.func20, Tryd.ntmps20
  go_wp2_with fail
  rw [show w.alloc (.cells #[.slice none 0 0] 39) = W0 from HW0.out.symm]
  clear hW0
  refine HL.out.mono ?_
  rintro e w1 ⟨v, rfl, o1, b1⟩
  dsimp only at o1 ⊢
  have k1 := HK.out.2.2.kept b1
  have c0 : w1.cell? ⟨w.heap.size, 0, none⟩ = some (.slice none 0 0) := k1.cell 0
  have f0 := k1.free 0
  by_cases he : er = 0
  case neg =>
    have HE := Lib.hid (show queryS s.data.toList = ([], a, er) by unfold queryS; rw [← HX.out]; dsimp only; rw [if_pos he])
    have HF := Lib.hid (one_put HK.out.1 HK.out.2.1 HK.out.2.2 nil_NS b1)
    have he2 : ((er : Int) == 0) = false := by rw [beq_eq_false_iff_ne]; omega
    have he3 : ¬ (er : Int) = 0 := by omega
    clear o1 b1 k1
    go_wp2_with fail
    exact bodyPost_ret (res_q Tryd.results20 rfl rfl rfl HF.out.1) rfl ⟨_, by rw [HE.out]; rfl, by rw [HE.out]; exact HF.out.2.1, HF.out.2.2⟩
  subst he
  have O1 := Lib.hid o1
  have B1 := Lib.hid b1
  have HP := Lib.hid (parse_any (own_base o1 (Nat.zero_le _)))
  clear o1 b1 k1
  go_wp2_with fail
  refine HP.out.mono ?_
  rintro e w2 ⟨nv, rfl, hn, b2⟩
  obtain ⟨⟨ns, n, f⟩, hp⟩ : ∃ q, q = parseS x := ⟨_, rfl⟩
  rw [← hp] at hn ⊢
  dsimp only at hn ⊢
  have HPS := Lib.hid hp
  obtain ⟨no, nc, rfl⟩ : ∃ o c, nv = .slice o ns.length c := by
    obtain ⟨ms, _, ho, _⟩ := hn
    exact row_slice ho
  have hb12 : Below W0.heap.size W0 w2 := chain B1.out b2
  have hn2 := hn.self (b' := W0.heap.size) B1.out.size
  have HF := Lib.hid (two_put HK.out.1 HK.out.2.1 HK.out.2.2 hn2 hb12)
  have HF1 := Lib.hid (one_put HK.out.1 HK.out.2.1 HK.out.2.2 hn2 hb12)
  have k2 := HK.out.2.2.kept hb12
  have d0 : w2.cell? ⟨w.heap.size, 0, none⟩ = some (.slice none 0 0) := k2.cell 0
  have g0 := k2.free 0
  have O2 := Lib.hid (own_high (own_kept O1.out b2) (W' := w2.setCell ⟨w.heap.size, 0, none⟩ (.slice no ns.length nc)) (fun k hk => Below.heap_setCell _ _ _ _ (show k ≠ w.heap.size by have := HK.out.2.1; omega)))
  clear hn b2 hb12 hn2 k2 hp c0 f0
  by_cases hf : f = 0
  · subst hf
    have HE := Lib.hid (show queryS s.data.toList = (ns, 0, 0) by unfold queryS; rw [← HX.out]; dsimp only; rw [if_neg (by simp), ← HPS.out]; rfl)
    go_wp2_with fail
    exact bodyPost_ret (res_q Tryd.results20 rfl rfl rfl HF.out.1) rfl ⟨_, by rw [HE.out]; rfl, by rw [HE.out]; exact HF.out.2.1, HF.out.2.2⟩
  have hf2 : ((f : Int) == 0) = false := by rw [beq_eq_false_iff_ne]; omega
  have hf3 : ¬ (f : Int) = 0 := by omega
  obtain ⟨p, cap, rfl, hcap, hmax, hrow⟩ := row_any O2.out
  have HR := Lib.hid hrow
  simp only [maxLen] at hmax
  clear hrow
  by_cases hlt : n < x.length
  · obtain ⟨t, ht⟩ : ∃ t, x[n]? = some t := ⟨x[n], List.getElem?_eq_getElem hlt⟩
    have hne : x ≠ [] := by intro h; rw [h] at hlt; simp at hlt
    have HE := Lib.hid (show queryS s.data.toList = (ns, t.at_, f) by
      unfold queryS
      rw [← HX.out]
      dsimp only
      rw [if_neg (by simp), ← HPS.out]
      dsimp only
      rw [if_neg hf, ht])
    obtain ⟨g, rfl, hg1, hg2, hcells⟩ := HR.out hne
    obtain ⟨q0, q1, q2, q3⟩ := hcells n t ht
    have l1 : (n : Int) < (x.length : Int) := by omega
    have l2 : decide ((n : Int) < (x.length : Int)) = true := decide_eq_true l1
    have l3 : (0 : Int) ≤ (n : Int) := by omega
    clear hcells
    go_wp2_with fail
    go_region
    go_wp2_with fail
    exact bodyPost_ret (res_q Tryd.results20 rfl rfl rfl (show Blk (World.drew _) _ _ _ from HF.out.1)) rfl ⟨_, by rw [HE.out]; rfl, by rw [HE.out]; exact HF.out.2.1.high (fun _ _ => rfl) (Nat.le_refl _), HF.out.2.2.drew⟩
  · have HE := Lib.hid (show queryS s.data.toList = (ns, s.data.toList.length, f) by
      unfold queryS
      rw [← HX.out]
      dsimp only
      rw [if_neg (by simp), ← HPS.out]
      dsimp only
      rw [if_neg hf, List.getElem?_eq_none (by omega)])
    have l1 : ¬ (n : Int) < (x.length : Int) := by omega
    have l2 : decide ((n : Int) < (x.length : Int)) = false := decide_eq_false l1
    go_wp2_with fail
    exact bodyPost_ret (res_q Tryd.results20 rfl rfl rfl HF.out.1) rfl ⟨_, by rw [HE.out]; rfl, by rw [HE.out]; exact HF.out.2.1, HF.out.2.2⟩
end Go.Proofs.YtlonkcmkgmbkcaaDoor
