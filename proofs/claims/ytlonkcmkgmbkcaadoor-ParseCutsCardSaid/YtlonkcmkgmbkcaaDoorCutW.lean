/- ParseCuts: the two texts, however long; the walk. -/
import Derived.Test.YtlonkcmkgmbkcaaDoorRdW
import Derived.Test.YtlonkcmkgmbkcaaDoorSameT
import Derived.Test.YtlonkcmkgmbkcaaDoorPCutsL
import Derived.Deep.Cut
namespace Go.Proofs.YtlonkcmkgmbkcaaDoor
open Go.RowKit LexS ParS BigFrame
set_option maxHeartbeats 4000000
set_option linter.unusedVariables false
set_option linter.unusedSimpArgs false
attribute [local go_sem] World.cell?_alloc_some cell_drewN_new free_drewN_new cell_drew_new free_drew_new

set_option maxRecDepth 100000 in
theorem lex_wide (s : ByteArray) (hs : s.size ≤ 9223372036854775807) (w : World) (hg : GW w) : Calls Tryd.prog 13 #[.string s] w (LexRes (lexS s.data.toList) w) := by
  by_cases h : s.size ≤ 140737488351232
  · exact lex_any s h w hg
  · have b0 : (2048 : Int) < (s.size : Int) := by omega
    have hend : lexS s.data.toList = ([], 0, 2) := by
      unfold lexS
      rw [if_pos (by rw [size_list]; omega)]
    rw [hend]
    clear hend
    have d0 : decide ((2048 : Int) < (s.size : Int)) = true := decide_eq_true b0
    have d1 : decide (2048 < s.size) = true := decide_eq_true (by omega)
    clear h
    go_enter Tryd.func13, Tryd.ntmps13
    go_wp2_with fail
    exact bodyPost_ret (res_three rfl rfl rfl rfl) rfl (nil_res (Below.refl _ _))
set_option maxRecDepth 100000 in
theorem query_wide (s : ByteArray) (hs : s.size ≤ 9223372036854775807) (w : World) (hg : GW w) :
    Calls Tryd.prog 20 #[.string s] w (PostAll w (queryS s.data.toList)) := by
  obtain ⟨W0, hW0⟩ : ∃ W0, W0 = w.alloc (.cells #[.slice none 0 0] 39) := ⟨_, rfl⟩
  have hb0 : Below w.heap.size w W0 := by rw [hW0]; exact (Below.refl _ _).alloc (Nat.le_refl _) _
  have k0 : Blk W0 w.heap.size 39 #[.slice none 0 0] := by rw [hW0]; exact Blk.new w _ _
  have hs0 : w.heap.size < W0.heap.size := k0.lt
  have HK := Lib.hid (And.intro hb0 (And.intro hs0 k0))
  have hlex := lex_wide s hs W0 (hg.kept hb0)
  have HW0 := Lib.hid hW0
  obtain ⟨⟨x, a, er⟩, hx⟩ : ∃ q, q = lexS s.data.toList := ⟨_, rfl⟩
  have HX := Lib.hid hx
  rw [← hx] at hlex
  have HL := Lib.hid hlex
  clear hb0 k0 hs0 hlex hx hg
  go_enter Tryd.func20, Tryd.ntmps20
  go_wp2_with fail
  rw [show w.alloc (.cells #[.slice none 0 0] 39) = W0 from HW0.out.symm]
  clear hW0
  refine HL.out.mono ?_
  rintro e w1 ⟨v, rfl, o1, b1⟩
  dsimp only at o1 ⊢
  have k1 := HK.out.2.2.kept b1
  have c0 : w1.cell? ⟨w.heap.size, 0, none⟩ = some (.slice none 0 0) := k1.cell 0
  have f0 := k1.free 0
  by_cases he : er = 0
  case neg =>
    have HE := Lib.hid (show queryS s.data.toList = ([], a, er) by unfold queryS; rw [← HX.out]; dsimp only; rw [if_pos he])
    have HF := Lib.hid (one_put HK.out.1 HK.out.2.1 HK.out.2.2 nil_NS b1)
    have he2 : ((er : Int) == 0) = false := by rw [beq_eq_false_iff_ne]; omega
    have he3 : ¬ (er : Int) = 0 := by omega
    clear o1 b1 k1
    go_wp2_with fail
    exact bodyPost_ret (res_q Tryd.results20 rfl rfl rfl HF.out.1) rfl ⟨_, by rw [HE.out]; rfl, by rw [HE.out]; exact HF.out.2.1, HF.out.2.2⟩
  subst he
  have O1 := Lib.hid o1
  have B1 := Lib.hid b1
  have HP := Lib.hid (parse_any (own_base o1 (Nat.zero_le _)))
  clear o1 b1 k1
  go_wp2_with fail
  refine HP.out.mono ?_
  rintro e w2 ⟨nv, rfl, hn, b2⟩
  obtain ⟨⟨ns, n, f⟩, hp⟩ : ∃ q, q = parseS x := ⟨_, rfl⟩
  rw [← hp] at hn ⊢
  dsimp only at hn ⊢
  have HPS := Lib.hid hp
  obtain ⟨no, nc, rfl⟩ : ∃ o c, nv = .slice o ns.length c := by
    obtain ⟨ms, _, ho, _⟩ := hn
    exact row_slice ho
  have hb12 : Below W0.heap.size W0 w2 := chain B1.out b2
  have hn2 := hn.self (b' := W0.heap.size) B1.out.size
  have HF := Lib.hid (two_put HK.out.1 HK.out.2.1 HK.out.2.2 hn2 hb12)
  have HF1 := Lib.hid (one_put HK.out.1 HK.out.2.1 HK.out.2.2 hn2 hb12)
  have k2 := HK.out.2.2.kept hb12
  have d0 : w2.cell? ⟨w.heap.size, 0, none⟩ = some (.slice none 0 0) := k2.cell 0
  have g0 := k2.free 0
  have O2 := Lib.hid (own_high (own_kept O1.out b2) (W' := w2.setCell ⟨w.heap.size, 0, none⟩ (.slice no ns.length nc)) (fun k hk => Below.heap_setCell _ _ _ _ (show k ≠ w.heap.size by have := HK.out.2.1; omega)))
  clear hn b2 hb12 hn2 k2 hp c0 f0
  by_cases hf : f = 0
  · subst hf
    have HE := Lib.hid (show queryS s.data.toList = (ns, 0, 0) by unfold queryS; rw [← HX.out]; dsimp only; rw [if_neg (by simp), ← HPS.out]; rfl)
    go_wp2_with fail
    exact bodyPost_ret (res_q Tryd.results20 rfl rfl rfl HF.out.1) rfl ⟨_, by rw [HE.out]; rfl, by rw [HE.out]; exact HF.out.2.1, HF.out.2.2⟩
  have hf2 : ((f : Int) == 0) = false := by rw [beq_eq_false_iff_ne]; omega
  have hf3 : ¬ (f : Int) = 0 := by omega
  obtain ⟨p, cap, rfl, hcap, hmax, hrow⟩ := row_any O2.out
  have HR := Lib.hid hrow
  simp only [maxLen] at hmax
  clear hrow
  by_cases hlt : n < x.length
  · obtain ⟨t, ht⟩ : ∃ t, x[n]? = some t := ⟨x[n], List.getElem?_eq_getElem hlt⟩
    have hne : x ≠ [] := by intro h; rw [h] at hlt; simp at hlt
    have HE := Lib.hid (show queryS s.data.toList = (ns, t.at_, f) by
      unfold queryS
      rw [← HX.out]
      dsimp only
      rw [if_neg (by simp), ← HPS.out]
      dsimp only
      rw [if_neg hf, ht])
    obtain ⟨g, rfl, hg1, hg2, hcells⟩ := HR.out hne
    obtain ⟨q0, q1, q2, q3⟩ := hcells n t ht
    have l1 : (n : Int) < (x.length : Int) := by omega
    have l2 : decide ((n : Int) < (x.length : Int)) = true := decide_eq_true l1
    have l3 : (0 : Int) ≤ (n : Int) := by omega
    clear hcells
    go_wp2_with fail
    go_region
    go_wp2_with fail
    exact bodyPost_ret (res_q Tryd.results20 rfl rfl rfl (show Blk (World.drew _) _ _ _ from HF.out.1)) rfl ⟨_, by rw [HE.out]; rfl, by rw [HE.out]; exact HF.out.2.1.high (fun _ _ => rfl) (Nat.le_refl _), HF.out.2.2.drew⟩
  · have HE := Lib.hid (show queryS s.data.toList = (ns, s.data.toList.length, f) by
      unfold queryS
      rw [← HX.out]
      dsimp only
      rw [if_neg (by simp), ← HPS.out]
      dsimp only
      rw [if_neg hf, List.getElem?_eq_none (by omega)])
    have l1 : ¬ (n : Int) < (x.length : Int) := by omega
    have l2 : decide ((n : Int) < (x.length : Int)) = false := decide_eq_false l1
    go_wp2_with fail
    exact bodyPost_ret (res_q Tryd.results20 rfl rfl rfl HF.out.1) rfl ⟨_, by rw [HE.out]; rfl, by rw [HE.out]; exact HF.out.2.1, HF.out.2.2⟩
/-- The six steps as texts. -/
def cutB : Nat → Bytes
  | 0 => [124, 32, 107, 101, 101, 112, 32, 97]
  | 1 => [124, 32, 97, 108, 105, 103, 110, 32, 53]
  | 2 => [124, 32, 116, 111, 112, 32, 51, 32, 98, 121, 32, 98]
  | 3 => [124, 32, 103, 114, 111, 117, 112, 32, 99, 32, 58, 32, 99, 111, 117, 110, 116]
  | 4 => [124, 32, 119, 104, 101, 114, 101, 32, 100, 32, 61, 32, 49]
  | _ => [124, 32, 117, 110, 105, 111, 110, 32, 40, 102, 101, 116, 99, 104, 32, 101, 41]
def cutN (k : Nat) : Nat := if 3 < k then 2 else 1
/-- What the longer text reads as. -/
theorem cut_all (s : Bytes) (k : Nat) (hk : k < 6) (h1 : (queryS s).2.2 = 0) (h2 : (queryS (s ++ 32 :: cutB k)).2.2 = 0) :
    ∃ more nd, (queryS (s ++ 32 :: cutB k)).1 = (queryS s).1 ++ more ++ [nd] ∧ more.length + 1 = cutN k ∧ nd.l[0]? = some ((queryS s).1.length - 1) ∧ (queryS s).1 ≠ [] ∧ (queryS (s ++ 32 :: cutB k)).1.length ≤ 128 := by
  match k, hk with
  | 0, _ =>
    obtain ⟨e1, e2, e3⟩ := cut_law (f := fun b n => [{ node 3 [b] with names := [[97]] }]) lx0 (by decide) (fun b ns => ⟨_, st0 b ns⟩) h1 h2
    exact ⟨[], _, by rw [List.append_nil]; exact e1, rfl, rfl, e2, e3⟩
  | 1, _ =>
    obtain ⟨e1, e2, e3⟩ := cut_law (f := fun b n => [{ node 4 [b] with n := 5 }]) lx1 (by decide) (fun b ns => ⟨_, st1 b ns⟩) h1 h2
    exact ⟨[], _, by rw [List.append_nil]; exact e1, rfl, rfl, e2, e3⟩
  | 2, _ =>
    obtain ⟨e1, e2, e3⟩ := cut_law (f := fun b n => [{ node 6 [b] with n := 3, s := [98] }]) lx2 (by decide) (fun b ns => ⟨_, st2 b ns⟩) h1 h2
    exact ⟨[], _, by rw [List.append_nil]; exact e1, rfl, rfl, e2, e3⟩
  | 3, _ =>
    obtain ⟨e1, e2, e3⟩ := cut_law (f := fun b n => [{ node 5 [b] with names := [[99]], aggs := [(1, [])] }]) lx3 (by decide) (fun b ns => ⟨_, st3 b ns⟩) h1 h2
    exact ⟨[], _, by rw [List.append_nil]; exact e1, rfl, rfl, e2, e3⟩
  | 4, _ =>
    obtain ⟨e1, e2, e3⟩ := cut_law (f := fun b n => [{ node 14 [] with s := [100], n := 1, v := ⟨1, 1, []⟩ }, node 2 [b, n]]) lx4 (by decide) (fun b ns => ⟨_, (st4 b ns).trans (by rw [List.append_assoc]; rfl)⟩) h1 h2
    exact ⟨[_], _, by rw [List.append_assoc]; exact e1, rfl, rfl, e2, e3⟩
  | 5, _ =>
    obtain ⟨e1, e2, e3⟩ := cut_law (f := fun b n => [{ node 1 [] with s := [101], to_ := 1099511627775 }, node 8 [b, n]]) lx5 (by decide) (fun b ns => ⟨_, (st5 b ns).trans (by rw [List.append_assoc]; rfl)⟩) h1 h2
    exact ⟨[_], _, by rw [List.append_assoc]; exact e1, rfl, rfl, e2, e3⟩
end Go.Proofs.YtlonkcmkgmbkcaaDoor
