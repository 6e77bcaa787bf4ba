/- LexNumbers: the walk. -/
import Derived.Test.YtlonkcmkgmbkcaaDoorDigits
import Derived.Test.YtlonkcmkgmbkcaaDoorNumbersP
namespace Go.Proofs.YtlonkcmkgmbkcaaDoor
open Go.RowKit LexS
set_option maxHeartbeats 4000000

theorem int_bounds {a : Int} (h : (Lit.int .i64 a).wf = true) : -9223372036854775808 ≤ a ∧ a ≤ 9223372036854775807 := by
  simp [Lit.wf, IntKind.min, IntKind.max, IntKind.signed, IntKind.bits] at h
  omega
theorem digits_any (n : Int) (h0 : -9223372036854775808 ≤ n) (h1 : n ≤ 9223372036854775807) (w : World) :
    Calls Tryd.prog 16 #[.int .i64 n] w fun e w' => e = .returned (.string ⟨(Lib.itoa n).toArray⟩) ∧ Below w.heap.size w w' := by
  rcases (by omega : n < 0 ∨ 0 ≤ n) with hn | hn
  · obtain ⟨u, rfl⟩ : ∃ u : Nat, n = -(u : Int) := ⟨n.natAbs, by omega⟩
    rw [Lib.itoa_neg u (by omega)]
    exact digits_neg u (by omega) (by omega) w
  · obtain ⟨u, rfl⟩ : ∃ u : Nat, n = (u : Int) := ⟨n.toNat, by omega⟩
    rw [Lib.itoa_nonneg u]
    exact digits_pos u (by omega) w

set_option maxRecDepth 100000 in
theorem numbers_any (n : Int) (hn : (Lit.int .i64 n).wf = true) (w : World) (hg : GW w) :
    Calls Tryd.prog 5 #[.int .i64 n] w fun e w' => e = .returned (.bool true) ∧ Below w.heap.size w w' := by
  have hsh := shown_any w hg
  obtain ⟨h0, h1⟩ := int_bounds hn
  have hdig := digits_any n h0 h1
  obtain ⟨hs, hz⟩ := itoa_small n h0 h1
  have k1 := lex_lit _ _ (lex_itoa n h0 h1) (by omega)
  have k2 := lex_lit _ _ (lex_around n h0 h1) (by simp; omega)
  obtain ⟨X, hX⟩ : ∃ X : ByteArray, X = ⟨(Lib.itoa n).toArray⟩ := ⟨_, rfl⟩
  have sX : X.size = (Lib.itoa n).length := by rw [hX]; simp [ByteArray.size]
  have ex2 : (⟨([60, 61] ++ Lib.itoa n ++ [41]).toArray⟩ : ByteArray) = ⟨#[60, 61]⟩ ++ X ++ ⟨#[41]⟩ := by
    rw [hX]
    exact (by rw [ByteArray.mk_append_mk, ByteArray.mk_append_mk] : (⟨[60, 61].toArray⟩ ++ ⟨(Lib.itoa n).toArray⟩ ++ ⟨[41].toArray⟩ : ByteArray) = ⟨([60, 61] ++ Lib.itoa n ++ [41]).toArray⟩).symm
  rw [ex2] at k2
  rw [← hX] at k1 hdig
  have z3 : (X.size : Int) ≤ 21 := by omega
  clear hX hs hz ex2 hn
  go_enter Tryd.func5, Tryd.ntmps5
  go_wp2_with fail
  refine hsh.mono ?_
  rintro e w1 ⟨rfl, b1⟩
  have hg1 := hg.kept b1
  go_wp2_with fail
  refine (hdig _).mono ?_
  rintro e w2 ⟨rfl, b2⟩
  have hg2 := hg1.kept b2
  go_wp2_with fail
  refine (k1 _ hg2).mono ?_
  rintro e w3 ⟨v1, rfl, o1, b3⟩
  have hg3 := hg2.kept b3
  dsimp only at o1 ⊢
  go_wp2_with fail
  refine (k2 _ hg3).mono ?_
  rintro e w4 ⟨v2, rfl, o2, b4⟩
  dsimp only at o2 ⊢
  have HB := Lib.hid (chain (chain (chain b1 b2) b3) b4)
  have o1 := own_kept o1 b4
  obtain ⟨ga, ca, rfl, _, _, _, hca⟩ := row_form o1 (by simp)
  obtain ⟨gb, cb, rfl, _, _, _, hcb⟩ := row_form o2 (by simp)
  have a0 : w4.cell? ⟨ga, 0, none⟩ = some (.int .i64 2) := (hca 0 _ rfl).1
  have a1 : w4.cell? ⟨ga, 1, none⟩ = some (.string ⟨#[]⟩) := (hca 0 _ rfl).2.1
  have a2 : w4.cell? ⟨ga, 2, none⟩ = some (.int .i64 n) := (hca 0 _ rfl).2.2.1
  have a3 : w4.cell? ⟨ga, 3, none⟩ = some (.int .i64 0) := (hca 0 _ rfl).2.2.2
  have c0 : w4.cell? ⟨gb, 4, none⟩ = some (.int .i64 2) := (hcb 1 _ rfl).1
  have c1 : w4.cell? ⟨gb, 5, none⟩ = some (.string ⟨#[]⟩) := (hcb 1 _ rfl).2.1
  have c2 : w4.cell? ⟨gb, 6, none⟩ = some (.int .i64 n) := (hcb 1 _ rfl).2.2.1
  have c3 : w4.cell? ⟨gb, 7, none⟩ = some (.int .i64 2) := (hcb 1 _ rfl).2.2.2
  have c4 : w4.cell? ⟨gb, 9, none⟩ = some (.string ⟨#[41]⟩) := (hcb 2 _ rfl).2.1
  clear hca hcb o1 o2 k1 k2 hdig hg hg1 hg2 hg3 b1 b2 b3 b4 hsh sX
  go_wp2_with fail
  exact bodyPost_ret (results_tmp rfl _ _ _) rfl ⟨rfl, HB.out⟩
end Go.Proofs.YtlonkcmkgmbkcaaDoor
