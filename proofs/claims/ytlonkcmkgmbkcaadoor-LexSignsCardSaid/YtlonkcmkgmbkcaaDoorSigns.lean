/- LexSigns: each of the signs is cut as itself. The plain law, by counting; the walk. -/
import Derived.Test.YtlonkcmkgmbkcaaDoorLexG
import Derived.Test.YtlonkcmkgmbkcaaDoorPlacesW
namespace Go.Proofs.YtlonkcmkgmbkcaaDoor
open Go.RowKit LexS
set_option maxHeartbeats 4000000

def sg (i : Nat) : Bytes := [[124], [44], [40], [41], [58], [61], [33, 61], [60], [60, 61], [62], [62, 61]].getD i []
def longer (x y : Bytes) : Bool := (x == [60] || x == [62]) && y == [61]
theorem signs_apart : ∀ i : Fin 11, ∀ j : Fin 11, lexS (sg i ++ [32] ++ sg j) = ([⟨4, sg i, 0, 0⟩, ⟨4, sg j, 0, (sg i).length + 1⟩], 0, 0) := by decide +kernel
theorem signs_near : ∀ i : Fin 11, ∀ j : Fin 11, lexS (sg i ++ sg j) = if longer (sg i) (sg j) then ([⟨4, sg i ++ sg j, 0, 0⟩], 0, 0) else ([⟨4, sg i, 0, 0⟩, ⟨4, sg j, 0, (sg i).length⟩], 0, 0) := by decide +kernel
theorem sg_len : ∀ i : Fin 11, (sg i).length ≤ 2 := by decide +kernel
def signsA : Array Value := #[.string ⟨#[124]⟩, .string ⟨#[44]⟩, .string ⟨#[40]⟩, .string ⟨#[41]⟩, .string ⟨#[58]⟩, .string ⟨#[61]⟩, .string ⟨#[33, 61]⟩, .string ⟨#[60]⟩, .string ⟨#[60, 61]⟩, .string ⟨#[62]⟩, .string ⟨#[62, 61]⟩]
theorem signs_at (i : Nat) (hi : i < 11) : signsA[i]? = some (.string ⟨(sg i).toArray⟩) := by
  have h : i = 0 ∨ i = 1 ∨ i = 2 ∨ i = 3 ∨ i = 4 ∨ i = 5 ∨ i = 6 ∨ i = 7 ∨ i = 8 ∨ i = 9 ∨ i = 10 := by omega
  rcases h with rfl | rfl | rfl | rfl | rfl | rfl | rfl | rfl | rfl | rfl | rfl <;> rfl

theorem wf_bounds {a : Int} (h : (Lit.int .i64 a).wf = true) : -9223372036854775808 ≤ a ∧ a ≤ 9223372036854775807 := by
  simp [Lit.wf, IntKind.min, IntKind.max, IntKind.signed, IntKind.bits] at h
  omega
/-- What the walk holds behind the row's making. -/
def SW (w w1 W : World) : Prop := Blk W w1.heap.size 9 signsA ∧ Below w.heap.size w W ∧ GW W

set_option maxRecDepth 100000 in
theorem signs_any (a b : Int) (ha : (Lit.int .i64 a).wf = true) (hb : (Lit.int .i64 b).wf = true) (w : World) (hg : GW w) :
    Calls Tryd.prog 7 #[.int .i64 a, .int .i64 b] w fun e w' => e = .returned (.bool true) ∧ Below w.heap.size w w' := by
  have hsh := shown_any w hg
  have ba : -9223372036854775808 ≤ a ∧ a ≤ 9223372036854775807 := wf_bounds ha
  have bb : -9223372036854775808 ≤ b ∧ b ≤ 9223372036854775807 := wf_bounds hb
  go_enter Tryd.func7, Tryd.ntmps7
  go_wp2_with fail
  refine hsh.mono ?_
  rintro e w1 ⟨rfl, b1⟩
  have hg1 := hg.kept b1
  clear hsh hg
  go_upto_if 19 with (fail)
  go_cut [0] (fun s0 wx => (∃ n : Nat, (n : Int) ≤ 9223372036854775807 ∧ s0 = .int .i64 (n : Int)) ∧ SW w w1 wx)
  case first =>
    have H1 : SW w w1 (w1.alloc (.cells signsA 9)) := ⟨Blk.new _ _ _, b1.alloc b1.size _, hg1.alloc _⟩
    have H2 := Lib.hid H1
    clear H1 b1 hg1
    by_cases h0 : a < 0
    · have g : decide (a < 0) = true := decide_eq_true h0
      go_wp2_with fail
      go_meet
      exact ⟨⟨(-(a + 1)).toNat, by omega, by go_num⟩, H2.out⟩
    · have g : decide (a < 0) = false := decide_eq_false h0
      go_wp2_with fail
      go_meet
      exact ⟨⟨a.toNat, by omega, by go_num⟩, H2.out⟩
  case rest =>
    obtain ⟨⟨n, hn, rfl⟩, hw⟩ := hcut
    have HW := Lib.hid hw
    clear hw
    go_upto_if 24 with (fail)
    go_cut [1] (fun s0 wx => (∃ n : Nat, (n : Int) ≤ 9223372036854775807 ∧ s0 = .int .i64 (n : Int)) ∧ SW w w1 wx)
    case first =>
      by_cases h0 : b < 0
      · have g : decide (b < 0) = true := decide_eq_true h0
        go_wp2_with fail
        go_meet
        exact ⟨⟨(-(b + 1)).toNat, by omega, by go_num⟩, HW.out⟩
      · have g : decide (b < 0) = false := decide_eq_false h0
        go_wp2_with fail
        go_meet
        exact ⟨⟨b.toNat, by omega, by go_num⟩, HW.out⟩
    case rest =>
      obtain ⟨⟨m, hm, rfl⟩, hb2, hbel, hgw⟩ := hcut
      clear HW ba bb ha hb
      have hi : n % 11 < 11 := Nat.mod_lt _ (by omega)
      have hj : m % 11 < 11 := Nat.mod_lt _ (by omega)
      have t1 : Int.tmod (n : Int) 11 = ((n % 11 : Nat) : Int) := (Int.ofNat_tmod n 11).symm
      have t2 : Int.tmod (m : Int) 11 = ((m % 11 : Nat) : Int) := (Int.ofNat_tmod m 11).symm
      obtain ⟨i, hi_⟩ : ∃ i, i = n % 11 := ⟨_, rfl⟩
      obtain ⟨j, hj_⟩ : ∃ j, j = m % 11 := ⟨_, rfl⟩
      rw [← hi_] at hi t1
      rw [← hj_] at hj t2
      clear hi_ hj_
      have cX := (hb2.cell i).trans (signs_at i hi)
      have cY := (hb2.cell j).trans (signs_at j hj)
      have q1 := signs_apart ⟨i, hi⟩ ⟨j, hj⟩
      have q2 := signs_near ⟨i, hi⟩ ⟨j, hj⟩
      have l1 := sg_len ⟨i, hi⟩
      have l2 := sg_len ⟨j, hj⟩
      dsimp only at q1 q2 l1 l2
      obtain ⟨x, hx⟩ : ∃ x, x = sg i := ⟨_, rfl⟩
      obtain ⟨y, hy⟩ : ∃ y, y = sg j := ⟨_, rfl⟩
      rw [← hx] at cX q1 q2 l1
      rw [← hy] at cY q1 q2 l2
      clear hx hy
      cases hlg : longer x y
      · rw [hlg, if_neg (by decide)] at q2
        have k1 := lex_lit _ _ q1 (by simp; omega)
        have k2 := lex_lit _ _ q2 (by simp; omega)
        obtain ⟨X, hX⟩ : ∃ X : ByteArray, X = ⟨x.toArray⟩ := ⟨_, rfl⟩
        obtain ⟨Y, hY⟩ : ∃ Y : ByteArray, Y = ⟨y.toArray⟩ := ⟨_, rfl⟩
        have sX : X.size = x.length := by rw [hX]; simp [ByteArray.size]
        have sY : Y.size = y.length := by rw [hY]; simp [ByteArray.size]
        have ex1 : (⟨(x ++ [32] ++ y).toArray⟩ : ByteArray) = X ++ ⟨#[32]⟩ ++ Y := by
          rw [hX, hY]
          exact (by rw [ByteArray.mk_append_mk, ByteArray.mk_append_mk] : (⟨x.toArray⟩ ++ ⟨[32].toArray⟩ ++ ⟨y.toArray⟩ : ByteArray) = ⟨(x ++ [32] ++ y).toArray⟩).symm
        have ex2 : (⟨(x ++ y).toArray⟩ : ByteArray) = X ++ Y := by rw [hX, hY, ByteArray.mk_append_mk]
        rw [ex1] at k1
        rw [ex2] at k2
        rw [← hX] at cX
        rw [← hY] at cY
        have z1 : ¬ (9223372036854775807 < (X.size : Int) + 1) := by omega
        have z0 : (⟨#[32]⟩ : ByteArray).size = 1 := rfl
        have z2 : (X ++ ⟨#[32]⟩ : ByteArray).size = X.size + 1 := by rw [ByteArray.size_append]; rfl
        have z3 : (X.size : Int) ≤ 2 := by omega
        have z4 : (Y.size : Int) ≤ 2 := by omega
        have n1 : (0 : Int) ≤ i := by omega
        have n2 : (i : Int) < 11 := by omega
        have n3 : (0 : Int) ≤ j := by omega
        have n4 : (j : Int) < 11 := by omega
        have HX := Lib.hid hX
        have HS := Lib.hid sX
        have HE := Lib.hid ex2.symm
        have HY := Lib.hid hY
        clear q1 q2 ex1 ex2 hX hY l1 l2 sX sY hn hm z2
        go_wp2_with fail
        refine (k1 _ hgw).mono ?_
        rintro e w2 ⟨v1, rfl, o1, c1⟩
        dsimp only at o1 ⊢
        go_wp2_with fail
        refine (k2 _ (hgw.kept c1)).mono ?_
        rintro e w3 ⟨v2, rfl, o2, c2⟩
        dsimp only
        have HB := Lib.hid (chain hbel (chain c1 c2))
        have o1 := own_kept o1 c2
        obtain ⟨ga, ca, rfl, _, _, _, hca⟩ := row_form o1 (by simp)
        have a1 : w3.cell? ⟨ga, 1, none⟩ = some (.string X) := by rw [HX.out]; exact (hca 0 _ rfl).2.1
        have a2 : w3.cell? ⟨ga, 5, none⟩ = some (.string Y) := by rw [HY.out]; exact (hca 1 _ rfl).2.1
        clear hca o1 k1 k2 hgw hbel c1 cX cY hb2
        obtain ⟨gb, cb, rfl, _, _, _, hcb⟩ := row_form o2 (by simp)
        have a3 : w3.cell? ⟨gb, 1, none⟩ = some (.string X) := by rw [HX.out]; exact (hcb 0 _ rfl).2.1
        have a4 : w3.cell? ⟨gb, 5, none⟩ = some (.string Y) := by rw [HY.out]; exact (hcb 1 _ rfl).2.1
        have a5 : w3.cell? ⟨gb, 7, none⟩ = some (.int .i64 (X.size : Int)) := by rw [HS.out]; exact (hcb 1 _ rfl).2.2.2
        clear hcb o2
        have g1 : (X.toList == [60]) = (x == [60]) := by rw [HX.out, toList_data]
        have g2 : (X.toList == [62]) = (x == [62]) := by rw [HX.out, toList_data]
        have g3 : (Y.toList == [61]) = (y == [61]) := by rw [HY.out, toList_data]
        cases p60 : (x == [60]) <;> cases p62 : (x == [62]) <;> cases p61 : (y == [61]) <;> simp only [longer, p60, p62, p61, Bool.or_true, Bool.or_false, Bool.and_true, Bool.and_false, reduceCtorEq] at hlg <;> rw [p60] at g1 <;> rw [p62] at g2 <;> rw [p61] at g3 <;> clear p60 p62 p61
        all_goals
          go_wp2_with fail
          exact bodyPost_ret (results_tmp rfl _ _ _) rfl ⟨rfl, HB.out⟩
      · rw [hlg, if_pos rfl] at q2
        have k1 := lex_lit _ _ q1 (by simp; omega)
        have k2 := lex_lit _ _ q2 (by simp; omega)
        obtain ⟨X, hX⟩ : ∃ X : ByteArray, X = ⟨x.toArray⟩ := ⟨_, rfl⟩
        obtain ⟨Y, hY⟩ : ∃ Y : ByteArray, Y = ⟨y.toArray⟩ := ⟨_, rfl⟩
        have sX : X.size = x.length := by rw [hX]; simp [ByteArray.size]
        have sY : Y.size = y.length := by rw [hY]; simp [ByteArray.size]
        have ex1 : (⟨(x ++ [32] ++ y).toArray⟩ : ByteArray) = X ++ ⟨#[32]⟩ ++ Y := by
          rw [hX, hY]
          exact (by rw [ByteArray.mk_append_mk, ByteArray.mk_append_mk] : (⟨x.toArray⟩ ++ ⟨[32].toArray⟩ ++ ⟨y.toArray⟩ : ByteArray) = ⟨(x ++ [32] ++ y).toArray⟩).symm
        have ex2 : (⟨(x ++ y).toArray⟩ : ByteArray) = X ++ Y := by rw [hX, hY, ByteArray.mk_append_mk]
        rw [ex1] at k1
        rw [ex2] at k2
        rw [← hX] at cX
        rw [← hY] at cY
        have z1 : ¬ (9223372036854775807 < (X.size : Int) + 1) := by omega
        have z0 : (⟨#[32]⟩ : ByteArray).size = 1 := rfl
        have z2 : (X ++ ⟨#[32]⟩ : ByteArray).size = X.size + 1 := by rw [ByteArray.size_append]; rfl
        have z3 : (X.size : Int) ≤ 2 := by omega
        have z4 : (Y.size : Int) ≤ 2 := by omega
        have n1 : (0 : Int) ≤ i := by omega
        have n2 : (i : Int) < 11 := by omega
        have n3 : (0 : Int) ≤ j := by omega
        have n4 : (j : Int) < 11 := by omega
        have HX := Lib.hid hX
        have HS := Lib.hid sX
        have HE := Lib.hid ex2.symm
        have HY := Lib.hid hY
        clear q1 q2 ex1 ex2 hX hY l1 l2 sX sY hn hm z2
        go_wp2_with fail
        refine (k1 _ hgw).mono ?_
        rintro e w2 ⟨v1, rfl, o1, c1⟩
        dsimp only at o1 ⊢
        go_wp2_with fail
        refine (k2 _ (hgw.kept c1)).mono ?_
        rintro e w3 ⟨v2, rfl, o2, c2⟩
        dsimp only
        have HB := Lib.hid (chain hbel (chain c1 c2))
        have o1 := own_kept o1 c2
        obtain ⟨ga, ca, rfl, _, _, _, hca⟩ := row_form o1 (by simp)
        have a1 : w3.cell? ⟨ga, 1, none⟩ = some (.string X) := by rw [HX.out]; exact (hca 0 _ rfl).2.1
        have a2 : w3.cell? ⟨ga, 5, none⟩ = some (.string Y) := by rw [HY.out]; exact (hca 1 _ rfl).2.1
        clear hca o1 k1 k2 hgw hbel c1 cX cY hb2
        obtain ⟨gb, cb, rfl, _, _, _, hcb⟩ := row_form o2 (by simp)
        have a3 : w3.cell? ⟨gb, 1, none⟩ = some (.string (X ++ Y)) := by rw [HE.out]; exact (hcb 0 _ rfl).2.1
        clear hcb o2
        have g1 : (X.toList == [60]) = (x == [60]) := by rw [HX.out, toList_data]
        have g2 : (X.toList == [62]) = (x == [62]) := by rw [HX.out, toList_data]
        have g3 : (Y.toList == [61]) = (y == [61]) := by rw [HY.out, toList_data]
        cases p60 : (x == [60]) <;> cases p62 : (x == [62]) <;> cases p61 : (y == [61]) <;> simp only [longer, p60, p62, p61, Bool.or_true, Bool.or_false, Bool.and_true, Bool.and_false, reduceCtorEq] at hlg <;> rw [p60] at g1 <;> rw [p62] at g2 <;> rw [p61] at g3 <;> clear p60 p62 p61
        all_goals
          go_wp2_with fail
          exact bodyPost_ret (results_tmp rfl _ _ _) rfl ⟨rfl, HB.out⟩
end Go.Proofs.YtlonkcmkgmbkcaaDoor
