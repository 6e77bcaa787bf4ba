/- HintsSure: the walk where there are no hosts. -/
import Derived.Test.YtlddpcbbhglibaaHSureP
namespace Go.Proofs.Ytlddpcbbhglibaa
open Go.RowKit Bits
set_option maxHeartbeats 0
attribute [local go_sem] World.cell?_alloc_some

set_option maxRecDepth 100000 in
theorem sure_none {w : World} {ad : Option Addr} {cap : Nat} {which p0 p1 : Int} :
    Calls Try.prog 8 #[.slice ad 0 cap, .int .i64 which, .agg #[.int .i64 p0, .int .i64 p1]] w fun e w' => e = .returned (.bool true) ∧ Below w.heap.size w w' := by
  obtain ⟨W0, hW0⟩ : ∃ W0, W0 = w.alloc (.cells #[.int .i64 p0, .int .i64 p1] 35) := ⟨_, rfl⟩
  have hb : Below w.heap.size w W0 := by rw [hW0]; exact (Below.refl _ _).alloc (Nat.le_refl _) _
  have hbox : Blk W0 w.heap.size 35 #[.int .i64 p0, .int .i64 p1] := by rw [hW0]; exact Blk.new w 35 _
  have HB := Lib.hid hb
  have HX := Lib.hid hbox
  have HW := Lib.hid hW0
  clear hb hbox
  go_enter Try.func8, Try.ntmps8
  go_wp2_with fail
  rw [show w.alloc (.cells #[.int .i64 p0, .int .i64 p1] 35) = W0 from HW.out.symm]
  clear hW0
  refine (hshown_any _).mono ?_
  rintro e w1 ⟨rfl, b1⟩
  have B1 := Lib.hid b1
  clear b1
  go_wp2_with fail
  refine (new_any _).mono ?_
  rintro e w2 ⟨x, m, n, rfl, i2, hm, hn, hx, b2⟩
  have I2 := Lib.hid i2
  have B2 := Lib.hid (chain' B1.out b2)
  clear i2 b2
  go_wp2_with fail
  refine (new_any _).mono ?_
  rintro e w3 ⟨y, m2, n2, rfl, i3, hm2, hn2, hy, b3⟩
  have HS3 := Lib.hid (show SR W0 x m n y m2 n2 none none w3 from ⟨I2.out.below b3, i3, chain' B2.out b3⟩)
  have hmm : W0.heap.size ≤ m := Nat.le_trans B1.out.size hm
  have hnn : W0.heap.size ≤ n := Nat.le_trans B1.out.size hn
  have hmm2 : W0.heap.size ≤ m2 := Nat.le_trans B2.out.size hm2
  have hnn2 : W0.heap.size ≤ n2 := Nat.le_trans B2.out.size hn2
  have l1 := I2.out.m_lt
  have l2 := I2.out.n_lt
  have A1 := Lib.hid (show Apart m n y m2 n2 from ⟨by omega, by omega, by omega, by omega⟩)
  have A2 := Lib.hid (show Apart m2 n2 x m n from ⟨by omega, by omega, by omega, by omega⟩)
  clear i3 b3 l1 l2 hm hn hx hm2 hn2 hy
  go_upto_region 9 with (fail)
  go_loopg [11] 2 (fun gk c wr => 1 < gk + 1 ∧ c = .int .i64 0 ∧ wr = w3)
  case atStart => exact ⟨by omega, rfl, rfl⟩
  case round =>
    obtain ⟨_, rfl, rfl⟩ := hrel
    go_wp2_with fail
    refine (hjoin_any HS3.out A1.out hmm hnn).mono ?_
    rintro e w4 ⟨rfl, i4, b4⟩
    have I4 := Lib.hid (show Idx w4 x m n false none from i4)
    have B4 := Lib.hid b4
    clear i4 b4
    go_wp2_with fail
    refine (seen_any I4.out load).mono ?_
    rintro e w5 ⟨rfl, rfl⟩
    have e1 : (false && load == load) = false := rfl
    rw [e1]
    go_wp2_with fail
    refine (cond_any _ _ _ _).mono ?_
    rintro e w8 ⟨g3, rfl, hg3, n3, b8⟩
    have B8 := Lib.hid (chain' B4.out b8)
    have I8 := Lib.hid (I4.out.below b8)
    clear n3 b8
    unfold slice1
    go_wp2_with fail
    refine (might_no I8.out load rfl _ _ _ _).mono ?_
    rintro e w9 ⟨rfl, b9⟩
    have B9 := Lib.hid (chain' B8.out b9)
    clear b9
    go_wp2_with fail
    exact bodyPost_ret (results_tmp rfl _ _ _) rfl ⟨rfl, chain' HB.out B9.out⟩
end Go.Proofs.Ytlddpcbbhglibaa
