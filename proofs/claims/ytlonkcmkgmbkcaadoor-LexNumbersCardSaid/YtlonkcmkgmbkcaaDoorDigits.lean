/- The walk of catchmentref01.Digits: the decimal digits of a number. -/
import Derived.Test.YtlonkcmkgmbkcaaDoorLexG
import Derived.Lib.ItoaLen
import Derived.Test.YtlonkcmkgmbkcaaDoorLexNum
import Derived.Laws.IdiomStrings
namespace Go.Proofs.YtlonkcmkgmbkcaaDoor
open Go.RowKit LexS
set_option maxHeartbeats 4000000

def DigRel (u : Nat) (w : World) (x : Nat) (s : Bytes) (wr : World) : Prop := x ≤ u ∧ Lib.decDigits u = Lib.decDigits x ++ s ∧ Below w.heap.size w wr
theorem dig_len {u x : Nat} {s : Bytes} (hu : u ≤ 9223372036854775808) (h : Lib.decDigits u = Lib.decDigits x ++ s) : s.length ≤ 20 := by
  have h1 := Lib.itoa_length_le (-(u : Int)) (by omega) (by omega)
  have h2 : (Lib.decDigits u).length ≤ 21 := by
    rcases Nat.eq_zero_or_pos u with h0 | h0
    · subst h0; decide +kernel
    · rw [Lib.itoa_neg u h0] at h1; simp at h1; omega
  have h3 : 1 ≤ (Lib.decDigits x).length := List.length_pos_iff.2 (decDigits_ne x)
  rw [h, List.length_append] at h2
  omega
theorem dig_next {u x : Nat} {s : Bytes} (hx : ¬ x < 10) (h : Lib.decDigits u = Lib.decDigits x ++ s) : Lib.decDigits u = Lib.decDigits (x / 10) ++ (UInt8.ofNat (48 + x % 10) :: s) := by
  rw [h, decDigits_ge hx, List.append_assoc]
  rfl

theorem one_byte (W : World) (d : Nat) (hd : d < 10) :
    (convert 55 9 (.slice (some ⟨W.heap.size, 0, none⟩) 1 1)).run Tryd.prog (W.alloc (.cells #[.int .u8 (48 + (d : Int))] 5)) =
      .ok (.string ⟨#[UInt8.ofNat (48 + d)]⟩) (W.alloc (.cells #[.int .u8 (48 + (d : Int))] 5)) := by
  refine run_convert_bytes_back (P := Tryd.prog) _ 55 9 5 ⟨W.heap.size, 0, none⟩ 1 [UInt8.ofNat (48 + d)] (by kernel_rfl) (by kernel_rfl) (by kernel_rfl) ?_
  intro j hj
  have hj0 : j = 0 := by simpa using hj
  subst hj0
  have hb : (UInt8.ofNat (48 + d)).toNat = 48 + d := byte_of hd
  have := (Blk.new W 5 #[.int .u8 (48 + (d : Int))]).cell 0
  rw [Addr.add_lit]
  refine this.trans ?_
  show some (Value.int .u8 (48 + (d : Int))) = some (.int .u8 ((UInt8.ofNat (48 + d)).toNat : Int))
  rw [hb]
  congr 2
set_option maxRecDepth 100000 in
theorem digits_pos (u : Nat) (hu : u ≤ 9223372036854775807) (w : World) :
    Calls Tryd.prog 16 #[.int .i64 ((u : Int))] w fun e w' => e = .returned (.string ⟨(Lib.decDigits u).toArray⟩) ∧ Below w.heap.size w w' := by
  go_enter Tryd.func16, Tryd.ntmps16
  go_wp2_with fail
  go_loopw [3, 4] (fun sv c wr => ∃ (x : Nat) (s : Bytes), sv = .string ⟨s.toArray⟩ ∧ c = .int .i64 ((x : Int)) ∧ DigRel u w x s wr) (fun _ c _ => (intOf c).natAbs)
  case atStart => exact ⟨u, [], rfl, rfl, Nat.le_refl _, by simp, Below.refl _ _⟩
  case round =>
    obtain ⟨x, s, rfl, rfl, hx, he, hb⟩ := hrel
    have hlen := dig_len (by omega) he
    have hsz : (⟨s.toArray⟩ : ByteArray).size = s.length := by simp [ByteArray.size]
    have g0 : decide ((x : Int) < -9) = false := decide_eq_false (by omega)
    have g0' : ¬ ((x : Int) < -9) := by omega
    by_cases h10 : x < 10
    · have g1 : ¬ (9 : Int) < (x : Int) := by omega
      have g2 : decide (9 < (x : Int)) = false := decide_eq_false g1
      have g3 : decide (9 < x) = false := decide_eq_false (by omega)
      have HB := Lib.hid hb
      have hcv := one_byte wr x h10
      obtain ⟨c, hc⟩ : ∃ c, c = UInt8.ofNat (48 + x) := ⟨_, rfl⟩
      rw [← hc] at hcv
      have hend : Lib.decDigits u = c :: s := by rw [he, decDigits_lt h10, hc]; rfl
      have hcat : (⟨#[c]⟩ : ByteArray) ++ ⟨s.toArray⟩ = ⟨(c :: s).toArray⟩ := by
        have := ByteArray.mk_append_mk [c] s
        simpa using this
      have hsz2 : (⟨(c :: s).toArray⟩ : ByteArray).size = s.length + 1 := by simp [ByteArray.size]
      have wu : IntKind.u8.wrap (48 + (x : Int)) = 48 + x := by simp [IntKind.wrap, IntKind.bits, IntKind.signed]; omega
      have nn : ¬ (u : Int) < 0 := by omega
      have nx : ¬ (x : Int) < 0 := by omega
      have H2 := Lib.hid hend
      clear he hb hx hc hend
      go_wp2_with fail
      exact bodyPost_ret (results_tmp rfl _ _ _) rfl ⟨by rw [H2.out]; rfl, HB.out.alloc HB.out.size _⟩
    · have g1 : (9 : Int) < (x : Int) := by omega
      have g2 : decide (9 < (x : Int)) = true := decide_eq_true g1
      have g3 : decide (9 < x) = true := decide_eq_true (by omega)
      have hd10 : x % 10 < 10 := Nat.mod_lt _ (by omega)
      have hq10 : x / 10 < x := Nat.div_lt_self (by omega) (by omega)
      have t1 : Int.tmod ((x : Int)) 10 = ((x % 10 : Nat) : Int) := (Int.ofNat_tmod x 10).symm
      have t2 : Int.tdiv ((x : Int)) 10 = ((x / 10 : Nat) : Int) := (Int.ofNat_tdiv x 10).symm
      have hcv := one_byte wr (x % 10) hd10
      obtain ⟨c, hc⟩ : ∃ c, c = UInt8.ofNat (48 + x % 10) := ⟨_, rfl⟩
      have hnx := dig_next h10 he
      rw [← hc] at hcv hnx
      obtain ⟨d, hd_⟩ : ∃ d, d = x % 10 := ⟨_, rfl⟩
      obtain ⟨q, hq_⟩ : ∃ q, q = x / 10 := ⟨_, rfl⟩
      rw [← hd_] at t1 hcv hd10
      rw [← hq_] at t2 hnx hq10
      have hcat : (⟨#[c]⟩ : ByteArray) ++ ⟨s.toArray⟩ = ⟨(c :: s).toArray⟩ := by
        have := ByteArray.mk_append_mk [c] s
        simpa using this
      have wu : IntKind.u8.wrap (48 + (d : Int)) = 48 + d := by simp [IntKind.wrap, IntKind.bits, IntKind.signed]; omega
      have HN := Lib.hid (show DigRel u w q (c :: s) (wr.alloc (.cells #[.int .u8 (48 + (d : Int))] 5)) from ⟨by omega, hnx, hb.alloc hb.size _⟩)
      clear he hb hc hnx hd_ hq_ h10
      go_wp2_with fail
      exact ⟨⟨q, c :: s, rfl, rfl, HN.out⟩, by simp [intOf]; omega⟩
set_option maxRecDepth 100000 in
theorem digits_neg (u : Nat) (hu1 : 1 ≤ u) (hu : u ≤ 9223372036854775808) (w : World) :
    Calls Tryd.prog 16 #[.int .i64 (-(u : Int))] w fun e w' => e = .returned (.string ⟨(45 :: Lib.decDigits u).toArray⟩) ∧ Below w.heap.size w w' := by
  go_enter Tryd.func16, Tryd.ntmps16
  go_wp2_with fail
  go_loopw [3, 4] (fun sv c wr => ∃ (x : Nat) (s : Bytes), sv = .string ⟨s.toArray⟩ ∧ c = .int .i64 (-(x : Int)) ∧ DigRel u w x s wr) (fun _ c _ => (intOf c).natAbs)
  case atStart => exact ⟨u, [], rfl, rfl, Nat.le_refl _, by simp, Below.refl _ _⟩
  case round =>
    obtain ⟨x, s, rfl, rfl, hx, he, hb⟩ := hrel
    have hlen := dig_len (by omega) he
    have hsz : (⟨s.toArray⟩ : ByteArray).size = s.length := by simp [ByteArray.size]
    by_cases h10 : x < 10
    · have g0 : decide (-(x : Int) < -9) = false := decide_eq_false (by omega)
      have g0' : ¬ (-(x : Int) < -9) := by omega
      have g1 : ¬ (9 : Int) < -(x : Int) := by omega
      have g2 : decide (9 < -(x : Int)) = false := decide_eq_false g1
      have HB := Lib.hid hb
      have hcv := one_byte wr x h10
      obtain ⟨c, hc⟩ : ∃ c, c = UInt8.ofNat (48 + x) := ⟨_, rfl⟩
      rw [← hc] at hcv
      have hend : Lib.decDigits u = c :: s := by rw [he, decDigits_lt h10, hc]; rfl
      have hcat : (⟨#[c]⟩ : ByteArray) ++ ⟨s.toArray⟩ = ⟨(c :: s).toArray⟩ := by
        have := ByteArray.mk_append_mk [c] s
        simpa using this
      have hsz2 : (⟨(c :: s).toArray⟩ : ByteArray).size = s.length + 1 := by simp [ByteArray.size]
      have hcat2 : (⟨#[45]⟩ : ByteArray) ++ ⟨(c :: s).toArray⟩ = ⟨(45 :: c :: s).toArray⟩ := by
        have := ByteArray.mk_append_mk [45] (c :: s)
        simpa using this
      have wu : IntKind.u8.wrap (48 + (x : Int)) = 48 + x := by simp [IntKind.wrap, IntKind.bits, IntKind.signed]; omega
      have nn : (-(u : Int)) < 0 := by omega
      have nd : decide (-(u : Int) < 0) = true := decide_eq_true nn
      have H2 := Lib.hid hend
      clear he hb hx hc hend
      by_cases hx0 : x = 0
      · subst hx0
        rw [show (48 + ((0 : Nat) : Int)) = 48 from rfl] at hcv
        go_wp2_with fail
        exact bodyPost_ret (results_tmp rfl _ _ _) rfl ⟨by rw [H2.out]; rfl, HB.out.alloc HB.out.size _⟩
      · have nx : (-(x : Int)) < 0 := by omega
        have ndx : decide (-(x : Int) < 0) = true := decide_eq_true nx
        have nxx : 0 < x := by omega
        have HX := Lib.hid hx0
        clear hx0
        go_wp2_with fail
        exact bodyPost_ret (results_tmp rfl _ _ _) rfl ⟨by rw [H2.out]; rfl, HB.out.alloc HB.out.size _⟩
    · have g0 : decide (-(x : Int) < -9) = true := decide_eq_true (by omega)
      have g0' : (-(x : Int) < -9) := by omega
      have hd10 : x % 10 < 10 := Nat.mod_lt _ (by omega)
      have hq10 : x / 10 < x := Nat.div_lt_self (by omega) (by omega)
      have t1 : Int.tmod (-(x : Int)) 10 = -((x % 10 : Nat) : Int) := by rw [Int.neg_tmod]; exact congrArg _ (Int.ofNat_tmod x 10).symm
      have t2 : Int.tdiv (-(x : Int)) 10 = -((x / 10 : Nat) : Int) := by rw [Int.neg_tdiv]; exact congrArg _ (Int.ofNat_tdiv x 10).symm
      have hcv := one_byte wr (x % 10) hd10
      obtain ⟨c, hc⟩ : ∃ c, c = UInt8.ofNat (48 + x % 10) := ⟨_, rfl⟩
      have hnx := dig_next h10 he
      rw [← hc] at hcv hnx
      obtain ⟨d, hd_⟩ : ∃ d, d = x % 10 := ⟨_, rfl⟩
      obtain ⟨q, hq_⟩ : ∃ q, q = x / 10 := ⟨_, rfl⟩
      rw [← hd_] at t1 hcv hd10
      rw [← hq_] at t2 hnx hq10
      have hcat : (⟨#[c]⟩ : ByteArray) ++ ⟨s.toArray⟩ = ⟨(c :: s).toArray⟩ := by
        have := ByteArray.mk_append_mk [c] s
        simpa using this
      have wu : IntKind.u8.wrap (48 + (d : Int)) = 48 + d := by simp [IntKind.wrap, IntKind.bits, IntKind.signed]; omega
      have HN := Lib.hid (show DigRel u w q (c :: s) (wr.alloc (.cells #[.int .u8 (48 + (d : Int))] 5)) from ⟨by omega, hnx, hb.alloc hb.size _⟩)
      clear he hb hc hnx hd_ hq_ h10
      by_cases hd0 : d = 0
      · subst hd0
        rw [show (48 + ((0 : Nat) : Int)) = 48 from rfl] at hcv
        go_wp2_with fail
        exact ⟨⟨q, c :: s, rfl, rfl, HN.out⟩, by simp [intOf]; omega⟩
      · have ndd : -(d : Int) < 0 := by omega
        have ndb : decide (-(d : Int) < 0) = true := decide_eq_true ndd
        have npd : 0 < d := by omega
        have HD := Lib.hid hd0
        clear hd0
        go_wp2_with fail
        exact ⟨⟨q, c :: s, rfl, rfl, HN.out⟩, by simp [intOf]; omega⟩
end Go.Proofs.YtlonkcmkgmbkcaaDoor
