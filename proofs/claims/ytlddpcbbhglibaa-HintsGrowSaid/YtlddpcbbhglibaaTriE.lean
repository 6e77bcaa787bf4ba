/- The walks of math/bits.OnesCount64 and of trigram.Count. -/
import Derived.Test.YtlddpcbbhglibaaTriD
import Derived.Test.YtlddpcbbhglibaaPop
namespace Go.Proofs.Ytlddpcbbhglibaa
open Go.RowKit Bits
set_option maxHeartbeats 400000

theorem wrapu (n : Nat) (h : n < 18446744073709551616) : IntKind.u64.wrap ((n : Nat) : Int) = (n : Int) := by
  unfold IntKind.wrap
  simp [IntKind.bits, IntKind.signed]
  omega
theorem rep55 : rep 0x55 8 = 6148914691236517205 := by decide +kernel
theorem rep33 : rep 0x33 8 = 3689348814741910323 := by decide +kernel
theorem rep0f : rep 0x0f 8 = 1085102592571150095 := by decide +kernel
theorem s1_le (x : Nat) : s1 8 x ≤ 12297829382473034410 := by
  unfold s1; rw [rep55]
  have a : x / 2 &&& 6148914691236517205 ≤ 6148914691236517205 := Nat.and_le_right
  have b : x &&& 6148914691236517205 ≤ 6148914691236517205 := Nat.and_le_right
  omega
theorem s2_le (x : Nat) : s2 8 x ≤ 7378697629483820646 := by
  unfold s2; rw [rep33]
  have a : x / 4 &&& 3689348814741910323 ≤ 3689348814741910323 := Nat.and_le_right
  have b : x &&& 3689348814741910323 ≤ 3689348814741910323 := Nat.and_le_right
  omega
theorem s3_le (x : Nat) : s3 8 x ≤ 1085102592571150095 := by
  unfold s3; rw [rep0f]
  exact Nat.and_le_right
theorem e_s1 (x : Nat) (hx : x < 18446744073709551616) : IntKind.u64.wrap (bits BinOp.and IntKind.u64 ((x : Int) / 2) 6148914691236517205 + bits BinOp.and IntKind.u64 (x : Int) 6148914691236517205) = ((s1 8 x : Nat) : Int) := by
  have h := s1_le x
  have e : (x : Int) / 2 = ((x / 2 : Nat) : Int) := by omega
  have m : (6148914691236517205 : Int) = ((6148914691236517205 : Nat) : Int) := rfl
  rw [e, m, u64_and_nat _ _ (by omega) (by omega), u64_and_nat _ _ hx (by omega), ← Int.natCast_add]
  unfold s1 at h ⊢
  rw [rep55] at h ⊢
  exact wrapu _ (by omega)
theorem e_s2 (x : Nat) (hx : x < 18446744073709551616) : IntKind.u64.wrap (bits BinOp.and IntKind.u64 ((x : Int) / 4) 3689348814741910323 + bits BinOp.and IntKind.u64 (x : Int) 3689348814741910323) = ((s2 8 x : Nat) : Int) := by
  have h := s2_le x
  have e : (x : Int) / 4 = ((x / 4 : Nat) : Int) := by omega
  have m : (3689348814741910323 : Int) = ((3689348814741910323 : Nat) : Int) := rfl
  rw [e, m, u64_and_nat _ _ (by omega) (by omega), u64_and_nat _ _ hx (by omega), ← Int.natCast_add]
  unfold s2 at h ⊢
  rw [rep33] at h ⊢
  exact wrapu _ (by omega)
theorem e_s3 (x : Nat) (hx : x ≤ 7378697629483820646) : bits BinOp.and IntKind.u64 (IntKind.u64.wrap ((x : Int) / 16 + (x : Int))) 1085102592571150095 = ((s3 8 x : Nat) : Int) := by
  have e : (x : Int) / 16 + (x : Int) = ((x / 16 + x : Nat) : Int) := by omega
  have m : (1085102592571150095 : Int) = ((1085102592571150095 : Nat) : Int) := rfl
  rw [e, m, wrapu _ (by omega), u64_and_nat _ _ (by omega) (by omega)]
  unfold s3
  rw [rep0f]
theorem and127 (x : Nat) (hx : x < 9223372036854775808) : bits BinOp.and IntKind.i64 (wrap64 (x : Int)) 127 = ((x % 128 : Nat) : Int) := by
  have e : wrap64 (x : Int) = x := by unfold wrap64; omega
  have f : ∀ a : Nat, a < 9223372036854775808 → (BitVec.ofInt 64 (a : Int)).toNat = a := fun a ha => by
    rw [BitVec.ofInt_natCast, BitVec.toNat_ofNat]; exact Nat.mod_eq_of_lt (by omega)
  rw [e]
  show IntKind.i64.wrap ((BitVec.ofInt 64 (x : Int) &&& BitVec.ofInt 64 ((127 : Nat) : Int)).toNat : Int) = _
  rw [BitVec.toNat_and, f x hx, f 127 (by omega), show x &&& 127 = x % 128 from Nat.and_two_pow_sub_one_eq_mod x 7, IntKind.wrap_i64]
  omega

theorem ones_any (x : Nat) (hx : x < 18446744073709551616) (w : World) :
    Calls Try.prog 34 #[.int .u64 (x : Int)] w fun e w' => e = .returned (.int .i64 (ones x : Int)) ∧ w = w' := by
  go_enter Try.func34, Try.ntmps34
  go_wp2
  go_ret
  refine ⟨?_, rfl⟩
  show Ending.returned (.int .i64 _) = _
  congr 2
  have h1 := s1_le x
  have h2 := s2_le (s1 8 x)
  have h3 := s3_le (s2 8 (s1 8 x))
  rw [e_s1 x hx, e_s2 _ (by omega), e_s3 _ h2]
  unfold ones
  generalize s3 8 (s2 8 (s1 8 x)) = y at *
  clear h1 h2
  have a1 : (y : Int) + (y : Int) / 256 = ((y + y / 256 : Nat) : Int) := by omega
  rw [a1, wrapu _ (by omega)]
  have b1 : y + y / 256 ≤ 1085102592571150095 + 4238682002231055 := by omega
  simp only []
  generalize y + y / 256 = z at *
  clear a1 h3
  have a2 : (z : Int) + (z : Int) / 65536 = ((z + z / 65536 : Nat) : Int) := by omega
  rw [a2, wrapu _ (by omega)]
  have b2 : z + z / 65536 ≤ 1085102592571150095 + 4238682002231055 + 16700000000000 := by omega
  generalize z + z / 65536 = t at *
  clear a2 b1
  have a3 : (t : Int) + (t : Int) / 4294967296 = ((t + t / 4294967296 : Nat) : Int) := by omega
  rw [a3, wrapu _ (by omega), and127 _ (by omega)]

theorem idx24 (x0 x1 x2 x3 : Value) (w : World) : (Instr.index 24 (.agg #[x0, x1, x2, x3]) (.int .i64 0)).run Try.prog w = .ok x0 w ∧ (Instr.index 24 (.agg #[x0, x1, x2, x3]) (.int .i64 1)).run Try.prog w = .ok x1 w
    ∧ (Instr.index 24 (.agg #[x0, x1, x2, x3]) (.int .i64 2)).run Try.prog w = .ok x2 w ∧ (Instr.index 24 (.agg #[x0, x1, x2, x3]) (.int .i64 3)).run Try.prog w = .ok x3 w := by
  refine ⟨?_, ?_, ?_, ?_⟩ <;> kernel_rfl

theorem count_any (x : B) (hx : WF x) (w : World) :
    Calls Try.prog 15 #[bitsV x] w fun e w' => e = .returned (.int .i64 (cnt x : Int)) ∧ Below w.heap.size w w' := by
  have hc : cnt x = ones (x 0) + ones (x 1) + ones (x 2) + ones (x 3) := by
    rw [cnt_words, ones_pop _ (hx 0), ones_pop _ (hx 1), ones_pop _ (hx 2), ones_pop _ (hx 3)]
  have HC := Lib.hid hc
  clear hc
  have hle : ∀ k, ones (x k) ≤ 64 := fun k => by rw [ones_pop _ (hx k)]; exact popTo_le _ _
  have o0 := ones_any (x 0) (hx 0)
  have o1 := ones_any (x 1) (hx 1)
  have o2 := ones_any (x 2) (hx 2)
  have o3 := ones_any (x 3) (hx 3)
  have l0 := hle 0
  have l1 := hle 1
  have l2 := hle 2
  have l3 := hle 3
  clear hle
  generalize ones (x 0) = p0 at *
  generalize ones (x 1) = p1 at *
  generalize ones (x 2) = p2 at *
  generalize ones (x 3) = p3 at *
  rw [bitsV_eq x]
  have i0 := fun w => (idx24 (.int .u64 (x 0 : Int)) (.int .u64 (x 1 : Int)) (.int .u64 (x 2 : Int)) (.int .u64 (x 3 : Int)) w).1
  have i1 := fun w => (idx24 (.int .u64 (x 0 : Int)) (.int .u64 (x 1 : Int)) (.int .u64 (x 2 : Int)) (.int .u64 (x 3 : Int)) w).2.1
  have i2 := fun w => (idx24 (.int .u64 (x 0 : Int)) (.int .u64 (x 1 : Int)) (.int .u64 (x 2 : Int)) (.int .u64 (x 3 : Int)) w).2.2.1
  have i3 := fun w => (idx24 (.int .u64 (x 0 : Int)) (.int .u64 (x 1 : Int)) (.int .u64 (x 2 : Int)) (.int .u64 (x 3 : Int)) w).2.2.2
  go_enter Try.func15, Try.ntmps15
  go_wp2
  refine wp_loop_rounds 5 ?_
  rw [rounds_succ]
  go_wp2_with fail
  refine (o0 _).mono ?_
  rintro e w1 ⟨rfl, rfl⟩
  go_wp2_with fail
  rw [rounds_succ]
  go_wp2_with fail
  refine (o1 _).mono ?_
  rintro e w1 ⟨rfl, rfl⟩
  go_wp2_with fail
  rw [rounds_succ]
  go_wp2_with fail
  refine (o2 _).mono ?_
  rintro e w1 ⟨rfl, rfl⟩
  go_wp2_with fail
  rw [rounds_succ]
  go_wp2_with fail
  refine (o3 _).mono ?_
  rintro e w1 ⟨rfl, rfl⟩
  go_wp2_with fail
  rw [rounds_succ]
  go_wp2_with fail
  go_ret
  refine ⟨?_, (Below.refl _ _).alloc (Nat.le_refl _) _⟩
  rw [HC.out]
  rfl
end Go.Proofs.Ytlddpcbbhglibaa
