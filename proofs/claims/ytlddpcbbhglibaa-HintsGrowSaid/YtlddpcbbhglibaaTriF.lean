/- The walks of Whole, of the reference's Whole, and of the statements' head. -/
import Derived.Test.YtlddpcbbhglibaaTriB
import Derived.Test.YtlddpcbbhglibaaTriE
namespace Go.Proofs.Ytlddpcbbhglibaa
open Go.RowKit Bits
set_option maxHeartbeats 400000

def wholeS (s : ByteArray) : ByteArray := { data := #[1] } ++ s ++ { data := #[2] }
theorem size_wholeS (s : ByteArray) : (wholeS s).size = s.size + 2 := by
  unfold wholeS
  rw [ByteArray.size_append, ByteArray.size_append]
  show 1 + s.size + 1 = _
  omega
theorem whole_any (s : ByteArray) (hs : s.size ≤ 140737488351232) (w : World) :
    Calls Try.prog 19 #[.string s] w fun e w' => e = .returned (bitsV (ofB (wholeS s))) ∧ Below w.heap.size w w' := by
  have h := of_any (wholeS s) (by rw [size_wholeS]; unfold maxLen; omega)
  rw [bitsV_eq (ofB (wholeS s))] at h
  have H := Lib.hid h
  clear h
  have hr := Blk.new w 24 (bitsA zero)
  go_enter Try.func19, Try.ntmps19
  go_wp2_with fail
  refine (H.out _).mono ?_
  rintro e w1 ⟨rfl, hb1⟩
  have hr1 := hr.below hb1 (by simp)
  have hb2 : Below w.heap.size w w1 := Below.trans ((Below.refl _ _).alloc (Nat.le_refl _) _) (hb1.mono (by simp))
  clear hr hb1
  obtain ⟨r0, r1, r2, r3⟩ := blk4 hr1
  obtain ⟨f0, f1, f2, f3⟩ := free4 hr1
  go_wp2
  refine bodyPost_ret (v := bitsV (ofB (wholeS s))) (res_bits Try.results19 rfl (x := ofB (wholeS s)) (put4 hr1)) rfl ⟨rfl, ?_⟩
  exact (((hb2.setCell (by simp) _).setCell (by simp) _).setCell (by simp) _).setCell (by simp) _
theorem rwhole_any (s : ByteArray) (hs : s.size ≤ 140737488351232) (w : World) :
    Calls Try.prog 20 #[.string s] w fun e w' => e = .returned (bitsV (ofB (wholeS s))) ∧ Below w.heap.size w w' := by
  have h := rof_any (wholeS s) (by rw [size_wholeS]; omega)
  rw [bitsV_eq (ofB (wholeS s))] at h
  have H := Lib.hid h
  clear h
  have hr := Blk.new w 24 (bitsA zero)
  go_enter Try.func20, Try.ntmps20
  go_wp2_with fail
  refine (H.out _).mono ?_
  rintro e w1 ⟨rfl, hb1⟩
  have hr1 := hr.below hb1 (by simp)
  have hb2 : Below w.heap.size w w1 := Below.trans ((Below.refl _ _).alloc (Nat.le_refl _) _) (hb1.mono (by simp))
  clear hr hb1
  obtain ⟨r0, r1, r2, r3⟩ := blk4 hr1
  obtain ⟨f0, f1, f2, f3⟩ := free4 hr1
  go_wp2
  refine bodyPost_ret (v := bitsV (ofB (wholeS s))) (res_bits Try.results20 rfl (x := ofB (wholeS s)) (put4 hr1)) rfl ⟨rfl, ?_⟩
  exact (((hb2.setCell (by simp) _).setCell (by simp) _).setCell (by simp) _).setCell (by simp) _

/-! The head: the document's examples -/
theorem fact_ab : ∀ k, k < 4 → ofB ⟨#[97, 98]⟩ k = 0 := by decide +kernel
theorem fact_count : cnt (ofB ⟨#[97, 98, 99]⟩) = 1 := by decide +kernel
theorem fact_has : has (ofB ⟨#[97, 98, 99]⟩) 98 = true := by decide +kernel
theorem fact_in : withinB (ofB ⟨#[101, 98, 32, 115]⟩) (ofB ⟨#[119, 101, 98, 32, 115, 101, 114, 118, 101, 114]⟩) = true := by decide +kernel
theorem fact_out : withinB (ofB ⟨#[100, 98, 120]⟩) (ofB ⟨#[119, 101, 98]⟩) = false := by decide +kernel
theorem run_eqz (d : Nat) (w : World) : (Op.equalIn (d + 2) 24 (.agg #[.int .u64 0, .int .u64 0, .int .u64 0, .int .u64 0]) (.agg #[.int .u64 0, .int .u64 0, .int .u64 0, .int .u64 0])).run Try.prog w = .ok true w := by
  have h := run_eqArr w d 24 22 4 .u64 Try.underlying24 Try.underlying22 info22 (isAgg22 w) [0, 0, 0, 0] [0, 0, 0, 0] rfl rfl
  exact h
attribute [local go_sem] run_eqz
set_option maxRecDepth 100000 in
theorem shown_any (w : World) : Calls Try.prog 10 #[] w fun e w' => e = .returned (.bool true) ∧ Below w.heap.size w w' := by
  have g1 := of_any ⟨#[97, 98, 99]⟩ (by decide)
  have g2 := of_any ⟨#[97, 98]⟩ (by decide)
  rw [bitsV_eq, fact_ab 0 (by omega), fact_ab 1 (by omega), fact_ab 2 (by omega), fact_ab 3 (by omega)] at g2
  have g3 := of_any ⟨#[101, 98, 32, 115]⟩ (by decide)
  have g4 := of_any ⟨#[119, 101, 98, 32, 115, 101, 114, 118, 101, 114]⟩ (by decide)
  have g5 := of_any ⟨#[100, 98, 120]⟩ (by decide)
  have g6 := of_any ⟨#[119, 101, 98]⟩ (by decide)
  have c1 := count_any _ (wf_ofB ⟨#[97, 98, 99]⟩)
  rw [fact_count] at c1
  have c2 := has_any (ofB ⟨#[97, 98, 99]⟩) 98 (by omega)
  rw [fact_has] at c2
  have c3 := within_any _ _ (wf_ofB ⟨#[101, 98, 32, 115]⟩) (wf_ofB ⟨#[119, 101, 98, 32, 115, 101, 114, 118, 101, 114]⟩)
  rw [fact_in] at c3
  have c4 := within_any _ _ (wf_ofB ⟨#[100, 98, 120]⟩) (wf_ofB ⟨#[119, 101, 98]⟩)
  rw [fact_out] at c4
  generalize ofB ⟨#[97, 98, 99]⟩ = A at *
  generalize ofB ⟨#[101, 98, 32, 115]⟩ = C at *
  generalize ofB ⟨#[119, 101, 98, 32, 115, 101, 114, 118, 101, 114]⟩ = D at *
  generalize ofB ⟨#[100, 98, 120]⟩ = E at *
  generalize ofB ⟨#[119, 101, 98]⟩ = F at *
  rw [bitsV_eq A] at g1 c1 c2
  rw [bitsV_eq C] at g3 c3
  rw [bitsV_eq D] at g4 c3
  rw [bitsV_eq E] at g5 c4
  rw [bitsV_eq F] at g6 c4
  have G1 := Lib.hid g1
  have G2 := Lib.hid g2
  have G3 := Lib.hid g3
  have G4 := Lib.hid g4
  have G5 := Lib.hid g5
  have G6 := Lib.hid g6
  have C1 := Lib.hid c1
  have C2 := Lib.hid c2
  have C3 := Lib.hid c3
  have C4 := Lib.hid c4
  clear g1 g2 g3 g4 g5 g6 c1 c2 c3 c4
  go_enter Try.func10, Try.ntmps10
  go_wp2_with fail
  refine (G1.out _).mono ?_
  rintro e w1 ⟨rfl, hb1⟩
  have hr := Blk.new w1 24 (bitsA A)
  go_wp2_with fail
  refine (G2.out _).mono ?_
  rintro e w2 ⟨rfl, hb2⟩
  have hr2 := hr.below hb2 (by simp)
  have hB2 : Below w.heap.size w w2 := Below.trans (hb1.alloc hb1.size _) (hb2.mono (by simp; have := hb1.size; omega))
  clear hr hb1 hb2
  obtain ⟨r0, r1, r2, r3⟩ := blk4 hr2
  go_wp2_with fail
  refine (C1.out _).mono ?_
  rintro e w3 ⟨rfl, hb3⟩
  have hr3 := hr2.below hb3 hr2.lt
  obtain ⟨s30, s31, s32, s33⟩ := blk4 hr3
  have hB3 := hB2.trans (hb3.mono hB2.size)
  clear hb3
  go_wp2_with fail
  refine (C2.out _).mono ?_
  rintro e w4 ⟨rfl, hb4⟩
  have hB4 := hB3.trans (hb4.mono hB3.size)
  clear hb4
  go_wp2_with fail
  refine (G3.out _).mono ?_
  rintro e w5 ⟨rfl, hb5⟩
  have hB5 := hB4.trans (hb5.mono hB4.size)
  clear hb5
  go_wp2_with fail
  refine (G4.out _).mono ?_
  rintro e w6 ⟨rfl, hb6⟩
  have hB6 := hB5.trans (hb6.mono hB5.size)
  clear hb6
  go_wp2_with fail
  refine (C3.out _).mono ?_
  rintro e w7 ⟨rfl, hb7⟩
  have hB7 := hB6.trans (hb7.mono hB6.size)
  clear hb7
  go_wp2_with fail
  refine (G5.out _).mono ?_
  rintro e w8 ⟨rfl, hb8⟩
  have hB8 := hB7.trans (hb8.mono hB7.size)
  clear hb8
  go_wp2_with fail
  refine (G6.out _).mono ?_
  rintro e w9 ⟨rfl, hb9⟩
  have hB9 := hB8.trans (hb9.mono hB8.size)
  clear hb9
  go_wp2_with fail
  refine (C4.out _).mono ?_
  rintro e w10 ⟨rfl, hb10⟩
  have hB10 := hB9.trans (hb10.mono hB9.size)
  clear hb10
  go_wp2_with fail
  go_ret
  exact ⟨rfl, hB10⟩
end Go.Proofs.Ytlddpcbbhglibaa
