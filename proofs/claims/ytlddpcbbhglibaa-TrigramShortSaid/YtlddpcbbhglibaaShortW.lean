/- The walk of the statement TrigramShort. -/
import Derived.Test.YtlddpcbbhglibaaKeep
namespace Go.Proofs.Ytlddpcbbhglibaa
open Go.RowKit Bits
set_option maxHeartbeats 1000000

set_option maxRecDepth 100000 in
theorem short_walk (s a b : ByteArray) (hs : s.size ≤ 140737488351232) (ha : a.size ≤ 140737488351232) (hb : b.size ≤ 140737488351232) (w : World) :
    Calls Try.prog 5 #[.string s, .string a, .string b] w fun e w' => e = .returned (.bool true) ∧ Below w.heap.size w w' := by
  go_enter Try.func5, Try.ntmps5
  go_wp2_with fail
  refine (shown_any _).mono ?_
  rintro e w1 ⟨rfl, hB1⟩
  go_wp2_with fail
  go_loopw [8] (fun c wr => ∃ k : Nat, k ≤ 100 ∧ k ≤ s.size ∧ c = .int .i64 k ∧ Below w.heap.size w wr) (fun c _ => 100 - (intOf c).toNat)
  case atStart => exact ⟨0, by omega, by omega, rfl, hB1⟩
  case round =>
    obtain ⟨k, hk, hks, rfl, hB⟩ := hrel
    clear hB1
    have e3 : IntKind.i64.wrap ((k : Int) + 3) = (k : Int) + 3 := IntWalk.i64_in _ (by omega)
    by_cases h3 : k + 3 ≤ s.size
    · have d3 : decide ((k : Int) + 3 ≤ (s.size : Int)) = true := decide_eq_true (by omega)
      by_cases h1 : k < 100
      · have d1 : decide ((k : Int) < 100) = true := decide_eq_true (by omega)
        have b1 : (0 : Int) ≤ k := by omega
        have b2 : (k : Int) ≤ (k : Int) + 3 := by omega
        have b3 : (k : Int) + 3 ≤ s.size := by omega
        have b4 : (0 : Int) ≤ (k : Int) + 3 := by omega
        have t3 : ((k : Int) + 3).toNat = k + 3 := by omega
        have hsz := size_cut s k (k + 3) h3
        have g1 := of_any (s.extract k (k + 3)) (by rw [hsz]; unfold maxLen; omega)
        have g2 := of_any (a ++ s.extract k (k + 3) ++ b) (by rw [ByteArray.size_append, ByteArray.size_append, hsz]; unfold maxLen; omega)
        have g3 := count_any _ (wf_ofB (s.extract k (k + 3)))
        rw [count_three _ (by rw [hsz]; omega)] at g3
        have g4 := within_any _ _ (wf_ofB (s.extract k (k + 3))) (wf_ofB (a ++ s.extract k (k + 3) ++ b))
        rw [within_middle] at g4
        rw [bitsV_eq (ofB (s.extract k (k + 3)))] at g1 g3 g4
        rw [bitsV_eq (ofB (a ++ s.extract k (k + 3) ++ b))] at g2 g4
        obtain ⟨P, hP⟩ : ∃ P, s.extract k (k + 3) = P := ⟨_, rfl⟩
        rw [hP] at g1 g2 g3 g4 hsz
        have hPs : P.size ≤ 3 := by omega
        clear hsz
        have z1 : ¬ (9223372036854775807 < a.size + P.size) := by omega
        have z2 : ¬ (9223372036854775807 < a.size + P.size + b.size) := by omega
        generalize ofB (a ++ P ++ b) = Y at *
        generalize ofB P = A at *
        have G1 := Lib.hid g1
        have G2 := Lib.hid g2
        have G3 := Lib.hid g3
        have G4 := Lib.hid g4
        clear g1 g2 g3 g4
        go_wp2_with fail
        refine (G1.out _).mono ?_
        rintro e w2 ⟨rfl, h2⟩
        have hB2 := chain' hB h2
        clear h2 G1 hB
        have hk1 : K1 w w2.heap.size A (w2.alloc (.cells (bitsA A) 24)).drew := ⟨(hB2.alloc hB2.size _).drew, (Blk.new w2 24 (bitsA A)).drew⟩
        clear hB2
        unfold bitsA at hk1
        go_wp2_with fail
        go_region_held3 (fun w' => w'.cell? ⟨w2.heap.size, 0, none⟩ = some (.int .u64 (A 0 : Int)) ∧ w'.cell? ⟨w2.heap.size, 1, none⟩ = some (.int .u64 (A 1 : Int)) ∧ w'.cell? ⟨w2.heap.size, 2, none⟩ = some (.int .u64 (A 2 : Int)) ∧ w'.cell? ⟨w2.heap.size, 3, none⟩ = some (.int .u64 (A 3 : Int)))
          (first | exact K1.cells (by assumption) | go_keep)
          (first
            | (go_at_call 15; (with_reducible refine (G3.out _).mono ?_); rintro e w1 ⟨rfl, hb1⟩; have hk1 := K1.below (by assumption) hb1; clear hb1)
            | (go_at_call 17; (with_reducible refine (G2.out _).mono ?_); rintro e w1 ⟨rfl, hb1⟩; have hk1 := K1.below (by assumption) hb1; clear hb1)
            | (go_at_call 13; (with_reducible refine (G4.out _).mono ?_); rintro e w1 ⟨rfl, hb1⟩; have hk1 := K1.below (by assumption) hb1; clear hb1))
        go_wp2
        exact ⟨⟨k + 1, by omega, by omega, rfl, K1.frame (by assumption)⟩, by simp [intOf]; omega⟩
      · have d1 : decide ((k : Int) < 100) = false := decide_eq_false (by omega)
        have d5 : decide (s.size ≥ 3) = true := decide_eq_true (by omega)
        have d6 : (3 : Int) ≤ s.size := by omega
        go_wp2_with fail
        go_ret
        exact ⟨rfl, hB⟩
    · have d3 : decide ((k : Int) + 3 ≤ (s.size : Int)) = false := decide_eq_false (by omega)
      by_cases h5 : 3 ≤ s.size
      · have d6 : (3 : Int) ≤ s.size := by omega
        go_wp2_with fail
        go_ret
        exact ⟨rfl, hB⟩
      · have d6 : (s.size : Int) < 3 := by omega
        have g1 := of_any s (by unfold maxLen; omega)
        have g3 := count_any _ (wf_ofB s)
        rw [count_short _ (by omega)] at g3
        rw [bitsV_eq (ofB s)] at g1 g3
        generalize ofB s = A at *
        have G1 := Lib.hid g1
        have G3 := Lib.hid g3
        clear g1 g3
        go_wp2_with fail
        refine (G1.out _).mono ?_
        rintro e w2 ⟨rfl, h2⟩
        have hB2 := chain' hB h2
        clear h2 G1 hB
        go_wp2_with fail
        refine (G3.out _).mono ?_
        rintro e w3 ⟨rfl, h3⟩
        have hB3 := chain' hB2 h3
        clear h3 hB2
        go_wp2_with fail
        go_ret
        exact ⟨rfl, hB3⟩
end Go.Proofs.Ytlddpcbbhglibaa
