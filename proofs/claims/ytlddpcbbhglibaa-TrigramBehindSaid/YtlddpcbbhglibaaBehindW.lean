/- The walk of the statement TrigramBehind. -/
import Derived.Test.YtlddpcbbhglibaaKeep
namespace Go.Proofs.Ytlddpcbbhglibaa
open Go.RowKit Bits
set_option maxHeartbeats 1000000

set_option maxRecDepth 100000 in
theorem behind_walk (s t : ByteArray) (hs : s.size ≤ 140737488351232) (ht : t.size ≤ 140737488351232) (w : World) :
    Calls Try.prog 4 #[.string s, .string t] w fun e w' => e = .returned (.bool true) ∧ Below w.heap.size w w' := by
  have g0 := shown_any
  have g1 := of_any s (by unfold maxLen; omega)
  have g2 := of_any t (by unfold maxLen; omega)
  have g3 := join_any _ _ (wf_ofB s) (wf_ofB t)
  have g4 := of_any (s ++ t) (by rw [ByteArray.size_append]; unfold maxLen; omega)
  have g5 := within_any _ _ (wf_joinB (wf_ofB s) (wf_ofB t)) (wf_ofB (s ++ t))
  rw [within_both] at g5
  have g6 := count_any _ (wf_ofB (s ++ t))
  have g7 := count_any _ (wf_joinB (wf_ofB s) (wf_ofB t))
  have hc := count_both s t
  have hl := cntTo_le (joinB (ofB s) (ofB t)) 256
  change cnt (joinB (ofB s) (ofB t)) ≤ 256 at hl
  generalize cnt (ofB (s ++ t)) = c1 at *
  generalize cnt (joinB (ofB s) (ofB t)) = c2 at *
  generalize joinB (ofB s) (ofB t) = J at *
  generalize ofB (s ++ t) = L at *
  generalize ofB s = X at *
  generalize ofB t = Y at *
  have e2 : IntKind.i64.wrap ((c2 : Int) + 2) = (c2 : Int) + 2 := IntWalk.i64_in _ (by omega)
  have hd : decide ((c1 : Int) ≤ (c2 : Int) + 2) = true := decide_eq_true (by omega)
  rw [bitsV_eq X] at g1 g3
  rw [bitsV_eq Y] at g2 g3
  rw [bitsV_eq J] at g3 g5 g7
  rw [bitsV_eq L] at g4 g5 g6
  have G0 := Lib.hid g0
  have G1 := Lib.hid g1
  have G2 := Lib.hid g2
  have G3 := Lib.hid g3
  have G4 := Lib.hid g4
  have G5 := Lib.hid g5
  have G6 := Lib.hid g6
  have G7 := Lib.hid g7
  clear g0 g1 g2 g3 g4 g5 g6 g7
  go_enter Try.func4, Try.ntmps4
  go_wp2_with fail
  refine (G0.out _).mono ?_
  rintro e w1 ⟨rfl, hB1⟩
  go_wp2_with fail
  refine (G1.out _).mono ?_
  rintro e w2 ⟨rfl, h2⟩
  have hB2 := chain' hB1 h2
  clear h2 hB1
  go_wp2_with fail
  refine (G2.out _).mono ?_
  rintro e w3 ⟨rfl, h3⟩
  have hB3 := chain' hB2 h3
  clear h3 hB2
  go_wp2_with fail
  refine (G3.out _).mono ?_
  rintro e w4 ⟨rfl, h4⟩
  have hB4 := chain' hB3 h4
  clear h4 hB3
  have hj := Blk.new w4 24 (bitsA J)
  have hB4' : Below w.heap.size w (w4.alloc (.cells (bitsA J) 24)) := hB4.alloc hB4.size _
  go_wp2_with fail
  refine (G4.out _).mono ?_
  rintro e w5 ⟨rfl, h5⟩
  have hj5 := hj.below h5 (by simp)
  have hB5 := chain' hB4' h5
  clear hj hB4' h5 hB4
  have hk : K2 w w4.heap.size w5.heap.size J L (w5.alloc (.cells (bitsA L) 24)).drew := ⟨(hB5.alloc hB5.size _).drew, (hj5.alloc _).drew, (Blk.new w5 24 (bitsA L)).drew⟩
  clear hB5 hj5
  unfold bitsA at hk
  go_wp2_with fail
  go_region_held3 (fun w' => w'.cell? ⟨w4.heap.size, 0, none⟩ = some (.int .u64 (J 0 : Int)) ∧ w'.cell? ⟨w4.heap.size, 1, none⟩ = some (.int .u64 (J 1 : Int)) ∧ w'.cell? ⟨w4.heap.size, 2, none⟩ = some (.int .u64 (J 2 : Int)) ∧ w'.cell? ⟨w4.heap.size, 3, none⟩ = some (.int .u64 (J 3 : Int)) ∧ w'.cell? ⟨w5.heap.size, 0, none⟩ = some (.int .u64 (L 0 : Int)) ∧ w'.cell? ⟨w5.heap.size, 1, none⟩ = some (.int .u64 (L 1 : Int)) ∧ w'.cell? ⟨w5.heap.size, 2, none⟩ = some (.int .u64 (L 2 : Int)) ∧ w'.cell? ⟨w5.heap.size, 3, none⟩ = some (.int .u64 (L 3 : Int)))
    (first | exact K2.cells (by assumption) | go_keep)
    (first
      | (go_at_call 13; (with_reducible refine (G5.out _).mono ?_); rintro e w1 ⟨rfl, hb1⟩; have hk := K2.below (by assumption) hb1; clear hb1)
      | (go_at_call 15; (with_reducible refine (G6.out _).mono ?_); rintro e w1 ⟨rfl, hb1⟩; have hk := K2.below (by assumption) hb1; clear hb1)
      | (go_at_call 15; (with_reducible refine (G7.out _).mono ?_); rintro e w1 ⟨rfl, hb1⟩; have hk := K2.below (by assumption) hb1; clear hb1))
  go_wp2
  go_ret
  exact ⟨rfl, K2.frame (by assumption)⟩
end Go.Proofs.Ytlddpcbbhglibaa
