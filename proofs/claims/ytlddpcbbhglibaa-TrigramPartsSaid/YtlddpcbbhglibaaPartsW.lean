/- The walk of the statement TrigramParts. -/
import Derived.Test.YtlddpcbbhglibaaKeep
namespace Go.Proofs.Ytlddpcbbhglibaa
open Go.RowKit Bits
set_option maxHeartbeats 1000000

/-- A number made not negative, as the statements make it. -/
def pos (n : Int) : Int := if n < 0 then -(n + 1) else n
theorem pos_nonneg (n : Int) : 0 ≤ pos n := by unfold pos; split <;> omega

set_option maxRecDepth 100000 in
theorem parts_walk (s : ByteArray) (a b : Int) (hs : s.size ≤ 140737488351232) (ha : (Lit.int .i64 a).wf = true) (hb : (Lit.int .i64 b).wf = true) (w : World) :
    Calls Try.prog 7 #[.string s, .int .i64 a, .int .i64 b] w fun e w' => e = .returned (.bool true) ∧ Below w.heap.size w w' := by
  have ha' : -9223372036854775808 ≤ a ∧ a ≤ 9223372036854775807 := by simpa [Lit.wf, IntKind.min, IntKind.max, IntKind.bits, IntKind.signed] using ha
  have hb' : -9223372036854775808 ≤ b ∧ b ≤ 9223372036854775807 := by simpa [Lit.wf, IntKind.min, IntKind.max, IntKind.bits, IntKind.signed] using hb
  clear ha hb
  go_enter Try.func7, Try.ntmps7
  go_wp2_with fail
  refine (shown_any _).mono ?_
  rintro e w1 ⟨rfl, hB1⟩
  go_upto_if 11 with (fail)
  go_cut [1] (fun s1 wx => ∃ n : Nat, s1 = .int .i64 n ∧ n ≤ 9223372036854775807 ∧ wx = w1)
  case first =>
    by_cases hna : a < 0
    · go_wp2_with fail
      go_meet
      have e1 : -(a + 1) = (((-(a + 1)).toNat : Nat) : Int) := by omega
      exact ⟨(-(a + 1)).toNat, by rw [← e1], by omega, rfl⟩
    · go_wp2_with fail
      go_meet
      exact ⟨a.toNat, by rw [Int.toNat_of_nonneg (by omega)], by omega, rfl⟩
  case rest =>
    obtain ⟨n, rfl, hn, rfl⟩ := hcut
    clear ha'
    go_upto_if 16 with (fail)
    go_cut [2] (fun s2 wx => ∃ m : Nat, s2 = .int .i64 m ∧ m ≤ 9223372036854775807 ∧ wx = wc)
    case first =>
      by_cases hnb : b < 0
      · go_wp2_with fail
        go_meet
        have e1 : -(b + 1) = (((-(b + 1)).toNat : Nat) : Int) := by omega
        exact ⟨(-(b + 1)).toNat, by rw [← e1], by omega, rfl⟩
      · go_wp2_with fail
        go_meet
        exact ⟨b.toNat, by rw [Int.toNat_of_nonneg (by omega)], by omega, rfl⟩
    case rest =>
      obtain ⟨m, rfl, hm, rfl⟩ := hcut
      clear hb'
      go_upto_region 6 with (fail)
      go_cut [1] (fun s1 wx => ∃ f : Nat, s1 = .int .i64 f ∧ f ≤ s.size ∧ wx = wc)
      case first =>
        have h0 : (0 : Int) ≤ n := by omega
        go_wp2_with fail
        go_meet
        refine ⟨n % (s.size + 1), ?_, by have := Nat.mod_lt n (show 0 < s.size + 1 by omega); omega, rfl⟩
        simp
      case rest =>
        obtain ⟨f, rfl, hf, rfl⟩ := hcut
        clear hn n
        go_upto_region 7 with (fail)
        go_cut [2] (fun s2 wx => ∃ g : Nat, s2 = .int .i64 g ∧ f ≤ g ∧ g ≤ s.size ∧ wx = wc)
        case first =>
          have h0 : (0 : Int) ≤ m := by omega
          have h1 : (m : Int) % ((s.size : Int) - f + 1) < (s.size : Int) - f + 1 := Int.emod_lt_of_pos _ (by omega)
          have h2 : 0 ≤ (m : Int) % ((s.size : Int) - f + 1) := Int.emod_nonneg _ (by omega)
          go_wp2_with fail
          go_meet
          refine ⟨(f + (m : Int) % ((s.size : Int) - f + 1)).toNat, ?_, by omega, by omega, rfl⟩
          rw [Int.toNat_of_nonneg (by omega)]
        case rest =>
          obtain ⟨g, rfl, hg, hgs, rfl⟩ := hcut
          clear hm m
          have b1 : (0 : Int) ≤ f := by omega
          have b2 : (f : Int) ≤ g := by omega
          have b3 : (g : Int) ≤ s.size := by omega
          have b4 : (0 : Int) ≤ g := by omega
          have g1 := of_any (s.extract f g) (by rw [size_cut s f g (by omega)]; unfold maxLen; omega)
          have g2 := of_any s (by unfold maxLen; omega)
          have g3 := whole_any s hs
          have g4 := within_any _ _ (wf_ofB (s.extract f g)) (wf_ofB s)
          rw [within_cut s f g (by omega)] at g4
          have g5 := within_any _ _ (wf_ofB s) (wf_ofB (wholeS s))
          rw [show withinB (ofB s) (ofB (wholeS s)) = true from within_middle _ s _] at g5
          rw [bitsV_eq (ofB (s.extract f g))] at g1 g4
          rw [bitsV_eq (ofB s)] at g2 g4 g5
          rw [bitsV_eq (ofB (wholeS s))] at g3 g5
          have G1 := Lib.hid g1
          clear g1
          go_wp2_with fail
          refine (G1.out _).mono ?_
          rintro e w2 ⟨rfl, h2⟩
          have hB2 := chain' hB1 h2
          clear h2 hB1 G1
          generalize ofB (s.extract f g) = A at *
          generalize ofB s = X at *
          generalize ofB (wholeS s) = Y at *
          have G2 := Lib.hid g2
          have G3 := Lib.hid g3
          have G4 := Lib.hid g4
          have G5 := Lib.hid g5
          clear g2 g3 g4 g5
          have hk : K1 w w2.heap.size A (w2.alloc (.cells (bitsA A) 24)).drew := ⟨(hB2.alloc hB2.size _).drew, (Blk.new w2 24 (bitsA A)).drew⟩
          clear hB2
          unfold bitsA at hk
          go_wp2_with fail
          go_region_held3 (fun w' => w'.cell? ⟨w2.heap.size, 0, none⟩ = some (.int .u64 (A 0 : Int)) ∧ w'.cell? ⟨w2.heap.size, 1, none⟩ = some (.int .u64 (A 1 : Int)) ∧ w'.cell? ⟨w2.heap.size, 2, none⟩ = some (.int .u64 (A 2 : Int)) ∧ w'.cell? ⟨w2.heap.size, 3, none⟩ = some (.int .u64 (A 3 : Int)))
            (first | exact K1.cells (by assumption) | go_keep)
            (first
              | (go_at_call 17; (with_reducible refine (G2.out _).mono ?_); rintro e w1 ⟨rfl, hb1⟩; have hk := K1.below (by assumption) hb1; clear hb1)
              | (go_at_call 19; (with_reducible refine (G3.out _).mono ?_); rintro e w1 ⟨rfl, hb1⟩; have hk := K1.below (by assumption) hb1; clear hb1)
              | (go_at_call 13; (with_reducible refine (G4.out _).mono ?_); rintro e w1 ⟨rfl, hb1⟩; have hk := K1.below (by assumption) hb1; clear hb1)
              | (go_at_call 13; (with_reducible refine (G5.out _).mono ?_); rintro e w1 ⟨rfl, hb1⟩; have hk := K1.below (by assumption) hb1; clear hb1))
          go_wp2
          go_ret
          exact ⟨rfl, K1.frame (by assumption)⟩
end Go.Proofs.Ytlddpcbbhglibaa
