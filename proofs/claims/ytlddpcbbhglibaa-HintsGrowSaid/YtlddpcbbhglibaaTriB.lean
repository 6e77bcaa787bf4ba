/- The walk of the reference's Of: it returns the same fingerprint. -/
import Derived.Test.YtlddpcbbhglibaaTriA
namespace Go.Proofs.Ytlddpcbbhglibaa
open Go.RowKit Bits
set_option maxHeartbeats 400000

theorem rtri_of (s : ByteArray) (k : Nat) (h : k + 2 < s.size) :
    (wrap64 (wrap64 (wrap64 (961 * wrap64 (((s[k]'(by omega)).toNat : Nat) : Int)) + wrap64 (31 * wrap64 (((s[k + 1]'(by omega)).toNat : Nat) : Int))) + wrap64 (((s[k + 2]'(by omega)).toNat : Nat) : Int))).tmod 256 = ((tri s k : Nat) : Int) := by
  have := tri_of s k h
  have b0 := (s[k]'(by omega)).toNat_lt
  have b1 := (s[k + 1]'(by omega)).toNat_lt
  have b2 := (s[k + 2]'(by omega)).toNat_lt
  generalize (s[k]'(by omega)).toNat = x at *
  generalize (s[k + 1]'(by omega)).toNat = y at *
  generalize (s[k + 2]'(by omega)).toNat = z at *
  have e : wrap64 (wrap64 (wrap64 (961 * wrap64 (x : Int)) + wrap64 (31 * wrap64 (y : Int))) + wrap64 (z : Int)) = 961 * x + 31 * y + z := by
    have w1 : ∀ m : Int, 0 ≤ m → m ≤ 1000000 → wrap64 m = m := fun m _ _ => by unfold wrap64; omega
    rw [w1 x (by omega) (by omega), w1 y (by omega) (by omega), w1 z (by omega) (by omega), w1 (961 * x) (by omega) (by omega), w1 (31 * y) (by omega) (by omega), w1 (961 * x + 31 * y) (by omega) (by omega), w1 _ (by omega) (by omega)]
  rw [e, Int.tmod_eq_emod_of_nonneg (by omega), ← this]
  omega

theorem rof_any (s : ByteArray) (hs : s.size ≤ 9223372036854775000) (w : World) :
    Calls Try.prog 18 #[.string s] w fun e w' => e = .returned (bitsV (ofB s)) ∧ Below w.heap.size w w' := by
  go_enter Try.func18, Try.ntmps18
  go_wp2
  go_loopw [4] (fun c wr => ∃ k : Nat, k ≤ s.size - 2 ∧ c = .int .i64 k ∧ Blk wr (w.heap.size + 1) 24 (bitsA (ofTo s k)) ∧ Blk wr w.heap.size 24 (bitsA zero) ∧ Below w.heap.size w wr) (fun c _ => s.size - (intOf c).toNat)
  case atStart => exact ⟨0, Nat.zero_le _, rfl, by have h := Blk.new (w.alloc (.cells (bitsA zero) 24)) 24 (bitsA zero); rw [World.size_alloc] at h; exact h, (Blk.new w 24 _).alloc _, ((Below.refl _ _).alloc (Nat.le_refl _) _).alloc (by simp) _⟩
  case round =>
    obtain ⟨k, hk, rfl, ha, hr, hb⟩ := hrel
    have e2 : IntKind.i64.wrap ((k : Int) + 2) = (k : Int) + 2 := IntWalk.i64_in _ (by omega)
    by_cases hlt : k + 2 < s.size
    · have e1 : IntKind.i64.wrap ((k : Int) + 1) = (k : Int) + 1 := IntWalk.i64_in _ (by omega)
      have b0 : (0 : Int) ≤ (k : Int) := by omega
      have c0 : (k : Int) < s.size := by omega
      have b1 : (0 : Int) ≤ (k : Int) + 1 := by omega
      have c1 : (k : Int) + 1 < s.size := by omega
      have b2 : (0 : Int) ≤ (k : Int) + 2 := by omega
      have c2 : (k : Int) + 2 < s.size := by omega
      have t1 : ((k : Int) + 1).toNat = k + 1 := by omega
      have t2 : ((k : Int) + 2).toNat = k + 2 := by omega
      go_wp2
      go_quiet (fail)
      rw [rtri_of s k (by omega)]
      have hT := tri_lt s k
      generalize hTe : tri s k = T at *
      have HT := Lib.hid hTe
      clear hTe
      obtain ⟨a0, a1, a2, a3⟩ := blk4 ha
      have hc := has_any (ofTo s k) T hT
      cases hh : has (ofTo s k) T
      · rw [hh] at hc
        go_wp2_with fail
        refine (hc _).mono ?_
        rintro e w1 ⟨rfl, hb1⟩
        have hb2 : Below wr.heap.size wr w1 := below_drewN' hb1
        clear hc hb1
        have ha1 := ha.below hb2 ha.lt
        have hr1 := hr.below hb2 hr.lt
        have hb3 := hb.trans (hb2.mono (by exact hb.size))
        have hcell : w1.cell? ⟨w.heap.size + 1, T / 64, none⟩ = some (.int .u64 (ofTo s k (T / 64) : Int)) := (ha1.cell _).trans (bitsA_cell _ _ (by omega))
        have hfree := ha1.free (T / 64)
        go_wp2
        go_region
        go_wp2
        refine ⟨⟨k + 1, by omega, rfl, ?_, (hr1.far (by simp) _).drew, (hb3.setCell (by simp) _).drew⟩, by simp [intOf]; omega⟩
        rw [show ofTo s (k + 1) = setB (ofTo s k) T by rw [← HT.out]; rfl, ← add_bits _ (wf_ofTo s k) T hT hh]
        exact (ha1.put (T / 64) _).drew
      · rw [hh] at hc
        go_wp2_with fail
        refine (hc _).mono ?_
        rintro e w1 ⟨rfl, hb1⟩
        have hb2 : Below wr.heap.size wr w1 := below_drewN' hb1
        clear hc hb1
        have ha1 := ha.below hb2 ha.lt
        have hr1 := hr.below hb2 hr.lt
        have hb3 := hb.trans (hb2.mono (by exact hb.size))
        go_wp2
        refine ⟨⟨k + 1, by omega, rfl, ?_, hr1, hb3⟩, by simp [intOf]; omega⟩
        rw [show ofTo s (k + 1) = setB (ofTo s k) T by rw [← HT.out]; rfl, setB_of_has hh]
        exact ha1
    · have hk' : k = s.size - 2 := by omega
      have hd : ofB s = ofTo s k := by rw [hk']; rfl
      have HD := Lib.hid hd
      clear hd hk'
      obtain ⟨r0, r1, r2, r3⟩ := blk4 hr
      obtain ⟨a0, a1, a2, a3⟩ := blk4 ha
      obtain ⟨f0, f1, f2, f3⟩ := free4 hr
      go_wp2
      refine bodyPost_ret (v := bitsV (ofTo s k)) (res_bits Try.results18 rfl (x := ofTo s k) (put4 hr)) rfl ⟨by rw [HD.out], ?_⟩
      exact (((hb.setCell (by simp) _).setCell (by simp) _).setCell (by simp) _).setCell (by simp) _
end Go.Proofs.Ytlddpcbbhglibaa
