/- The walks of trigram.Within, and of the reference's Within and Count. -/
import Derived.Test.YtlddpcbbhglibaaTriC
import Derived.Test.YtlddpcbbhglibaaArr
import Derived.Deep.RegionHeld3
namespace Go.Proofs.Ytlddpcbbhglibaa
open Go.RowKit Bits
set_option maxHeartbeats 400000
attribute [local go_sem] run_eq24

theorem keepc {b g i : Nat} {W w1 : World} {v : Value} (hb : Below b W w1) (hg : g < b) (h : W.cell? ⟨g, i, none⟩ = some v) : w1.cell? ⟨g, i, none⟩ = some v := (hb.cell (p := ⟨g, i, none⟩) hg).trans h

theorem within_any (x y : B) (hx : WF x) (hy : WF y) (w : World) :
    Calls Try.prog 13 #[bitsV x, bitsV y] w fun e w' => e = .returned (.bool (withinB x y)) ∧ Below w.heap.size w w' := by
  have hj := join_any x y hx hy
  rw [bitsV_eq x, bitsV_eq y, bitsV_eq (joinB x y)] at hj
  rw [bitsV_eq x, bitsV_eq y]
  have HJ := Lib.hid hj
  clear hj
  obtain ⟨x0, x1, x2, x3⟩ := blk4 (((Blk.new w 24 (bitsA x)).alloc (.cells (bitsA y) 24)).drew)
  have hyb := Blk.new (w.alloc (.cells (bitsA x) 24)) 24 (bitsA y)
  rw [World.size_alloc] at hyb
  obtain ⟨y0, y1, y2, y3⟩ := blk4 hyb.drew
  have HB : Hid (Below w.heap.size w ((w.alloc (.cells (bitsA x) 24)).alloc (.cells (bitsA y) 24)).drew) := (((Below.refl _ _).alloc (Nat.le_refl _) _).alloc (by simp) _).drew
  unfold bitsA at x0 x1 x2 x3 y0 y1 y2 y3 HB
  go_enter Try.func13, Try.ntmps13
  go_wp2
  go_region_held3 (fun w' => w'.cell? ⟨w.heap.size, 0, none⟩ = some (.int .u64 (x 0 : Int)) ∧ w'.cell? ⟨w.heap.size, 1, none⟩ = some (.int .u64 (x 1 : Int)) ∧ w'.cell? ⟨w.heap.size, 2, none⟩ = some (.int .u64 (x 2 : Int)) ∧ w'.cell? ⟨w.heap.size, 3, none⟩ = some (.int .u64 (x 3 : Int)) ∧ w'.cell? ⟨w.heap.size + 1, 0, none⟩ = some (.int .u64 (y 0 : Int)) ∧ w'.cell? ⟨w.heap.size + 1, 1, none⟩ = some (.int .u64 (y 1 : Int)) ∧ w'.cell? ⟨w.heap.size + 1, 2, none⟩ = some (.int .u64 (y 2 : Int)) ∧ w'.cell? ⟨w.heap.size + 1, 3, none⟩ = some (.int .u64 (y 3 : Int))) (go_keep)
    ((go_at_call 11; refine (HJ.out _).mono ?_; rintro e w1 ⟨rfl, hb1⟩; have k0 := keepc hb1 (by simp <;> omega) x0; have k1 := keepc hb1 (by simp <;> omega) x1; have k2 := keepc hb1 (by simp <;> omega) x2; have k3 := keepc hb1 (by simp <;> omega) x3; have k4 := keepc hb1 (by simp) y0; have k5 := keepc hb1 (by simp) y1; have k6 := keepc hb1 (by simp) y2; have k7 := keepc hb1 (by simp) y3; have HB1 := Lib.hid (Below.trans HB (hb1.mono (by simp <;> omega))); clear hb1))
  go_wp2
  go_ret
  refine ⟨?_, HB1⟩
  show Ending.returned (.bool _) = _
  congr 2
  unfold withinB
  simp only [Bool.decide_and]

/-- The reference's Within, bit by bit. -/
def wTo (x y : B) : Nat → Bool
  | 0 => true
  | n + 1 => wTo x y n && (!has x n || has y n)
theorem wTo_iff (x y : B) (n : Nat) : wTo x y n = true ↔ ∀ m, m < n → has x m = true → has y m = true := by
  induction n with
  | zero => simp [wTo]
  | succ n ih =>
    unfold wTo
    rw [Bool.and_eq_true, ih]
    constructor
    · rintro ⟨h1, h2⟩ m hm hx
      rcases Nat.lt_or_ge m n with h | h
      · exact h1 m h hx
      · obtain rfl : m = n := by omega
        simpa [hx] using h2
    · intro h
      refine ⟨fun m hm => h m (by omega), ?_⟩
      cases hx : has x n
      · rfl
      · rw [h n (by omega) hx]; rfl
theorem wTo_stop {x y : B} {n : Nat} (hn : n < 256) (hx : has x n = true) (hy : has y n = false) (hX : WF x) (hY : WF y) : withinB x y = false := by
  rw [Bool.eq_false_iff]
  intro h
  have := (Bits.within_iff hX hY).1 h n hn hx
  rw [hy] at this
  cases this
theorem wTo_end {x y : B} (h : wTo x y 256 = true) (hX : WF x) (hY : WF y) : withinB x y = true :=
  (Bits.within_iff hX hY).2 ((wTo_iff x y 256).1 h)

set_option maxRecDepth 100000 in
theorem rwithin_any (x y : B) (hx : WF x) (hy : WF y) (w : World) :
    Calls Try.prog 14 #[bitsV x, bitsV y] w fun e w' => e = .returned (.bool (withinB x y)) ∧ Below w.heap.size w w' := by
  rw [bitsV_eq x, bitsV_eq y]
  go_enter Try.func14, Try.ntmps14
  go_wp2
  go_loopw [5] (fun c wr => ∃ k : Nat, k ≤ 256 ∧ c = .int .i64 k ∧ wTo x y k = true ∧ Blk wr w.heap.size 24 (bitsA x) ∧ Blk wr (w.heap.size + 1) 24 (bitsA y) ∧ Below w.heap.size w wr) (fun c _ => 256 - (intOf c).toNat)
  case atStart =>
    refine ⟨0, by omega, rfl, rfl, (Blk.new w 24 _).alloc _, ?_, ((Below.refl _ _).alloc (Nat.le_refl _) _).alloc (by simp) _⟩
    have h := Blk.new (w.alloc (.cells (bitsA x) 24)) 24 (bitsA y)
    rw [World.size_alloc] at h
    exact h
  case round =>
    obtain ⟨k, hk, rfl, hw, ha, hy1, hb⟩ := hrel
    obtain ⟨a0, a1, a2, a3⟩ := blk4 ha
    have HW := Lib.hid hw
    clear hw
    by_cases hlt : k < 256
    · have hcx := has_any x k hlt
      have hcy := has_any y k hlt
      cases hh : has x k
      · rw [hh] at hcx
        have hstep : wTo x y (k + 1) = true := by unfold wTo; rw [HW.out, hh]; rfl
        have HS := Lib.hid hstep
        clear hstep
        go_wp2_with fail
        refine (hcx _).mono ?_
        rintro e w1 ⟨rfl, hb1⟩
        have ha1 := ha.below hb1 ha.lt
        have hy2 := hy1.below hb1 hy1.lt
        have hb3 := hb.trans (hb1.mono (by exact hb.size))
        clear hcx hcy
        go_wp2
        exact ⟨⟨k + 1, by omega, rfl, HS.out, ha1, hy2, hb3⟩, by simp [intOf]; omega⟩
      · rw [hh] at hcx
        go_wp2_with fail
        refine (hcx _).mono ?_
        rintro e w1 ⟨rfl, hb1⟩
        have ha1 := ha.below hb1 ha.lt
        have hy2 := hy1.below hb1 hy1.lt
        have hb3 := hb.trans (hb1.mono (by exact hb.size))
        clear hcx
        obtain ⟨c0, c1, c2, c3⟩ := blk4 hy2
        cases hh2 : has y k
        · rw [hh2] at hcy
          have HZ := Lib.hid (wTo_stop hlt hh hh2 hx hy)
          go_wp2_with fail
          refine (hcy _).mono ?_
          rintro e w2 ⟨rfl, hb4⟩
          have hb5 := hb3.trans (hb4.mono (by exact hb3.size))
          clear hcy
          go_wp2
          go_ret
          exact ⟨by rw [HZ.out]; rfl, hb5⟩
        · rw [hh2] at hcy
          have hstep : wTo x y (k + 1) = true := by unfold wTo; rw [HW.out, hh, hh2]; rfl
          have HS := Lib.hid hstep
          clear hstep
          go_wp2_with fail
          refine (hcy _).mono ?_
          rintro e w2 ⟨rfl, hb4⟩
          have ha2 := ha1.below hb4 ha1.lt
          have hy3 := hy2.below hb4 hy2.lt
          have hb5 := hb3.trans (hb4.mono (by exact hb3.size))
          clear hcy
          go_wp2
          exact ⟨⟨k + 1, by omega, rfl, HS.out, ha2, hy3, hb5⟩, by simp [intOf]; omega⟩
    · obtain rfl : k = 256 := by omega
      have HZ := Lib.hid (wTo_end HW.out hx hy)
      go_wp2
      go_ret
      exact ⟨by rw [HZ.out]; rfl, hb⟩

set_option maxRecDepth 100000 in
theorem rcount_any (x : B) (w : World) :
    Calls Try.prog 16 #[bitsV x] w fun e w' => e = .returned (.int .i64 (cnt x : Int)) ∧ Below w.heap.size w w' := by
  rw [bitsV_eq x]
  go_enter Try.func16, Try.ntmps16
  go_wp2
  go_loopw [3, 4] (fun n c wr => ∃ k : Nat, k ≤ 256 ∧ n = .int .i64 (cntTo x k : Nat) ∧ c = .int .i64 k ∧ Blk wr w.heap.size 24 (bitsA x) ∧ Below w.heap.size w wr) (fun _ c _ => 256 - (intOf c).toNat)
  case atStart => exact ⟨0, by omega, rfl, rfl, Blk.new w 24 _, (Below.refl _ _).alloc (Nat.le_refl _) _⟩
  case round =>
    obtain ⟨k, hk, rfl, rfl, ha, hb⟩ := hrel
    obtain ⟨a0, a1, a2, a3⟩ := blk4 ha
    by_cases hlt : k < 256
    · have hcx := has_any x k hlt
      have hle := cntTo_le x k
      cases hh : has x k
      · rw [hh] at hcx
        have hstep : cntTo x (k + 1) = cntTo x k := by rw [show cntTo x (k + 1) = cntTo x k + (if has x k then 1 else 0) from rfl, hh]; rfl
        have HS := Lib.hid hstep
        clear hstep
        generalize cntTo x k = c at *
        go_wp2_with fail
        refine (hcx _).mono ?_
        rintro e w1 ⟨rfl, hb1⟩
        have ha1 := ha.below hb1 ha.lt
        have hb3 := hb.trans (hb1.mono (by exact hb.size))
        clear hcx
        go_wp2
        exact ⟨⟨k + 1, by omega, by rw [HS.out], rfl, ha1, hb3⟩, by simp [intOf]; omega⟩
      · rw [hh] at hcx
        have hstep : cntTo x (k + 1) = cntTo x k + 1 := by rw [show cntTo x (k + 1) = cntTo x k + (if has x k then 1 else 0) from rfl, hh]; rfl
        have HS := Lib.hid hstep
        clear hstep
        generalize cntTo x k = c at *
        go_wp2_with fail
        refine (hcx _).mono ?_
        rintro e w1 ⟨rfl, hb1⟩
        have ha1 := ha.below hb1 ha.lt
        have hb3 := hb.trans (hb1.mono (by exact hb.size))
        clear hcx
        go_wp2
        exact ⟨⟨k + 1, by omega, by rw [HS.out]; rfl, rfl, ha1, hb3⟩, by simp [intOf]; omega⟩
    · obtain rfl : k = 256 := by omega
      go_wp2
      go_ret
      exact ⟨rfl, hb⟩
end Go.Proofs.Ytlddpcbbhglibaa

