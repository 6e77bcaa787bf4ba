/- The walks of trigram.Join and of the reference's Join: they return the bits of both. -/
import Derived.Test.YtlddpcbbhglibaaTriA
namespace Go.Proofs.Ytlddpcbbhglibaa
open Go.RowKit Bits
set_option maxHeartbeats 400000

def joinTo (x y : B) (i : Nat) : B := fun k => if k < i then x k ||| y k else x k
theorem joinTo_zero (x y : B) : joinTo x y 0 = x := by funext k; simp [joinTo]
theorem put_join (x y : B) (hx : WF x) (hy : WF y) (i : Nat) (hi : i < 4) :
    (bitsA (joinTo x y i)).setIfInBounds i (.int .u64 (bits .or .u64 (joinTo x y i i : Int) (y i : Int))) = bitsA (joinTo x y (i + 1)) := by
  have e : joinTo x y i i = x i := by simp [joinTo]
  rw [e, u64_or_nat _ _ (hx _) (hy _)]
  unfold bitsA joinTo
  rcases i with _ | _ | _ | _ | i <;> first | rfl | omega
theorem bitsA_congr {x y : B} (h : ∀ k, k < 4 → x k = y k) : bitsA x = bitsA y := by
  unfold bitsA
  rw [h 0 (by omega), h 1 (by omega), h 2 (by omega), h 3 (by omega)]
theorem bitsV_congr {x y : B} (h : ∀ k, k < 4 → x k = y k) : bitsV x = bitsV y := congrArg Value.agg (bitsA_congr h)

theorem bitsV_eq (x : B) : bitsV x = .agg #[.int .u64 (x 0 : Int), .int .u64 (x 1 : Int), .int .u64 (x 2 : Int), .int .u64 (x 3 : Int)] := rfl

theorem join_any (x y : B) (hx : WF x) (hy : WF y) (w : World) :
    Calls Try.prog 11 #[bitsV x, bitsV y] w fun e w' => e = .returned (bitsV (joinB x y)) ∧ Below w.heap.size w w' := by
  have hend : bitsV (joinTo x y 4) = bitsV (joinB x y) := bitsV_congr fun k hk => by simp [joinTo, joinB, hk]
  have HE := Lib.hid hend
  clear hend
  rw [bitsV_eq x, bitsV_eq y]
  go_enter Try.func11, Try.ntmps11
  go_wp2
  go_loopw [6] (fun c wr => ∃ k : Nat, k ≤ 4 ∧ c = .int .i64 k ∧ Blk wr w.heap.size 24 (bitsA (joinTo x y k)) ∧ Blk wr (w.heap.size + 1) 24 (bitsA y) ∧ Blk wr (w.heap.size + 2) 24 (bitsA zero) ∧ Below w.heap.size w wr) (fun c _ => 4 - (intOf c).toNat)
  case atStart =>
    refine ⟨0, by omega, rfl, ?_, ?_, ?_, (((Below.refl _ _).alloc (Nat.le_refl _) _).alloc (by simp) _).alloc (by simp; omega) _⟩
    · rw [joinTo_zero]; exact ((Blk.new w 24 _).alloc _).alloc _
    · have h := Blk.new (w.alloc (.cells (bitsA x) 24)) 24 (bitsA y)
      rw [World.size_alloc] at h
      exact h.alloc _
    · have h := Blk.new ((w.alloc (.cells (bitsA x) 24)).alloc (.cells (bitsA y) 24)) 24 (bitsA zero)
      rw [World.size_alloc, World.size_alloc] at h
      exact h
  case round =>
    obtain ⟨k, hk, rfl, ha, hy1, hr, hb⟩ := hrel
    by_cases hlt : k < 4
    · have ca : wr.cell? ⟨w.heap.size, k, none⟩ = some (.int .u64 (joinTo x y k k : Int)) := (ha.cell _).trans (bitsA_cell _ _ hlt)
      have cy : wr.cell? ⟨w.heap.size + 1, k, none⟩ = some (.int .u64 (y k : Int)) := (hy1.cell _).trans (bitsA_cell _ _ hlt)
      have hfree := ha.free k
      go_wp2
      go_region
      go_wp2
      refine ⟨⟨k + 1, by omega, rfl, ?_, (hy1.far (by simp) _).drew, (hr.far (by simp) _).drew, (hb.setCell (by simp) _).drew⟩, by simp [intOf]; omega⟩
      rw [← put_join x y hx hy k hlt]
      exact (ha.put k _).drew
    · obtain rfl : k = 4 := by omega
      obtain ⟨a0, a1, a2, a3⟩ := blk4 ha
      obtain ⟨r0, r1, r2, r3⟩ := blk4 hr
      obtain ⟨f0, f1, f2, f3⟩ := free4 hr
      go_wp2
      refine bodyPost_ret (v := bitsV (joinTo x y 4)) (res_bits Try.results11 rfl (x := joinTo x y 4) (put4 hr)) rfl ⟨by rw [HE.out], ?_⟩
      exact (((hb.setCell (by show _ ≤ _ + 2; omega) _).setCell (by show _ ≤ _ + 2; omega) _).setCell (by show _ ≤ _ + 2; omega) _).setCell (by show _ ≤ _ + 2; omega) _

def rj (x y : B) : Nat → B
  | 0 => x
  | n + 1 => if has y n then setB (rj x y n) n else rj x y n
theorem wf_rj {x : B} (hx : WF x) (y : B) (n : Nat) : WF (rj x y n) := by
  induction n with
  | zero => exact hx
  | succ n ih => unfold rj; split <;> first | exact wf_setB ih n | exact ih
theorem has_rj (x y : B) (n m : Nat) : has (rj x y n) m = (has x m || (decide (m < n) && has y m)) := by
  induction n with
  | zero => simp [rj]
  | succ n ih =>
    unfold rj
    by_cases e : m = n
    · subst e
      cases h : has y m
      · simp [ih]
      · simp [has_setB]
    · have e2 : decide (m < n + 1) = decide (m < n) := decide_eq_decide.2 ⟨fun _ => by omega, fun _ => by omega⟩
      split
      · rw [has_setB, ih, e2, decide_eq_false e, Bool.or_false]
      · rw [ih, e2]
theorem rj_end {x y : B} (hx : WF x) (hy : WF y) : ∀ k, k < 4 → rj x y 256 k = joinB x y k :=
  ext_has (wf_rj hx y 256) (wf_joinB hx hy) fun n hn => by rw [has_rj, has_joinB, decide_eq_true hn, Bool.true_and]

set_option maxRecDepth 100000 in
theorem rjoin_any (x y : B) (hx : WF x) (hy : WF y) (w : World) :
    Calls Try.prog 12 #[bitsV x, bitsV y] w fun e w' => e = .returned (bitsV (joinB x y)) ∧ Below w.heap.size w w' := by
  have HE := Lib.hid (bitsV_congr (rj_end hx hy))
  rw [bitsV_eq x, bitsV_eq y]
  go_enter Try.func12, Try.ntmps12
  go_wp2
  go_loopw [5] (fun c wr => ∃ k : Nat, k ≤ 256 ∧ c = .int .i64 k ∧ Blk wr w.heap.size 24 (bitsA (rj x y k)) ∧ Blk wr (w.heap.size + 1) 24 (bitsA y) ∧ Blk wr (w.heap.size + 2) 24 (bitsA zero) ∧ Below w.heap.size w wr) (fun c _ => 256 - (intOf c).toNat)
  case atStart =>
    refine ⟨0, by omega, rfl, ((Blk.new w 24 _).alloc _).alloc _, ?_, ?_, (((Below.refl _ _).alloc (Nat.le_refl _) _).alloc (by simp) _).alloc (by simp; omega) _⟩
    · have h := Blk.new (w.alloc (.cells (bitsA x) 24)) 24 (bitsA y)
      rw [World.size_alloc] at h
      exact h.alloc _
    · have h := Blk.new ((w.alloc (.cells (bitsA x) 24)).alloc (.cells (bitsA y) 24)) 24 (bitsA zero)
      rw [World.size_alloc, World.size_alloc] at h
      exact h
  case round =>
    obtain ⟨k, hk, rfl, ha, hy1, hr, hb⟩ := hrel
    obtain ⟨a0, a1, a2, a3⟩ := blk4 ha
    by_cases hlt : k < 256
    · obtain ⟨y0, y1, y2, y3⟩ := blk4 hy1
      have hcy := has_any y k hlt
      have hstep : rj x y (k + 1) = if has y k then setB (rj x y k) k else rj x y k := rfl
      cases hh : has y k
      · rw [hh] at hcy hstep
        have HS := Lib.hid hstep
        clear hstep
        go_wp2_with fail
        refine (hcy _).mono ?_
        rintro e w1 ⟨rfl, hb1⟩
        have ha1 := ha.below hb1 ha.lt
        have hy2 := hy1.below hb1 hy1.lt
        have hr1 := hr.below hb1 hr.lt
        have hb3 := hb.trans (hb1.mono (by exact hb.size))
        clear hcy
        go_wp2
        refine ⟨⟨k + 1, by omega, rfl, ?_, hy2, hr1, hb3⟩, by simp [intOf]; omega⟩
        rw [HS.out]
        exact ha1
      · have hcx := has_any (rj x y k) k hlt
        rw [hh] at hcy hstep
        have HS := Lib.hid hstep
        clear hstep
        go_wp2_with fail
        refine (hcy _).mono ?_
        rintro e w1 ⟨rfl, hb1⟩
        have ha1 := ha.below hb1 ha.lt
        have hy2 := hy1.below hb1 hy1.lt
        have hr1 := hr.below hb1 hr.lt
        have hb3 := hb.trans (hb1.mono (by exact hb.size))
        clear hcy
        obtain ⟨c0, c1, c2, c3⟩ := blk4 ha1
        cases hh2 : has (rj x y k) k
        · rw [hh2] at hcx
          go_wp2_with fail
          refine (hcx _).mono ?_
          rintro e w2 ⟨rfl, hb4⟩
          have ha2 := ha1.below hb4 ha1.lt
          have hy3 := hy2.below hb4 hy2.lt
          have hr2 := hr1.below hb4 hr1.lt
          have hb5 := hb3.trans (hb4.mono (by exact hb3.size))
          clear hcx
          have hcell : w2.cell? ⟨w.heap.size, k / 64, none⟩ = some (.int .u64 (rj x y k (k / 64) : Int)) := (ha2.cell _).trans (bitsA_cell _ _ (by omega))
          have hfree := ha2.free (k / 64)
          go_wp2
          go_region
          go_wp2
          refine ⟨⟨k + 1, by omega, rfl, ?_, (hy3.far (by simp) _).drew, (hr2.far (by simp) _).drew, (hb5.setCell (by simp) _).drew⟩, by simp [intOf]; omega⟩
          rw [HS.out, if_pos (by first | trivial | rfl), ← add_bits _ (wf_rj hx y k) k hlt hh2]
          exact (ha2.put (k / 64) _).drew
        · rw [hh2] at hcx
          go_wp2_with fail
          refine (hcx _).mono ?_
          rintro e w2 ⟨rfl, hb4⟩
          have ha2 := ha1.below hb4 ha1.lt
          have hy3 := hy2.below hb4 hy2.lt
          have hr2 := hr1.below hb4 hr1.lt
          have hb5 := hb3.trans (hb4.mono (by exact hb3.size))
          clear hcx
          go_wp2
          refine ⟨⟨k + 1, by omega, rfl, ?_, hy3, hr2, hb5⟩, by simp [intOf]; omega⟩
          rw [HS.out, if_pos (by first | trivial | rfl), setB_of_has hh2]
          exact ha2
    · obtain rfl : k = 256 := by omega
      obtain ⟨r0, r1, r2, r3⟩ := blk4 hr
      obtain ⟨f0, f1, f2, f3⟩ := free4 hr
      go_wp2
      refine bodyPost_ret (v := bitsV (rj x y 256)) (res_bits Try.results12 rfl (x := rj x y 256) (put4 hr)) rfl ⟨by rw [HE.out], ?_⟩
      exact (((hb.setCell (by show _ ≤ _ + 2; omega) _).setCell (by show _ ≤ _ + 2; omega) _).setCell (by show _ ≤ _ + 2; omega) _).setCell (by show _ ≤ _ + 2; omega) _
end Go.Proofs.Ytlddpcbbhglibaa
