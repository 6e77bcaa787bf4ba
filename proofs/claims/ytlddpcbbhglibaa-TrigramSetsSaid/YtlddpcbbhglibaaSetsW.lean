/- The walk of the statement TrigramSets. -/
import Derived.Test.YtlddpcbbhglibaaTriF
import Derived.Deep.RegionHeld3
namespace Go.Proofs.Ytlddpcbbhglibaa
open Go.RowKit Bits
set_option maxHeartbeats 1000000
attribute [local go_sem] run_eq24

theorem keepc' {W w1 : World} {g i : Nat} {v : Value} (hb : Below W.heap.size W w1) (h : W.cell? ⟨g, i, none⟩ = some v) : w1.cell? ⟨g, i, none⟩ = some v :=
  (hb.cell (p := ⟨g, i, none⟩) (World.block_lt_of_cell? W _ h)).trans h
theorem chain {w a b : World} (h1 : Below w.heap.size w a) (h2 : Below a.heap.size a b) : Below w.heap.size w b := h1.trans (h2.mono h1.size)

/-- Three fingerprints that lie in memory, and what lay there before is as it was. -/
def K3 (w : World) (g1 g2 g3 : Nat) (x y z : B) (W : World) : Prop := Below w.heap.size w W ∧ Blk W g1 24 (bitsA x) ∧ Blk W g2 24 (bitsA y) ∧ Blk W g3 24 (bitsA z)
theorem K3.below {w W W1 : World} {g1 g2 g3 : Nat} {x y z : B} (h : K3 w g1 g2 g3 x y z W) (hb : Below W.heap.size W W1) : K3 w g1 g2 g3 x y z W1 :=
  ⟨chain h.1 hb, h.2.1.below hb h.2.1.lt, h.2.2.1.below hb h.2.2.1.lt, h.2.2.2.below hb h.2.2.2.lt⟩
theorem K3.cells {w W : World} {g1 g2 g3 : Nat} {x y z : B} (h : K3 w g1 g2 g3 x y z W) :
    W.cell? ⟨g1, 0, none⟩ = some (.int .u64 (x 0 : Int)) ∧ W.cell? ⟨g1, 1, none⟩ = some (.int .u64 (x 1 : Int)) ∧ W.cell? ⟨g1, 2, none⟩ = some (.int .u64 (x 2 : Int)) ∧ W.cell? ⟨g1, 3, none⟩ = some (.int .u64 (x 3 : Int)) ∧
    W.cell? ⟨g2, 0, none⟩ = some (.int .u64 (y 0 : Int)) ∧ W.cell? ⟨g2, 1, none⟩ = some (.int .u64 (y 1 : Int)) ∧ W.cell? ⟨g2, 2, none⟩ = some (.int .u64 (y 2 : Int)) ∧ W.cell? ⟨g2, 3, none⟩ = some (.int .u64 (y 3 : Int)) ∧
    W.cell? ⟨g3, 0, none⟩ = some (.int .u64 (z 0 : Int)) ∧ W.cell? ⟨g3, 1, none⟩ = some (.int .u64 (z 1 : Int)) ∧ W.cell? ⟨g3, 2, none⟩ = some (.int .u64 (z 2 : Int)) ∧ W.cell? ⟨g3, 3, none⟩ = some (.int .u64 (z 3 : Int)) :=
  ⟨h.2.1.cell 0, h.2.1.cell 1, h.2.1.cell 2, h.2.1.cell 3, h.2.2.1.cell 0, h.2.2.1.cell 1, h.2.2.1.cell 2, h.2.2.1.cell 3, h.2.2.2.cell 0, h.2.2.2.cell 1, h.2.2.2.cell 2, h.2.2.2.cell 3⟩

theorem K3.frame {w W : World} {g1 g2 g3 : Nat} {x y z : B} (h : K3 w g1 g2 g3 x y z W) : Below w.heap.size w W := h.1
theorem joinB_comm (x y : B) : joinB x y = joinB y x := by funext k; unfold joinB; exact Nat.or_comm _ _
theorem within_left {x y : B} (hx : WF x) (hy : WF y) : withinB x (joinB x y) = true :=
  (Bits.within_iff hx (wf_joinB hx hy)).2 fun n _ h => by rw [has_joinB, h]; rfl
theorem within_right {x y : B} (hx : WF x) (hy : WF y) : withinB y (joinB x y) = true :=
  (Bits.within_iff hy (wf_joinB hx hy)).2 fun n _ h => by rw [has_joinB, h, Bool.or_true]

set_option maxRecDepth 100000 in
theorem sets_walk (x y : B) (hx : WF x) (hy : WF y) (w : World) :
    Calls Try.prog 3 #[bitsV x, bitsV y] w fun e w' => e = .returned (.bool true) ∧ Below w.heap.size w w' := by
  have g0 := shown_any
  have g1 := join_any x y hx hy
  have g2 := rjoin_any x y hx hy
  have g3 := within_any x y hx hy
  have g4 := rwithin_any x y hx hy
  have g5 := count_any x hx
  have g6 := rcount_any x
  have g7 := within_any x _ hx (wf_joinB hx hy)
  rw [within_left hx hy] at g7
  have g8 := within_any y _ hy (wf_joinB hx hy)
  rw [within_right hx hy] at g8
  have g9 := join_any y x hy hx
  rw [joinB_comm y x] at g9
  generalize withinB x y = p at *
  generalize cnt x = c at *
  generalize joinB x y = J at *
  rw [bitsV_eq x] at g1 g2 g3 g4 g5 g6 g7 g9 ⊢
  rw [bitsV_eq y] at g1 g2 g3 g4 g8 g9 ⊢
  rw [bitsV_eq J] at g1 g2 g7 g8 g9
  have G0 := Lib.hid g0
  have G1 := Lib.hid g1
  have G2 := Lib.hid g2
  have G3 := Lib.hid g3
  have G4 := Lib.hid g4
  have G5 := Lib.hid g5
  have G6 := Lib.hid g6
  have G7 := Lib.hid g7
  have G8 := Lib.hid g8
  have G9 := Lib.hid g9
  clear g0 g1 g2 g3 g4 g5 g6 g7 g8 g9
  have ha0 := (Blk.new w 24 (bitsA x)).alloc (.cells (bitsA y) 24)
  have hb0 := Blk.new (w.alloc (.cells (bitsA x) 24)) 24 (bitsA y)
  have HB0 : Below w.heap.size w ((w.alloc (.cells (bitsA x) 24)).alloc (.cells (bitsA y) 24)) := ((Below.refl _ _).alloc (Nat.le_refl _) _).alloc (by simp) _
  rw [World.size_alloc] at hb0
  go_enter Try.func3, Try.ntmps3
  go_wp2_with fail
  refine (G0.out _).mono ?_
  rintro e w1 ⟨rfl, h1⟩
  have ha1 := ha0.below h1 (by simp <;> omega)
  have hb1 := hb0.below h1 (by simp <;> omega)
  have HB1 := chain HB0 h1
  clear ha0 hb0 h1 HB0
  obtain ⟨a0, a1, a2, a3⟩ := blk4 ha1
  obtain ⟨b0, b1, b2, b3⟩ := blk4 hb1
  go_wp2_with fail
  refine (G1.out _).mono ?_
  rintro e w2 ⟨rfl, h2⟩
  have ha2 := (ha1.below h2 ha1.lt).alloc (.cells (bitsA J) 24)
  have hb2 := (hb1.below h2 hb1.lt).alloc (.cells (bitsA J) 24)
  have hj2 := Blk.new w2 24 (bitsA J)
  have HB2 : Below w.heap.size w (w2.alloc (.cells (bitsA J) 24)) := (chain HB1 h2).alloc (chain HB1 h2).size _
  clear ha1 hb1 h2 HB1 a0 a1 a2 a3 b0 b1 b2 b3
  go_wp2_with fail
  have hk : K3 w w.heap.size (w.heap.size + 1) w2.heap.size x y J (w2.alloc (.cells (bitsA J) 24)).drew := ⟨HB2.drew, ha2.drew, hb2.drew, hj2.drew⟩
  clear ha2 hb2 hj2 HB2
  unfold bitsA at hk
  go_region_held3 (fun w' => w'.cell? ⟨w.heap.size, 0, none⟩ = some (.int .u64 (x 0 : Int)) ∧ w'.cell? ⟨w.heap.size, 1, none⟩ = some (.int .u64 (x 1 : Int)) ∧ w'.cell? ⟨w.heap.size, 2, none⟩ = some (.int .u64 (x 2 : Int)) ∧ w'.cell? ⟨w.heap.size, 3, none⟩ = some (.int .u64 (x 3 : Int)) ∧ w'.cell? ⟨w.heap.size + 1, 0, none⟩ = some (.int .u64 (y 0 : Int)) ∧ w'.cell? ⟨w.heap.size + 1, 1, none⟩ = some (.int .u64 (y 1 : Int)) ∧ w'.cell? ⟨w.heap.size + 1, 2, none⟩ = some (.int .u64 (y 2 : Int)) ∧ w'.cell? ⟨w.heap.size + 1, 3, none⟩ = some (.int .u64 (y 3 : Int)) ∧ w'.cell? ⟨w2.heap.size, 0, none⟩ = some (.int .u64 (J 0 : Int)) ∧ w'.cell? ⟨w2.heap.size, 1, none⟩ = some (.int .u64 (J 1 : Int)) ∧ w'.cell? ⟨w2.heap.size, 2, none⟩ = some (.int .u64 (J 2 : Int)) ∧ w'.cell? ⟨w2.heap.size, 3, none⟩ = some (.int .u64 (J 3 : Int)))
    (first | exact K3.cells (by assumption) | go_keep)
    (first
      | (go_at_call 12; (with_reducible refine (G2.out _).mono ?_); rintro e w1 ⟨rfl, hb1⟩; have hk := K3.below (by assumption) hb1; clear hb1)
      | (go_at_call 13; (with_reducible refine (G3.out _).mono ?_); rintro e w1 ⟨rfl, hb1⟩; have hk := K3.below (by assumption) hb1; clear hb1)
      | (go_at_call 14; (with_reducible refine (G4.out _).mono ?_); rintro e w1 ⟨rfl, hb1⟩; have hk := K3.below (by assumption) hb1; clear hb1)
      | (go_at_call 15; (with_reducible refine (G5.out _).mono ?_); rintro e w1 ⟨rfl, hb1⟩; have hk := K3.below (by assumption) hb1; clear hb1)
      | (go_at_call 16; (with_reducible refine (G6.out _).mono ?_); rintro e w1 ⟨rfl, hb1⟩; have hk := K3.below (by assumption) hb1; clear hb1)
      | (go_at_call 13; (with_reducible refine (G7.out _).mono ?_); rintro e w1 ⟨rfl, hb1⟩; have hk := K3.below (by assumption) hb1; clear hb1)
      | (go_at_call 13; (with_reducible refine (G8.out _).mono ?_); rintro e w1 ⟨rfl, hb1⟩; have hk := K3.below (by assumption) hb1; clear hb1)
      | (go_at_call 11; (with_reducible refine (G9.out _).mono ?_); rintro e w1 ⟨rfl, hb1⟩; have hk := K3.below (by assumption) hb1; clear hb1))
  go_wp2
  go_ret
  exact ⟨rfl, K3.frame (by assumption)⟩
end Go.Proofs.Ytlddpcbbhglibaa
