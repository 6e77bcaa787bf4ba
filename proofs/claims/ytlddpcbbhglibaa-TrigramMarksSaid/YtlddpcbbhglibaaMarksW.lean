/- The walk of the statement TrigramMarks. -/
import Derived.Test.YtlddpcbbhglibaaTriF
namespace Go.Proofs.Ytlddpcbbhglibaa
open Go.RowKit Bits
set_option maxHeartbeats 400000
attribute [local go_sem] run_eq24

theorem marks_walk (s : ByteArray) (hs : s.size ≤ 140737488351232) (w : World) :
    Calls Try.prog 6 #[.string s] w fun e w' => e = .returned (.bool true) ∧ Below w.heap.size w w' := by
  have g1 := of_any s (by unfold maxLen; omega)
  have g2 := rof_any s (by omega)
  have g3 := whole_any s hs
  have g4 := rwhole_any s hs
  have g0 := shown_any
  generalize ofB s = A at *
  generalize ofB (wholeS s) = C at *
  rw [bitsV_eq A] at g1 g2
  rw [bitsV_eq C] at g3 g4
  have G1 := Lib.hid g1
  have G2 := Lib.hid g2
  have G3 := Lib.hid g3
  have G4 := Lib.hid g4
  have G0 := Lib.hid g0
  clear g0 g1 g2 g3 g4
  go_enter Try.func6, Try.ntmps6
  go_wp2_with fail
  refine (G0.out _).mono ?_
  rintro e w1 ⟨rfl, hB1⟩
  go_wp2_with fail
  refine (G1.out _).mono ?_
  rintro e w2 ⟨rfl, hb2⟩
  have hB2 := hB1.trans (hb2.mono hB1.size)
  clear hb2 hB1
  go_wp2_with fail
  refine (G2.out _).mono ?_
  rintro e w3 ⟨rfl, hb3⟩
  have hB3 := hB2.trans (hb3.mono hB2.size)
  clear hb3 hB2
  go_wp2_with fail
  refine (G3.out _).mono ?_
  rintro e w4 ⟨rfl, hb4⟩
  have hB4 := hB3.trans (hb4.mono hB3.size)
  clear hb4 hB3
  go_wp2_with fail
  refine (G4.out _).mono ?_
  rintro e w5 ⟨rfl, hb5⟩
  have hB5 := hB4.trans (hb5.mono hB4.size)
  clear hb5 hB4
  go_wp2_with fail
  go_ret
  exact ⟨rfl, hB5⟩
end Go.Proofs.Ytlddpcbbhglibaa
