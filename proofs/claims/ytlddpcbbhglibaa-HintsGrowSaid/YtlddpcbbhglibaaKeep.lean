/- Fingerprints that lie in memory, over a row of calls. -/
import Derived.Test.YtlddpcbbhglibaaTriF
import Derived.Test.YtlddpcbbhglibaaTexts
import Derived.Deep.RegionHeld3
namespace Go.Proofs.Ytlddpcbbhglibaa
open Go.RowKit Bits
theorem chain' {w a b : World} (h1 : Below w.heap.size w a) (h2 : Below a.heap.size a b) : Below w.heap.size w b := h1.trans (h2.mono h1.size)
/-- Two fingerprints that lie in memory, and what lay there before is as it was. -/
def K2 (w : World) (g1 g2 : Nat) (x y : B) (W : World) : Prop := Below w.heap.size w W ∧ Blk W g1 24 (bitsA x) ∧ Blk W g2 24 (bitsA y)
theorem K2.below {w W W1 : World} {g1 g2 : Nat} {x y : B} (h : K2 w g1 g2 x y W) (hb : Below W.heap.size W W1) : K2 w g1 g2 x y W1 :=
  ⟨chain' h.1 hb, h.2.1.below hb h.2.1.lt, h.2.2.below hb h.2.2.lt⟩
theorem K2.cells {w W : World} {g1 g2 : Nat} {x y : B} (h : K2 w g1 g2 x y W) :
    W.cell? ⟨g1, 0, none⟩ = some (.int .u64 (x 0 : Int)) ∧ W.cell? ⟨g1, 1, none⟩ = some (.int .u64 (x 1 : Int)) ∧ W.cell? ⟨g1, 2, none⟩ = some (.int .u64 (x 2 : Int)) ∧ W.cell? ⟨g1, 3, none⟩ = some (.int .u64 (x 3 : Int)) ∧
    W.cell? ⟨g2, 0, none⟩ = some (.int .u64 (y 0 : Int)) ∧ W.cell? ⟨g2, 1, none⟩ = some (.int .u64 (y 1 : Int)) ∧ W.cell? ⟨g2, 2, none⟩ = some (.int .u64 (y 2 : Int)) ∧ W.cell? ⟨g2, 3, none⟩ = some (.int .u64 (y 3 : Int)) :=
  ⟨h.2.1.cell 0, h.2.1.cell 1, h.2.1.cell 2, h.2.1.cell 3, h.2.2.cell 0, h.2.2.cell 1, h.2.2.cell 2, h.2.2.cell 3⟩
theorem K2.frame {w W : World} {g1 g2 : Nat} {x y : B} (h : K2 w g1 g2 x y W) : Below w.heap.size w W := h.1
/-- One. -/
def K1 (w : World) (g1 : Nat) (x : B) (W : World) : Prop := Below w.heap.size w W ∧ Blk W g1 24 (bitsA x)
theorem K1.below {w W W1 : World} {g1 : Nat} {x : B} (h : K1 w g1 x W) (hb : Below W.heap.size W W1) : K1 w g1 x W1 := ⟨chain' h.1 hb, h.2.below hb h.2.lt⟩
theorem K1.cells {w W : World} {g1 : Nat} {x : B} (h : K1 w g1 x W) :
    W.cell? ⟨g1, 0, none⟩ = some (.int .u64 (x 0 : Int)) ∧ W.cell? ⟨g1, 1, none⟩ = some (.int .u64 (x 1 : Int)) ∧ W.cell? ⟨g1, 2, none⟩ = some (.int .u64 (x 2 : Int)) ∧ W.cell? ⟨g1, 3, none⟩ = some (.int .u64 (x 3 : Int)) :=
  ⟨h.2.cell 0, h.2.cell 1, h.2.cell 2, h.2.cell 3⟩
theorem K1.frame {w W : World} {g1 : Nat} {x : B} (h : K1 w g1 x W) : Below w.heap.size w W := h.1
end Go.Proofs.Ytlddpcbbhglibaa
