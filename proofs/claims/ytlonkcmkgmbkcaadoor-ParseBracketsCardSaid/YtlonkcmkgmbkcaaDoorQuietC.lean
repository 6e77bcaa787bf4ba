/- A drawn region, walked once, in a class of worlds of one's own: a callee that makes memory is quiet in it. -/
import Derived.Test.YtlonkcmkgmbkcaaDoorMem
import Derived.BigQuiet
namespace Go.Proofs.YtlonkcmkgmbkcaaDoor
open BigFrame
theorem wp_region_quietC {P : Program} (C : World → Prop) {id : Nat} {Q : Exit → Act → World → Prop} {a : Act} {w : World} {l : List Oper} (hm : P.follows .mixedOrders = true) (hB : Region.lexB .any l.toArray = true)
    (hC : C w.drew) (h : wpQuiet P l.toArray C (fun a' => ∀ w', C w' → Q .normal a' w') l a) : (Code.region id l.toArray true).wp P Q a w :=
  wp_region_quiet (C := C) hm hB hC (by simpa using h)
theorem forall_class {C : World → Prop} {w : World} (h : C w) (p : Prop) : (∀ W, C W → p) ↔ p := ⟨fun H => H w h, fun H _ _ => H⟩
end Go.Proofs.YtlonkcmkgmbkcaaDoor
