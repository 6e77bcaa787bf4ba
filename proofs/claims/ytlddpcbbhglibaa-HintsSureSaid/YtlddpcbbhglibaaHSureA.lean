/- HintsSure: the walk, for whatever comes in. -/
import Derived.Test.YtlddpcbbhglibaaHSureN
import Derived.Test.YtlddpcbbhglibaaHSureW
import Derived.Test.YtlddpcbbhglibaaHOpen
namespace Go.Proofs.Ytlddpcbbhglibaa
open Go.RowKit Bits
theorem int_wf {n : Int} (h : (Lit.int .i64 n).wf = true) : -9223372036854775808 ≤ n ∧ n ≤ 9223372036854775807 := by
  simp [Lit.wf, IntKind.min, IntKind.max, IntKind.bits, IntKind.signed] at h
  omega
theorem sure_any {w : World} {ad : Option Addr} {cap : Nat} {hs : List ByteArray} {which p0 p1 : Int} (hl : hs.length ≤ 140737488351232)
    (hm : hs = [] ∨ ∃ a, ad = some a ∧ ∀ (i : Nat) t, hs[i]? = some t → w.cell? (a.add i) = some (.string t) ∧ t.size ≤ 140737488351232)
    (hw : -9223372036854775808 ≤ which ∧ which ≤ 9223372036854775807) (ha : -9223372036854775808 ≤ p0 ∧ p0 ≤ 9223372036854775807) (hb : -9223372036854775808 ≤ p1 ∧ p1 ≤ 9223372036854775807) :
    Calls Try.prog 8 #[.slice ad hs.length cap, .int .i64 which, .agg #[.int .i64 p0, .int .i64 p1]] w fun e w' => e = .returned (.bool true) ∧ Below w.heap.size w w' := by
  rcases Nat.eq_zero_or_pos hs.length with h0 | h0
  · rw [h0]
    exact sure_none
  · rcases hm with rfl | ⟨a, rfl, hm⟩
    · exact absurd h0 (Nat.lt_irrefl 0)
    · exact sure_some hm h0 hl hw.1 hw.2 ha.1 ha.2 hb.1 hb.2
end Go.Proofs.Ytlddpcbbhglibaa
