/- An array of four words that comes in by value reads as a fingerprint. -/
import Derived.Test.YtlddpcbbhglibaaTriA
import Derived.ProofKit
import Derived.Laws.IdiomArrays
namespace Go.Proofs.Ytlddpcbbhglibaa
open Go.ChangeShapes Go.WideShapes Go.ChangeAt Go.RowKit Bits
theorem cells22 : Try.prog.cellsOf 22 = 1 := by kernel_rfl
theorem cells24 : Try.prog.cellsOf 24 = 4 := by kernel_rfl
theorem open_bits {H : Type} {enc : TypeId × Value → H} {W : World} {r : Reach} {b0 base : Nat} {sp : Nat → Bool} {held : Bool} {v : Value} {d : DataW H} {p : List MemPlace}
    (hv : Value.okWide Try.prog W r b0 24 v) (h : DataW.Trod enc Try.prog W base sp held 24 v d p) : ∃ x : B, WF x ∧ v = bitsV x := by
  simp only [Value.okWide, Try.underlying24] at hv
  obtain ⟨cs, rfl, hsz, _⟩ := hv
  rw [cells24] at hsz
  obtain ⟨cs⟩ := cs
  match cs, hsz with
  | [c0, c1, c2, c3], _ =>
    obtain ⟨fuel, hf⟩ := h
    obtain ⟨y0, y1, y2, y3, n, _, h0, h1, h2, h3⟩ := trod_array4 Try.underlying24 cells22 (by simpa [Value.cells] using hf)
    obtain ⟨n0, e0, _, w0⟩ := DataW.trod_int Try.underlying22 h0
    obtain ⟨n1, e1, _, w1⟩ := DataW.trod_int Try.underlying22 h1
    obtain ⟨n2, e2, _, w2⟩ := DataW.trod_int Try.underlying22 h2
    obtain ⟨n3, e3, _, w3⟩ := DataW.trod_int Try.underlying22 h3
    simp only [List.cons.injEq, and_true] at e0 e1 e2 e3
    subst e0 e1 e2 e3
    have hw : ∀ n : Int, (Lit.int .u64 n).wf = true → 0 ≤ n ∧ n < 18446744073709551616 := fun n h => by
      simp [Lit.wf, IntKind.min, IntKind.max, IntKind.bits, IntKind.signed] at h
      omega
    have z0 := hw _ w0
    have z1 := hw _ w1
    have z2 := hw _ w2
    have z3 := hw _ w3
    refine ⟨fun k => if k = 0 then n0.toNat else if k = 1 then n1.toNat else if k = 2 then n2.toNat else if k = 3 then n3.toNat else 0, ?_, ?_⟩
    · intro k
      show (if k = 0 then n0.toNat else if k = 1 then n1.toNat else if k = 2 then n2.toNat else if k = 3 then n3.toNat else 0) < 2 ^ 64
      split
      · omega
      · split
        · omega
        · split
          · omega
          · split <;> omega
    · simp [bitsV, bitsA]
      omega
end Go.Proofs.Ytlddpcbbhglibaa
