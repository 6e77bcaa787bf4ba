/- A slice of strings, and a pair of numbers, that come in. -/
import Derived.Test.YtlddpcbbhglibaaTriA
import Derived.ProofKit
import Derived.SliceStrings
import Derived.SizedLaws
import Derived.Laws.IdiomArrays
namespace Go.Proofs.Ytlddpcbbhglibaa
open Go.ChangeShapes Go.WideShapes Go.ChangeAt Go.RowKit

section
variable {H : Type} {enc : TypeId × Value → H} {P : Program} {w : World} {base : Nat} {spare : Nat → Bool} {held : Bool}
theorem trod_array2 {t e : TypeId} {fuel : Nat} {c0 c1 : Value} {x : DataW H × List MemPlace} (ht : P.underlying t = some (.array 2 e)) (hce : P.cellsOf e = 1)
    (h : DataW.trod enc P w base spare held fuel t [c0, c1] = some x) :
    ∃ y0 y1 n, x = (.agg [y0.1, y1.1], y0.2 ++ y1.2) ∧ DataW.trod enc P w base spare held n e [c0] = some y0 ∧ DataW.trod enc P w base spare held n e [c1] = some y1 := by
  cases fuel with
  | zero => simp [DataW.trod] at h
  | succ n =>
    unfold DataW.trod at h
    rw [ht] at h
    have r2 : List.range 2 = [0, 1] := rfl
    simp [r2, hce] at h
    obtain ⟨_, h⟩ := h
    cases h0 : DataW.trod enc P w base spare held n e [c0] with
    | none => simp [h0] at h
    | some y0 =>
      cases h1 : DataW.trod enc P w base spare held n e [c1] with
      | none => simp [h0, h1] at h
      | some y1 =>
        simp [h0, h1] at h
        exact ⟨y0, y1, n, h.symm, h0, h1⟩
end
theorem und34 : Try.prog.underlying 34 = some (.slice 9) := by kernel_rfl
theorem und35 : Try.prog.underlying 35 = some (.array 2 3) := by kernel_rfl
theorem und3 : Try.prog.underlying 3 = some (.int .i64) := by kernel_rfl
theorem und9' : Try.prog.underlying 9 = some .string := by kernel_rfl
theorem cells9 : Try.prog.cellsOf 9 = 1 := by kernel_rfl
theorem cells3 : Try.prog.cellsOf 3 = 1 := by kernel_rfl
theorem cells35 : Try.prog.cellsOf 35 = 2 := by kernel_rfl
theorem bytes9 : Try.prog.bytesOf 9 = 16 := by kernel_rfl
theorem open_pair {H : Type} {enc : TypeId × Value → H} {W : World} {r : Reach} {b0 base : Nat} {sp : Nat → Bool} {held : Bool} {v : Value} {d : DataW H} {p : List MemPlace}
    (hv : Value.okWide Try.prog W r b0 35 v) (h : DataW.Trod enc Try.prog W base sp held 35 v d p) : ∃ x y : Int, v = .agg #[.int .i64 x, .int .i64 y] ∧ (-9223372036854775808 ≤ x ∧ x ≤ 9223372036854775807) ∧ (-9223372036854775808 ≤ y ∧ y ≤ 9223372036854775807) := by
  simp only [Value.okWide, und35] at hv
  obtain ⟨cs, rfl, hsz, _⟩ := hv
  rw [cells35] at hsz
  obtain ⟨cs⟩ := cs
  match cs, hsz with
  | [c0, c1], _ =>
    obtain ⟨fuel, hf⟩ := h
    obtain ⟨y0, y1, n, _, h0, h1⟩ := trod_array2 und35 cells3 (by simpa [Value.cells] using hf)
    obtain ⟨n0, e0, _, w0⟩ := DataW.trod_int und3 h0
    obtain ⟨n1, e1, _, w1⟩ := DataW.trod_int und3 h1
    simp only [List.cons.injEq, and_true] at e0 e1
    subst e0 e1
    have hw : ∀ n : Int, (Lit.int .i64 n).wf = true → -9223372036854775808 ≤ n ∧ n ≤ 9223372036854775807 := fun n h => by
      simp [Lit.wf, IntKind.min, IntKind.max, IntKind.bits, IntKind.signed] at h
      omega
    exact ⟨n0, n1, rfl, hw _ w0, hw _ w1⟩
theorem weights_all {H : Type} {P : Program} {e : TypeId} : ∀ {l : List (DataW H)} {d : DataW H}, d ∈ l → ∀ n ∈ d.weights P e, n ∈ DataW.weightsAll P e l
  | x :: l, d, hd, n, hn => by
    simp only [DataW.weightsAll, List.mem_append]
    rcases List.mem_cons.1 hd with rfl | h
    · exact .inl hn
    · exact .inr (weights_all h n hn)
theorem open_hosts {H : Type} {enc : TypeId × Value → H} {W : World} {r : Reach} {b0 base : Nat} {sp : Nat → Bool} {held : Bool} {v : Value} {d : DataW H} {p : List MemPlace}
    (hv : Value.okWide Try.prog W r b0 34 v) (h : DataW.Trod enc Try.prog W base sp held 34 v d p) (hz : ∀ n ∈ d.weights Try.prog 34, n ≤ reachBytes) :
    ∃ (ad : Option Addr) (cap : Nat) (hs : List ByteArray), v = .slice ad hs.length cap ∧ hs.length ≤ 140737488351232 ∧ (hs = [] ∨ ∃ a, ad = some a ∧ ∀ (i : Nat) t, hs[i]? = some t → W.cell? (a.add i) = some (.string t) ∧ t.size ≤ 140737488351232) := by
  obtain ⟨a0, len, cap, rfl⟩ := okWide_slice und34 hv
  obtain ⟨fuel, hf⟩ := h
  rcases open_strings und34 und9' cells9 hf with ⟨hcs, hx⟩ | ⟨a, len', cap', ss, hcs, _, hl, hm, hlen, hx, hcell, hsz⟩
  · simp only [Value.cells, List.cons.injEq, Value.slice.injEq, and_true] at hcs
    obtain ⟨rfl, rfl, rfl⟩ := hcs
    exact ⟨none, 0, [], rfl, by decide, .inl rfl⟩
  · simp only [Value.cells, List.cons.injEq, Value.slice.injEq, and_true] at hcs
    obtain ⟨rfl, rfl, rfl⟩ := hcs
    have hle : len ≤ ss.length := by
      rw [hlen]
      split <;> omega
    have htl : (ss.take len).length = len := by rw [List.length_take]; omega
    have hd : d = .slice (strs (ss.take len)) (strs (ss.drop len)) := congrArg Prod.fst hx
    subst hd
    refine ⟨some a, cap, ss.take len, by rw [htl], ?_, .inr ⟨a, rfl, fun i t hi => ?_⟩⟩
    · have := hz (((strs (ss.take len) : List (DataW H)).length + (strs (ss.drop len) : List (DataW H)).length) * Try.prog.bytesOf 9) (by simp [DataW.weights])
      rw [bytes9] at this
      have e : (strs (ss.take len) : List (DataW H)).length = (ss.take len).length := by simp [strs]
      rw [e] at this
      have : reachBytes = 140737488351232 := by decide
      omega
    · have hil : i < (ss.take len).length := (List.getElem?_eq_some_iff.1 hi).1
      rw [htl] at hil
      have hi' : ss[i]? = some t := by rw [List.getElem?_take_of_lt hil] at hi; exact hi
      refine ⟨by rw [hcell i (by omega), List.getD, hi']; rfl, ?_⟩
      have hw := hz t.data.toList.length (by
        have h1 : (.lit (.string t.data.toList) : DataW H) ∈ strs (ss.take len) := List.mem_map.2 ⟨t, List.mem_of_getElem? hi, rfl⟩
        have h2 := weights_all (P := Try.prog) (e := 9) h1 t.data.toList.length (by simp [DataW.weights])
        simp only [DataW.weights, und34, List.mem_cons, List.mem_append]
        exact .inr (.inl h2))
      have : reachBytes = 140737488351232 := by decide
      rw [Array.length_toList] at hw
      show t.data.size ≤ _
      omega
end Go.Proofs.Ytlddpcbbhglibaa
