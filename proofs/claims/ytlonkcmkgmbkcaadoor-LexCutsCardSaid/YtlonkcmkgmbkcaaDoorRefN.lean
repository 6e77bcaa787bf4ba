/- Plain laws of numerals, as the reference's lexer looks at them. -/
import Derived.Test.YtlonkcmkgmbkcaaDoorLexNum
import Derived.Test.YtlonkcmkgmbkcaaDoorLexE
namespace Go.Proofs.YtlonkcmkgmbkcaaDoor
open Go.RowKit LexS
set_option maxHeartbeats 400000

/-- What the reference's number answers: a number, and whether it is one. -/
def RNum (neg : Bool) (u : Nat) (x : Int) (ok : Bool) : Prop := (ok = true ↔ SmallEnough neg u) ∧ (ok = true → x = if neg then -(u : Int) else (u : Int))

theorem numT_no {L : Bytes} (h : ¬ ∃ v, Lib.atoiAll (L.take (numLen L)) = .ok v ∧ Lib.itoa v = L.take (numLen L)) : numberT L = (noTok, 0) := by
  unfold numberT numberS
  match hA : Lib.atoiAll (L.take (numLen L)) with
  | .ok v =>
    dsimp only
    rw [if_neg (fun hh => h ⟨v, hA, hh.1⟩)]
  | .syntax => rfl
  | .range => rfl
theorem numT_inner {L : Bytes} (h : L[numLen L]?.map innerB = some true) : numberT L = (noTok, 0) := by
  unfold numberT numberS
  match hA : Lib.atoiAll (L.take (numLen L)) with
  | .ok v =>
    dsimp only
    rw [if_neg (fun hh => hh.2 h)]
  | .syntax => rfl
  | .range => rfl
theorem numT_yes {L : Bytes} {v : Int} (h1 : Lib.atoiAll (L.take (numLen L)) = .ok v) (h2 : Lib.itoa v = L.take (numLen L)) (h3 : ¬ (L[numLen L]?.map innerB = some true)) : numberT L = (⟨2, [], v, 0⟩, numLen L) := by
  unfold numberT numberS
  rw [h1]
  dsimp only
  rw [if_pos ⟨h2, h3⟩]

theorem take_while_all (p : UInt8 → Bool) (l : Bytes) : ∀ c ∈ l.take (while_ p l), p c = true := by
  induction l with
  | nil => intro c h; simp at h
  | cons a l ih =>
    intro c h
    unfold while_ at h
    by_cases ha : p a = true
    · rw [if_pos ha, List.take_succ_cons] at h
      rcases List.mem_cons.1 h with rfl | h
      · exact ha
      · exact ih c h
    · rw [if_neg ha] at h
      simp at h
theorem alld_of {l : Bytes} (h : ∀ c ∈ l, digitB c = true) : AllD l := by
  intro c hc
  have := h c hc
  unfold digitB at this
  simp only [Bool.and_eq_true, decide_eq_true_eq] at this
  exact this
/-- Of a digit ahead. -/
theorem numLen_digit {c : UInt8} (r : Bytes) (h : digitB c = true) : numLen (c :: r) = 1 + while_ digitB r := by
  have hc : c.toNat ≠ 45 := by
    intro e
    simp [digitB, e] at h
  unfold numLen
  rw [if_neg (by simp [hc]), while_.eq_2, if_pos h]
  omega
theorem numLen_minus {c : UInt8} (r : Bytes) (h : c.toNat = 45) : numLen (c :: r) = 1 + while_ digitB r := by
  unfold numLen
  rw [if_pos (by simp [h])]
  rfl
theorem plain_digits {c : UInt8} (r : Bytes) (h : digitB c = true) : AllD ((c :: r).take (numLen (c :: r))) := by
  rw [numLen_digit r h, Nat.add_comm, List.take_succ_cons]
  refine alld_of fun x hx => ?_
  rcases List.mem_cons.1 hx with rfl | hx
  · exact h
  · exact take_while_all digitB r x hx
theorem minus_digits {c : UInt8} (r : Bytes) (h : c.toNat = 45) : (c :: r).take (numLen (c :: r)) = c :: r.take (while_ digitB r) ∧ AllD (r.take (while_ digitB r)) := by
  rw [numLen_minus r h, Nat.add_comm, List.take_succ_cons]
  exact ⟨rfl, alld_of (take_while_all digitB r)⟩
theorem dv_big : ∀ (l : Bytes) (acc : Nat), acc * 10 ^ l.length ≤ dv acc l := by
  intro l
  induction l with
  | nil => intro acc; simp [dv_nil]
  | cons c l ih =>
    intro acc
    rw [dv_cons, List.length_cons, Nat.pow_succ]
    refine Nat.le_trans ?_ (ih _)
    rw [Nat.mul_comm (10 ^ l.length) 10, ← Nat.mul_assoc]
    exact Nat.mul_le_mul_right _ (by omega)
theorem long_big {d : UInt8} {l : Bytes} (hd : 49 ≤ d.toNat) (hl : 19 ≤ l.length) : 9223372036854775808 < dv 0 (d :: l) := by
  have h1 := dv_big l (10 * 0 + (d.toNat - 48))
  rw [dv_cons]
  have h2 : 10 ^ 19 ≤ 10 ^ l.length := Nat.pow_le_pow_right (by omega) hl
  have h3 : 1 * 10 ^ l.length ≤ (10 * 0 + (d.toNat - 48)) * 10 ^ l.length := Nat.mul_le_mul_right _ (by omega)
  omega
theorem canon_head {d : UInt8} {l : Bytes} (ha : AllD (d :: l)) (h : d.toNat ≠ 48) : Canon (d :: l) := ⟨ha, by simp, .inr (by simpa using h)⟩
theorem not_canon {d : UInt8} {l : Bytes} (h : d.toNat = 48) (hl : l ≠ []) : ¬ Canon (d :: l) := by
  rintro ⟨_, _, h1 | h1⟩
  · have := List.length_pos_iff.2 hl
    simp only [List.length_cons] at h1
    omega
  · exact h1 (by simp [h])
/-- A numeral without a sign: what is refused. -/
theorem plain_nought {c : UInt8} {r : Bytes} (hc : digitB c = true) (h48 : c.toNat = 48) (h1 : while_ digitB r ≠ 0) : numberT (c :: r) = (noTok, 0) := by
  have hD := plain_digits r hc
  have hT : (c :: r).take (numLen (c :: r)) = c :: r.take (while_ digitB r) := by rw [numLen_digit r hc, Nat.add_comm, List.take_succ_cons]
  refine numT_no ?_
  rw [number_plain hD (by rw [hT]; simp)]
  rintro ⟨hcn, _⟩
  rw [hT] at hcn
  refine not_canon h48 ?_ hcn
  have := while_le digitB r
  intro e
  have := congrArg List.length e
  simp at this
  rcases this with h | h
  · exact h1 h
  · subst h; simp [while_] at h1
theorem plain_long {c : UInt8} {r : Bytes} (hc : digitB c = true) (h48 : c.toNat ≠ 48) (h1 : 19 ≤ while_ digitB r) : numberT (c :: r) = (noTok, 0) := by
  have hD := plain_digits r hc
  have hT : (c :: r).take (numLen (c :: r)) = c :: r.take (while_ digitB r) := by rw [numLen_digit r hc, Nat.add_comm, List.take_succ_cons]
  have hc2 := hD c (by rw [hT]; simp)
  refine numT_no ?_
  rw [number_plain hD (by rw [hT]; simp)]
  rintro ⟨_, hs⟩
  have := while_le digitB r
  rw [hT] at hs
  have := long_big (d := c) (l := r.take (while_ digitB r)) (by omega) (by rw [List.length_take]; omega)
  simp only [SmallEnough, Bool.false_eq_true, if_false] at hs
  omega
theorem plain_end {c : UInt8} {r : Bytes} (hc : digitB c = true) (h0 : c.toNat ≠ 48 ∨ while_ digitB r = 0) (hi : ¬ ((c :: r)[numLen (c :: r)]?.map innerB = some true)) {x : Int} {ok : Bool}
    (h : RNum false (dv 0 ((c :: r).take (numLen (c :: r)))) x ok) : numberT (c :: r) = if ok then (⟨2, [], x, 0⟩, numLen (c :: r)) else (noTok, 0) := by
  have hD := plain_digits r hc
  have hT : (c :: r).take (numLen (c :: r)) = c :: r.take (while_ digitB r) := by rw [numLen_digit r hc, Nat.add_comm, List.take_succ_cons]
  have hne : (c :: r).take (numLen (c :: r)) ≠ [] := by rw [hT]; simp
  have hN := number_plain hD hne
  have hcn : Canon ((c :: r).take (numLen (c :: r))) := by
    refine ⟨hD, hne, ?_⟩
    rw [hT]
    rcases h0 with h0 | h0
    · exact .inr (by simpa using h0)
    · exact .inl (by rw [h0]; simp)
  cases ok
  · have hs : ¬ SmallEnough false (dv 0 ((c :: r).take (numLen (c :: r)))) := fun hs => by have := h.1.2 hs; cases this
    exact numT_no (fun hv => hs (hN.1 hv).2)
  · have hs := h.1.1 rfl
    obtain ⟨v, hv, hi2⟩ := hN.2 ⟨hcn, hs⟩
    have hx := h.2 rfl
    have := atoi_plain hD hne hs
    rw [hv] at this
    injection this with this
    simp only [Bool.false_eq_true, if_false] at hx
    rw [numT_yes hv hi2 hi, hx, this]
    rfl
/-- A numeral with a sign. -/
theorem minus_nought {c d : UInt8} {r : Bytes} (hc : c.toNat = 45) (hd : digitB d = true) (h48 : d.toNat = 48) : numberT (c :: d :: r) = (noTok, 0) := by
  obtain ⟨hT, hD⟩ := minus_digits (c := c) (d :: r) hc
  have hw : while_ digitB (d :: r) = while_ digitB r + 1 := by
    have := while_.eq_2 digitB d r
    rw [this, if_pos hd]
  rw [hw, List.take_succ_cons] at hT hD
  refine numT_no ?_
  rw [hT, number_signed hc hD (by simp)]
  rintro ⟨hcn, hz, _⟩
  by_cases hl : r.take (while_ digitB r) = []
  · rw [hl] at hz
    exact hz (by rw [dv_cons, dv_nil, h48])
  · exact not_canon h48 hl hcn
theorem minus_long {c d : UInt8} {r : Bytes} (hc : c.toNat = 45) (hd : digitB d = true) (h48 : d.toNat ≠ 48) (h1 : 19 ≤ while_ digitB r) : numberT (c :: d :: r) = (noTok, 0) := by
  obtain ⟨hT, hD⟩ := minus_digits (c := c) (d :: r) hc
  have hw : while_ digitB (d :: r) = while_ digitB r + 1 := by
    have := while_.eq_2 digitB d r
    rw [this, if_pos hd]
  rw [hw, List.take_succ_cons] at hT hD
  have hc2 := hD d (by simp)
  refine numT_no ?_
  rw [hT, number_signed hc hD (by simp)]
  rintro ⟨_, _, hs⟩
  have := while_le digitB r
  have := long_big (d := d) (l := r.take (while_ digitB r)) (by omega) (by rw [List.length_take]; omega)
  simp only [SmallEnough, if_true] at hs
  omega
theorem minus_end {c d : UInt8} {r : Bytes} (hc : c.toNat = 45) (hd : digitB d = true) (h48 : d.toNat ≠ 48) (hi : ¬ ((c :: d :: r)[numLen (c :: d :: r)]?.map innerB = some true)) {x : Int} {ok : Bool}
    (h : RNum true (dv 0 ((d :: r).take (while_ digitB (d :: r)))) x ok) : numberT (c :: d :: r) = if ok then (⟨2, [], x, 0⟩, numLen (c :: d :: r)) else (noTok, 0) := by
  obtain ⟨hT, hD⟩ := minus_digits (c := c) (d :: r) hc
  have hw : while_ digitB (d :: r) = while_ digitB r + 1 := by
    have := while_.eq_2 digitB d r
    rw [this, if_pos hd]
  rw [hw, List.take_succ_cons] at hT hD h
  have hN := number_signed hc hD (by simp)
  rw [← hT] at hN
  have hcn := canon_head hD h48
  have hp := dv_pos hD (by simp) (by simpa using h48)
  cases ok
  · have hs : ¬ SmallEnough true (dv 0 (d :: r.take (while_ digitB r))) := fun hs => by have := h.1.2 hs; cases this
    exact numT_no (fun hv => hs (hN.1 hv).2.2)
  · have hs := h.1.1 rfl
    obtain ⟨v, hv, hi2⟩ := hN.2 ⟨hcn, by omega, hs⟩
    have hx := h.2 rfl
    have := atoi_signed hc hD (by simp) hs
    rw [← hT, hv] at this
    injection this with this
    simp only [if_true] at hx
    rw [numT_yes hv hi2 hi, hx, this]
    rfl
end Go.Proofs.YtlonkcmkgmbkcaaDoor
