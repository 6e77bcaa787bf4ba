/- A number's digits are cut as this number alone: the plain law. -/
import Derived.Test.YtlonkcmkgmbkcaaDoorLexNum
import Derived.Lib.ItoaMem
import Derived.Lib.ItoaLen
namespace Go.Proofs.YtlonkcmkgmbkcaaDoor.LexS
open Go.Lib (parseUint10 parseMag atoiAll decDigits itoa)

theorem while_all (D : Bytes) (hD : AllD D) (t : Bytes) (ht : t.head?.map digitB ≠ some true) : while_ digitB (D ++ t) = D.length := by
  induction D with
  | nil =>
    cases t with
    | nil => rfl
    | cons c r =>
      have hc : digitB c = false := by simpa using ht
      simp [while_, hc]
  | cons c r ih =>
    have hc := hD c (by simp)
    have hd : digitB c = true := by simp [digitB, hc.1, hc.2]
    show (if digitB c then while_ digitB (r ++ t) + 1 else 0) = r.length + 1
    rw [if_pos hd, ih (fun x hx => hD x (by simp [hx]))]
theorem digit_not_letter {c : UInt8} (h : 48 ≤ c.toNat ∧ c.toNat ≤ 57) : letterB c = false ∧ c.toNat ≠ 34 ∧ digitB c = true ∧ blankB c = false ∧ c.toNat ≠ 45 := by
  refine ⟨?_, by omega, by simp [digitB, h.1, h.2], ?_, by omega⟩
  · have : ¬ (97 ≤ c.toNat) := by omega
    simp [letterB, this]
  · simp [blankB]; omega
/-- The text of a number, and what may stand behind it. -/
theorem one_itoa (n : Int) (h0 : -9223372036854775808 ≤ n) (h1 : n ≤ 9223372036854775807) (t : Bytes) (ht : t.head?.map digitB ≠ some true) (hi : t.head?.map innerB ≠ some true) :
    oneS (itoa n ++ t) = (⟨2, [], n, 0⟩, (itoa n).length) ∧ ∃ c r, itoa n = c :: r ∧ blankB c = false := by
  rcases (by omega : n < 0 ∨ 0 ≤ n) with hn | hn
  · obtain ⟨u, rfl⟩ : ∃ u : Nat, n = -(u : Int) := ⟨n.natAbs, by omega⟩
    have hu : 1 ≤ u := by omega
    have hA := decDigits_all u
    have hD : itoa (-(u : Int)) = 45 :: decDigits u := Lib.itoa_neg u hu
    have hne := decDigits_ne u
    have hw : numLen (45 :: (decDigits u ++ t)) = 1 + (decDigits u).length := by
      unfold numLen
      rw [if_pos (by rfl)]
      show 1 + while_ digitB (decDigits u ++ t) = _
      rw [while_all _ hA _ ht]
    have htk : (45 :: (decDigits u ++ t)).take (1 + (decDigits u).length) = 45 :: decDigits u := by
      rw [Nat.add_comm, List.take_succ_cons, List.take_left]
    have hat : atoiAll (45 :: decDigits u) = .ok (-(u : Int)) := by
      have := atoi_signed (c := 45) rfl hA hne (by rw [dv_decDigits]; unfold SmallEnough; simp; omega)
      rwa [dv_decDigits] at this
    have hnx : (45 :: (decDigits u ++ t))[1 + (decDigits u).length]? = t.head? := by
      rw [Nat.add_comm, List.getElem?_cons_succ, List.getElem?_append_right (Nat.le_refl _), Nat.sub_self, List.head?_eq_getElem?]
    rw [hD]
    refine ⟨?_, 45, decDigits u, rfl, by decide⟩
    show oneS (45 :: (decDigits u ++ t)) = _
    obtain ⟨d, r, hdr⟩ : ∃ d r, decDigits u = d :: r := by
      cases h : decDigits u with
      | nil => exact absurd h hne
      | cons d r => exact ⟨d, r, rfl⟩
    have hdd : (decDigits u ++ t).head?.map digitB = some true := by
      rw [hdr]
      have := hA d (by rw [hdr]; simp)
      simp [digitB, this.1, this.2]
    have hns : numberS (45 :: (decDigits u ++ t)) = some (-(u : Int), 1 + (decDigits u).length) := by
      unfold numberS
      rw [hw, htk, hat]
      dsimp only
      rw [if_pos ⟨hD, by rw [hnx]; exact hi⟩]
    unfold oneS
    dsimp only
    rw [if_neg (show ¬ (letterB 45 = true) by decide), if_neg (show ¬ ((45 : UInt8).toNat = 34) by decide), if_pos (show digitB 45 = true ∨ ((45 : UInt8).toNat = 45 ∧ (decDigits u ++ t).head?.map digitB = some true) from Or.inr ⟨rfl, hdd⟩), hns]
    simp only [List.length_cons]
    rw [Nat.add_comm]
  · obtain ⟨u, rfl⟩ : ∃ u : Nat, n = (u : Int) := ⟨n.toNat, by omega⟩
    have hA := decDigits_all u
    have hD : itoa (u : Int) = decDigits u := Lib.itoa_nonneg u
    have hne := decDigits_ne u
    obtain ⟨c, r, hcr⟩ : ∃ c r, decDigits u = c :: r := by
      cases h : decDigits u with
      | nil => exact absurd h hne
      | cons d r => exact ⟨d, r, rfl⟩
    have hc := digit_not_letter (hA c (by rw [hcr]; simp))
    have hw : numLen (decDigits u ++ t) = (decDigits u).length := by
      unfold numLen
      rw [if_neg (by rw [hcr]; simpa using hc.2.2.2.2)]
      exact while_all _ hA _ ht
    have hat : atoiAll (decDigits u) = .ok (u : Int) := by
      have := atoi_plain hA hne (by rw [dv_decDigits]; unfold SmallEnough; simp; omega)
      rwa [dv_decDigits] at this
    have hns : numberS (decDigits u ++ t) = some ((u : Int), (decDigits u).length) := by
      unfold numberS
      rw [hw, List.take_left, hat]
      dsimp only
      rw [if_pos ⟨hD, by rw [List.getElem?_append_right (Nat.le_refl _), Nat.sub_self, ← List.head?_eq_getElem?]; exact hi⟩]
    rw [hD]
    refine ⟨?_, c, r, hcr, hc.2.2.2.1⟩
    rw [hcr] at hns ⊢
    unfold oneS
    rw [List.cons_append]
    dsimp only
    rw [List.cons_append] at hns
    rw [if_neg (by rw [hc.1]; simp), if_neg hc.2.1, if_pos (Or.inl hc.2.2.1), hns]
theorem lexGo_tok {k a : Nat} {rest : Bytes} {acc : List Tok} {y : Tok} {n : Nat} (hb : ∃ c r, rest = c :: r ∧ blankB c = false) (h : oneS rest = (y, n)) (hn : n ≠ 0) :
    lexGo (k + 1) a rest acc = lexGo k (a + n) (rest.drop n) (acc ++ [{ y with at_ := a }]) := by
  obtain ⟨c, r, rfl, hb⟩ := hb
  simp [lexGo, hb, h, hn]
theorem itoa_small (n : Int) (h0 : -9223372036854775808 ≤ n) (h1 : n ≤ 9223372036854775807) : (itoa n).length ≤ 21 ∧ (itoa n).length ≠ 0 := by
  refine ⟨Lib.itoa_length_le n h0 h1, ?_⟩
  obtain ⟨_, c, r, h, _⟩ := one_itoa n h0 h1 [] (by simp) (by simp)
  rw [h]
  simp
theorem lexGo_nil (k a : Nat) (acc : List Tok) : lexGo k a [] acc = (acc, 0, 0) := by cases k <;> rfl
theorem lex_itoa (n : Int) (h0 : -9223372036854775808 ≤ n) (h1 : n ≤ 9223372036854775807) : lexS (itoa n) = ([⟨2, [], n, 0⟩], 0, 0) := by
  obtain ⟨ho, hb⟩ := one_itoa n h0 h1 [] (by simp) (by simp)
  rw [List.append_nil] at ho
  obtain ⟨hs, hz⟩ := itoa_small n h0 h1
  unfold lexS
  rw [if_neg (by omega), lexGo_tok hb ho hz, List.drop_length, lexGo_nil]
  rfl
theorem lex_around (n : Int) (h0 : -9223372036854775808 ≤ n) (h1 : n ≤ 9223372036854775807) :
    lexS ([60, 61] ++ itoa n ++ [41]) = ([⟨4, [60, 61], 0, 0⟩, ⟨2, [], n, 2⟩, ⟨4, [41], 0, 2 + (itoa n).length⟩], 0, 0) := by
  obtain ⟨ho, c, r, hcr, hb⟩ := one_itoa n h0 h1 [41] (by decide) (by decide)
  obtain ⟨hs, hz⟩ := itoa_small n h0 h1
  have hf : oneS ([60, 61] ++ itoa n ++ [41]) = (⟨4, [60, 61], 0, 0⟩, 2) := by
    show oneS (60 :: 61 :: (itoa n ++ [41])) = _
    simp [oneS, letterB, digitB, signLen]
  have hl : oneS [41] = (⟨4, [41], 0, 0⟩, 1) := by decide +kernel
  unfold lexS
  rw [if_neg (by simp; omega)]
  obtain ⟨k, hk⟩ : ∃ k, ([60, 61] ++ itoa n ++ [41]).length + 1 = k + 1 + 1 + 1 := ⟨(itoa n).length + 1, by simp⟩
  have hfirst : ∃ c r, [60, 61] ++ itoa n ++ [41] = c :: r ∧ blankB c = false := ⟨60, 61 :: (itoa n ++ [41]), rfl, by decide⟩
  rw [hk, lexGo_tok hfirst hf (by decide)]
  have e : ([60, 61] ++ itoa n ++ [41]).drop 2 = itoa n ++ [41] := rfl
  rw [e, lexGo_tok ⟨c, r ++ [41], by rw [hcr]; rfl, hb⟩ ho hz, List.drop_left, lexGo_tok ⟨41, [], rfl, by decide⟩ hl (by decide)]
  rw [show ([41] : Bytes).drop 1 = [] from rfl, lexGo_nil]
  simp
end Go.Proofs.YtlonkcmkgmbkcaaDoor.LexS
