/- Several texts of the proof, joined. -/
import Derived.Test.YtnaehhpikhlppaaGreatDoorD1
import Derived.Lib.ItoaMem
import Derived.Lib.ItoaLen
import Derived.BigQuiet
set_option maxHeartbeats 4000000
set_option linter.unusedVariables false
set_option linter.unusedSimpArgs false
namespace Go.Proofs.YtnaehhpikhlppaaGreatDoor.LexS
open Go.Lib (parseUint10 parseMag atoiAll decDigits itoa)

def dv (acc : Nat) (l : Bytes) : Nat := l.foldl (fun a c => 10 * a + (c.toNat - 48)) acc
theorem dv_nil (acc : Nat) : dv acc [] = acc := rfl
theorem dv_cons (acc : Nat) (c : UInt8) (r : Bytes) : dv acc (c :: r) = dv (10 * acc + (c.toNat - 48)) r := by unfold dv; rw [List.foldl_cons]
def AllD (l : Bytes) : Prop := ∀ c ∈ l, 48 ≤ c.toNat ∧ c.toNat ≤ 57
theorem dv_append (acc : Nat) (l r : Bytes) : dv acc (l ++ r) = dv (dv acc l) r := by unfold dv; rw [List.foldl_append]
theorem dv_ge (acc : Nat) (l : Bytes) : acc ≤ dv acc l := by
  induction l generalizing acc with
  | nil => exact Nat.le_refl _
  | cons c l ih => have := ih (10 * acc + (c.toNat - 48)); rw [dv_cons]; omega
theorem pu_cons (acc : Nat) (c : UInt8) (r : Bytes) : parseUint10 acc (c :: r) = if 48 ≤ c.toNat ∧ c.toNat ≤ 57 then
      (if 1844674407370955162 ≤ acc then .range
      else if 18446744073709551616 ≤ acc * 10 + (c.toNat - 48) then .range
      else parseUint10 (acc * 10 + (c.toNat - 48)) r)
    else .syntax := by simp only [parseUint10]
theorem parse_digits (l : Bytes) (hl : AllD l) : ∀ acc, acc < 18446744073709551616 → parseUint10 acc l = if dv acc l < 18446744073709551616 then .ok (dv acc l) else .range := by
  induction l with
  | nil => intro acc ha; rw [dv_nil, if_pos ha]; rfl
  | cons c l ih =>
    intro acc ha
    have hc := hl c (by simp)
    have hr : AllD l := fun x hx => hl x (by simp [hx])
    have hg := dv_ge (10 * acc + (c.toNat - 48)) l
    rw [pu_cons, dv_cons, if_pos hc]
    generalize hD : dv (10 * acc + (c.toNat - 48)) l = D at *
    by_cases h1 : 1844674407370955162 ≤ acc
    · rw [if_pos h1, if_neg (by omega)]
    · rw [if_neg h1]
      by_cases h2 : 18446744073709551616 ≤ acc * 10 + (c.toNat - 48)
      · rw [if_pos h2, if_neg (by omega)]
      · rw [if_neg h2, show acc * 10 + (c.toNat - 48) = 10 * acc + (c.toNat - 48) by omega, ih hr _ (by omega), hD]
theorem mag_digits {l : Bytes} (hl : AllD l) (h0 : l ≠ []) : parseMag l = if dv 0 l < 18446744073709551616 then .ok (dv 0 l) else .range := by
  unfold parseMag
  rw [if_neg h0, parse_digits l hl 0 (by omega)]
theorem decDigits_lt {u : Nat} (h : u < 10) : decDigits u = [UInt8.ofNat (48 + u)] := by rw [decDigits, dif_pos h]
theorem decDigits_ge {u : Nat} (h : ¬ u < 10) : decDigits u = decDigits (u / 10) ++ [UInt8.ofNat (48 + u % 10)] := by rw [decDigits, dif_neg h]
theorem byte_of {u : Nat} (h : u < 10) : (UInt8.ofNat (48 + u)).toNat = 48 + u := by
  rw [UInt8.toNat_ofNat']; omega
theorem decDigits_ne (u : Nat) : decDigits u ≠ [] := by
  by_cases h : u < 10
  · rw [decDigits_lt h]; simp
  · rw [decDigits_ge h]; simp
theorem decDigits_all : ∀ u, AllD (decDigits u) := by
  intro u
  induction u using Nat.strongRecOn with
  | _ u ih =>
    by_cases h : u < 10
    · rw [decDigits_lt h]
      intro c hc
      simp only [List.mem_singleton] at hc
      subst hc
      rw [byte_of h]; omega
    · rw [decDigits_ge h]
      intro c hc
      rcases List.mem_append.1 hc with hc | hc
      · exact ih (u / 10) (by omega) c hc
      · simp only [List.mem_singleton] at hc
        subst hc
        rw [byte_of (Nat.mod_lt _ (by omega))]; omega
theorem dv_decDigits : ∀ u, dv 0 (decDigits u) = u := by
  intro u
  induction u using Nat.strongRecOn with
  | _ u ih =>
    by_cases h : u < 10
    · rw [decDigits_lt h]
      rw [dv_cons, dv_nil, byte_of h]; omega
    · rw [decDigits_ge h, dv_append, ih (u / 10) (by omega)]
      rw [dv_cons, dv_nil, byte_of (Nat.mod_lt u (show 0 < 10 by omega))]; omega
/-- Canonical: no nought ahead of other digits. -/
def Canon (l : Bytes) : Prop := AllD l ∧ l ≠ [] ∧ (l.length = 1 ∨ l.head?.map (·.toNat) ≠ some 48)
theorem dv_pos {l : Bytes} (hl : AllD l) (h0 : l ≠ []) (hh : l.head?.map (·.toNat) ≠ some 48) : 1 ≤ dv 0 l := by
  match l with
  | [] => exact absurd rfl h0
  | c :: r =>
    have hc := hl c (by simp)
    have : c.toNat ≠ 48 := fun e => hh (by simp [e])
    have := dv_ge (10 * 0 + (c.toNat - 48)) r
    rw [dv_cons]
    omega
theorem canon_unique : ∀ (n : Nat) (l : Bytes), l.length = n → Canon l → decDigits (dv 0 l) = l := by
  intro n
  induction n with
  | zero => intro l hl h; exact absurd (List.length_eq_zero_iff.1 hl) h.2.1
  | succ n ih =>
    intro l hl ⟨ha, h0, hc⟩
    obtain ⟨l', c, rfl⟩ : ∃ l' c, l = l' ++ [c] := ⟨l.dropLast, l.getLast h0, (List.dropLast_concat_getLast h0).symm⟩
    have hcd := ha c (by simp)
    have hb : UInt8.ofNat c.toNat = c := UInt8.ofNat_toNat
    rcases Nat.eq_zero_or_pos n with hn | hn
    · have : l' = [] := by
        apply List.length_eq_zero_iff.1
        simp at hl; omega
      subst this
      rw [List.nil_append, dv_cons, dv_nil]
      rw [decDigits_lt (by omega), show 48 + (10 * 0 + (c.toNat - 48)) = c.toNat by omega, hb]
    · have hl' : l'.length = n := by simp at hl; omega
      have hne : l' ≠ [] := fun e => by simp [e] at hl'; omega
      have hh : (l' ++ [c]).head?.map (·.toNat) ≠ some 48 := by
        rcases hc with h1 | h1
        · simp at h1; exact absurd h1 hne
        · exact h1
      have hh' : l'.head?.map (·.toNat) ≠ some 48 := by
        obtain ⟨d, r, rfl⟩ := List.exists_cons_of_ne_nil hne
        simpa using hh
      have ha' : AllD l' := fun x hx => ha x (by simp [hx])
      have hv := dv_pos ha' hne hh'
      rw [dv_append, dv_cons, dv_nil]
      rw [decDigits_ge (by omega), show (10 * dv 0 l' + (c.toNat - 48)) / 10 = dv 0 l' by omega, ih l' hl' ⟨ha', hne, .inr hh'⟩,
        show 48 + (10 * dv 0 l' + (c.toNat - 48)) % 10 = c.toNat by omega, hb]
theorem decDigits_canon : ∀ u, Canon (decDigits u) := by
  intro u
  refine ⟨decDigits_all u, decDigits_ne u, ?_⟩
  induction u using Nat.strongRecOn with
  | _ u ih =>
    by_cases h : u < 10
    · rw [decDigits_lt h]; simp
    · right
      rw [decDigits_ge h]
      by_cases h2 : u / 10 < 10
      · rw [decDigits_lt h2]
        simp only [List.cons_append, List.head?_cons, Option.map_some]
        rw [byte_of h2]
        intro e
        injection e with e
        omega
      · have := ih (u / 10) (by omega)
        rcases this with h1 | h1
        · have hd := decDigits_ge h2
          rw [hd, List.length_append] at h1
          have := List.length_pos_iff.2 (decDigits_ne (u / 10 / 10))
          simp only [List.length_cons, List.length_nil] at h1
          omega
        · have hne := decDigits_ne (u / 10)
          obtain ⟨d, r, hd⟩ := List.exists_cons_of_ne_nil hne
          rw [hd] at h1 ⊢
          simpa using h1
/-- What Atoi makes of a numeral with a sign or none, and that it is written so again: just where it is canonical, and small enough. -/
def SmallEnough (neg : Bool) (u : Nat) : Prop := if neg then u ≤ 9223372036854775808 else u < 9223372036854775808
instance (neg : Bool) (u : Nat) : Decidable (SmallEnough neg u) := by unfold SmallEnough; infer_instance
theorem number_plain {l : Bytes} (hl : AllD l) (h0 : l ≠ []) :
    (∃ v, atoiAll l = .ok v ∧ itoa v = l) ↔ (Canon l ∧ SmallEnough false (dv 0 l)) := by
  match l, h0 with
  | c :: r, _ =>
    have hc := hl c (by simp)
    have e1 : ¬ (c.toNat = 43 ∨ c.toNat = 45) := by omega
    have e2 : ¬ (c.toNat = 45) := by omega
    unfold atoiAll
    simp only [if_neg e1, mag_digits hl (by simp)]
    generalize hL : c :: r = L at *
    have hne : L ≠ [] := by rw [← hL]; simp
    unfold SmallEnough
    simp only [Bool.false_eq_true, if_false]
    by_cases h1 : dv 0 L < 18446744073709551616
    · simp only [if_pos h1]
      by_cases h2 : 9223372036854775808 ≤ dv 0 L
      · rw [if_pos ⟨e2, h2⟩]
        constructor
        · rintro ⟨v, h, _⟩; cases h
        · rintro ⟨_, h⟩; omega
      · rw [if_neg (fun h => h2 h.2), if_neg (fun h => e2 h.1), if_neg e2]
        constructor
        · rintro ⟨v, h, hi⟩
          injection h with h
          subst h
          unfold itoa at hi
          rw [if_neg (by omega), Int.toNat_natCast] at hi
          refine ⟨?_, by omega⟩
          rw [← hi]
          exact decDigits_canon _
        · rintro ⟨hcn, _⟩
          refine ⟨_, rfl, ?_⟩
          unfold itoa
          rw [if_neg (by omega), Int.toNat_natCast]
          exact canon_unique _ L rfl hcn
    · simp only [if_neg h1]
      constructor
      · rintro ⟨v, h, _⟩; cases h
      · rintro ⟨_, h⟩; omega
theorem number_signed {c : UInt8} (hc : c.toNat = 45) {l : Bytes} (hl : AllD l) (h0 : l ≠ []) :
    (∃ v, atoiAll (c :: l) = .ok v ∧ itoa v = c :: l) ↔ (Canon l ∧ dv 0 l ≠ 0 ∧ SmallEnough true (dv 0 l)) := by
  unfold atoiAll
  simp only [hc, or_true, if_true, mag_digits hl h0]
  have hcb : (45 : UInt8) = c := by rw [← UInt8.ofNat_toNat (x := c), hc]; rfl
  unfold SmallEnough
  simp only [if_true]
  by_cases h1 : dv 0 l < 18446744073709551616
  · simp only [if_pos h1]
    simp only [not_true, false_and, if_false, true_and]
    by_cases h2 : 9223372036854775808 < dv 0 l
    · rw [if_pos h2]
      constructor
      · rintro ⟨v, h, _⟩; cases h
      · rintro ⟨_, _, h⟩; omega
    · rw [if_neg h2]
      constructor
      · rintro ⟨v, h, hi⟩
        injection h with h
        subst h
        unfold itoa at hi
        by_cases hz : dv 0 l = 0
        · rw [if_neg (by omega)] at hi
          have := decDigits_all ((-(dv 0 l : Int)).toNat) c (by rw [hi]; simp)
          omega
        · rw [if_pos (by omega)] at hi
          injection hi with _ hi
          refine ⟨?_, hz, by omega⟩
          rw [← hi]
          exact decDigits_canon _
      · rintro ⟨hcn, hz, _⟩
        refine ⟨_, rfl, ?_⟩
        unfold itoa
        rw [if_pos (by omega), hcb]
        congr 1
        rw [show (-(dv 0 l : Int)).natAbs = dv 0 l by omega]
        exact canon_unique _ l rfl hcn
  · simp only [if_neg h1]
    constructor
    · rintro ⟨v, h, _⟩; cases h
    · rintro ⟨_, _, h⟩; omega
theorem atoi_plain {l : Bytes} (hl : AllD l) (h0 : l ≠ []) (hs : SmallEnough false (dv 0 l)) : atoiAll l = .ok (dv 0 l : Nat) := by
  match l, h0 with
  | c :: r, _ =>
    have hc := hl c (by simp)
    have e1 : ¬ (c.toNat = 43 ∨ c.toNat = 45) := by omega
    have e2 : ¬ (c.toNat = 45) := by omega
    unfold SmallEnough at hs
    simp only [Bool.false_eq_true, if_false] at hs
    unfold atoiAll
    simp only [if_neg e1, mag_digits hl (by simp)]
    rw [if_pos (by omega)]
    simp only []
    rw [if_neg (fun h => by omega), if_neg (fun h => e2 h.1), if_neg e2]
theorem atoi_signed {c : UInt8} (hc : c.toNat = 45) {l : Bytes} (hl : AllD l) (h0 : l ≠ []) (hs : SmallEnough true (dv 0 l)) : atoiAll (c :: l) = .ok (-(dv 0 l : Nat)) := by
  unfold SmallEnough at hs
  simp only [if_true] at hs
  unfold atoiAll
  simp only [hc, or_true, if_true, mag_digits hl h0]
  rw [if_pos (by omega)]
  simp only [not_true, false_and, if_false, true_and]
  rw [if_neg (by omega)]
end Go.Proofs.YtnaehhpikhlppaaGreatDoor.LexS

namespace Go.Proofs.YtnaehhpikhlppaaGreatDoor.LexS
open Go.Lib (parseUint10 parseMag atoiAll decDigits itoa)

theorem while_all (D : Bytes) (hD : AllD D) (t : Bytes) (ht : t.head?.map digitB ≠ some true) : while_ digitB (D ++ t) = D.length := by
  induction D with
  | nil =>
    cases t with
    | nil => rfl
    | cons c r =>
      have hc : digitB c = false := by simpa using ht
      simp [while_, hc]
  | cons c r ih =>
    have hc := hD c (by simp)
    have hd : digitB c = true := by simp [digitB, hc.1, hc.2]
    show (if digitB c then while_ digitB (r ++ t) + 1 else 0) = r.length + 1
    rw [if_pos hd, ih (fun x hx => hD x (by simp [hx]))]
theorem digit_not_letter {c : UInt8} (h : 48 ≤ c.toNat ∧ c.toNat ≤ 57) : letterB c = false ∧ c.toNat ≠ 34 ∧ digitB c = true ∧ blankB c = false ∧ c.toNat ≠ 45 := by
  refine ⟨?_, by omega, by simp [digitB, h.1, h.2], ?_, by omega⟩
  · have : ¬ (97 ≤ c.toNat) := by omega
    simp [letterB, this]
  · simp [blankB]; omega
/-- The text of a number, and what may stand behind it. -/
theorem one_itoa (n : Int) (h0 : -9223372036854775808 ≤ n) (h1 : n ≤ 9223372036854775807) (t : Bytes) (ht : t.head?.map digitB ≠ some true) (hi : t.head?.map innerB ≠ some true) :
    oneS (itoa n ++ t) = (⟨2, [], n, 0⟩, (itoa n).length) ∧ ∃ c r, itoa n = c :: r ∧ blankB c = false := by
  rcases (by omega : n < 0 ∨ 0 ≤ n) with hn | hn
  · obtain ⟨u, rfl⟩ : ∃ u : Nat, n = -(u : Int) := ⟨n.natAbs, by omega⟩
    have hu : 1 ≤ u := by omega
    have hA := decDigits_all u
    have hD : itoa (-(u : Int)) = 45 :: decDigits u := Lib.itoa_neg u hu
    have hne := decDigits_ne u
    have hw : numLen (45 :: (decDigits u ++ t)) = 1 + (decDigits u).length := by
      unfold numLen
      rw [if_pos (by rfl)]
      show 1 + while_ digitB (decDigits u ++ t) = _
      rw [while_all _ hA _ ht]
    have htk : (45 :: (decDigits u ++ t)).take (1 + (decDigits u).length) = 45 :: decDigits u := by
      rw [Nat.add_comm, List.take_succ_cons, List.take_left]
    have hat : atoiAll (45 :: decDigits u) = .ok (-(u : Int)) := by
      have := atoi_signed (c := 45) rfl hA hne (by rw [dv_decDigits]; unfold SmallEnough; simp; omega)
      rwa [dv_decDigits] at this
    have hnx : (45 :: (decDigits u ++ t))[1 + (decDigits u).length]? = t.head? := by
      rw [Nat.add_comm, List.getElem?_cons_succ, List.getElem?_append_right (Nat.le_refl _), Nat.sub_self, List.head?_eq_getElem?]
    rw [hD]
    refine ⟨?_, 45, decDigits u, rfl, by decide⟩
    show oneS (45 :: (decDigits u ++ t)) = _
    obtain ⟨d, r, hdr⟩ : ∃ d r, decDigits u = d :: r := by
      cases h : decDigits u with
      | nil => exact absurd h hne
      | cons d r => exact ⟨d, r, rfl⟩
    have hdd : (decDigits u ++ t).head?.map digitB = some true := by
      rw [hdr]
      have := hA d (by rw [hdr]; simp)
      simp [digitB, this.1, this.2]
    have hns : numberS (45 :: (decDigits u ++ t)) = some (-(u : Int), 1 + (decDigits u).length) := by
      unfold numberS
      rw [hw, htk, hat]
      dsimp only
      rw [if_pos ⟨hD, by rw [hnx]; exact hi⟩]
    unfold oneS
    dsimp only
    rw [if_neg (show ¬ (letterB 45 = true) by decide), if_neg (show ¬ ((45 : UInt8).toNat = 34) by decide), if_pos (show digitB 45 = true ∨ ((45 : UInt8).toNat = 45 ∧ (decDigits u ++ t).head?.map digitB = some true) from Or.inr ⟨rfl, hdd⟩), hns]
    simp only [List.length_cons]
    rw [Nat.add_comm]
  · obtain ⟨u, rfl⟩ : ∃ u : Nat, n = (u : Int) := ⟨n.toNat, by omega⟩
    have hA := decDigits_all u
    have hD : itoa (u : Int) = decDigits u := Lib.itoa_nonneg u
    have hne := decDigits_ne u
    obtain ⟨c, r, hcr⟩ : ∃ c r, decDigits u = c :: r := by
      cases h : decDigits u with
      | nil => exact absurd h hne
      | cons d r => exact ⟨d, r, rfl⟩
    have hc := digit_not_letter (hA c (by rw [hcr]; simp))
    have hw : numLen (decDigits u ++ t) = (decDigits u).length := by
      unfold numLen
      rw [if_neg (by rw [hcr]; simpa using hc.2.2.2.2)]
      exact while_all _ hA _ ht
    have hat : atoiAll (decDigits u) = .ok (u : Int) := by
      have := atoi_plain hA hne (by rw [dv_decDigits]; unfold SmallEnough; simp; omega)
      rwa [dv_decDigits] at this
    have hns : numberS (decDigits u ++ t) = some ((u : Int), (decDigits u).length) := by
      unfold numberS
      rw [hw, List.take_left, hat]
      dsimp only
      rw [if_pos ⟨hD, by rw [List.getElem?_append_right (Nat.le_refl _), Nat.sub_self, ← List.head?_eq_getElem?]; exact hi⟩]
    rw [hD]
    refine ⟨?_, c, r, hcr, hc.2.2.2.1⟩
    rw [hcr] at hns ⊢
    unfold oneS
    rw [List.cons_append]
    dsimp only
    rw [List.cons_append] at hns
    rw [if_neg (by rw [hc.1]; simp), if_neg hc.2.1, if_pos (Or.inl hc.2.2.1), hns]
theorem lexGo_tok {k a : Nat} {rest : Bytes} {acc : List Tok} {y : Tok} {n : Nat} (hb : ∃ c r, rest = c :: r ∧ blankB c = false) (h : oneS rest = (y, n)) (hn : n ≠ 0) :
    lexGo (k + 1) a rest acc = lexGo k (a + n) (rest.drop n) (acc ++ [{ y with at_ := a }]) := by
  obtain ⟨c, r, rfl, hb⟩ := hb
  simp [lexGo, hb, h, hn]
theorem itoa_small (n : Int) (h0 : -9223372036854775808 ≤ n) (h1 : n ≤ 9223372036854775807) : (itoa n).length ≤ 21 ∧ (itoa n).length ≠ 0 := by
  refine ⟨Lib.itoa_length_le n h0 h1, ?_⟩
  obtain ⟨_, c, r, h, _⟩ := one_itoa n h0 h1 [] (by simp) (by simp)
  rw [h]
  simp
theorem lexGo_nil (k a : Nat) (acc : List Tok) : lexGo k a [] acc = (acc, 0, 0) := by cases k <;> rfl
end Go.Proofs.YtnaehhpikhlppaaGreatDoor.LexS

namespace Go.Proofs.YtnaehhpikhlppaaGreatDoor
open BigFrame
theorem wp_region_quietC {P : Program} (C : World → Prop) {id : Nat} {Q : Exit → Act → World → Prop} {a : Act} {w : World} {l : List Oper} (hm : P.follows .mixedOrders = true) (hB : Region.lexB .any l.toArray = true)
    (hC : C w.drew) (h : wpQuiet P l.toArray C (fun a' => ∀ w', C w' → Q .normal a' w') l a) : (Code.region id l.toArray true).wp P Q a w :=
  wp_region_quiet (C := C) hm hB hC (by simpa using h)
theorem forall_class {C : World → Prop} {w : World} (h : C w) (p : Prop) : (∀ W, C W → p) ↔ p := ⟨fun H => H w h, fun H _ _ => H⟩
end Go.Proofs.YtnaehhpikhlppaaGreatDoor
