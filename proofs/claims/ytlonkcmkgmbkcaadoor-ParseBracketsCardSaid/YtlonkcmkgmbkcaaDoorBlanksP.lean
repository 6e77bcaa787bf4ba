/- Blanks ahead of, between and behind two texts change nothing but places: the plain law. -/
import Derived.Test.YtlonkcmkgmbkcaaDoorLexSpec
namespace Go.Proofs.YtlonkcmkgmbkcaaDoor.LexS

theorem blank_facts {b : UInt8} (h : blankB b = true) : innerB b = false ∧ digitB b = false ∧ b.toNat ≠ 61 := by
  simp [blankB] at h
  refine ⟨?_, ?_, by omega⟩
  · simp [innerB, letterB, digitB]; omega
  · simp [digitB]; omega
theorem while_ahead (p : UInt8 → Bool) (l : Bytes) (b : UInt8) (t : Bytes) (h : p b = false) : while_ p (l ++ b :: t) = while_ p l := by
  induction l with
  | nil => simp [while_, h]
  | cons c r ih =>
    show (if p c then while_ p (r ++ b :: t) + 1 else 0) = if p c then while_ p r + 1 else 0
    rw [ih]
theorem take_ahead (l t : Bytes) (n : Nat) (h : n ≤ l.length) : (l ++ t).take n = l.take n := List.take_append_of_le_length h
theorem textFrom_ahead : ∀ (l acc : Bytes) (i : Nat) (t : Bytes) (y : Bytes × Nat), textFrom acc i l = some y → textFrom acc i (l ++ t) = some y := by
  intro l
  induction hm : l.length using Nat.strongRecOn generalizing l with
  | _ m ih =>
    intro acc i t y h
    match l, hm, h with
    | [], _, h => simp [textFrom] at h
    | c :: r, hm, h =>
      simp only [List.length_cons] at hm
      rw [List.cons_append]
      unfold textFrom at h ⊢
      split at h
      · rename_i h1; rw [if_pos h1]; exact h
      · rename_i h1
        rw [if_neg h1]
        split at h
        · rename_i h2
          rw [if_pos h2]
          match r, hm, h with
          | [], _, h => simp at h
          | d :: r', hm, h =>
            dsimp only [List.cons_append] at h ⊢
            simp only [List.length_cons] at hm
            split at h
            · rename_i h3; rw [if_pos h3]; exact ih r'.length (by omega) r' rfl _ _ _ _ h
            · cases h
        · rename_i h2
          rw [if_neg h2]
          exact ih r.length (by omega) r rfl _ _ _ _ h
/-- A byte that no token goes on with. -/
def TokEnd (b : UInt8) : Prop := innerB b = false ∧ digitB b = false ∧ b.toNat ≠ 61
theorem one_ends (l : Bytes) (b : UInt8) (t : Bytes) (hb : TokEnd b) (hn : (oneS l).2 ≠ 0) : oneS (l ++ b :: t) = oneS l := by
  obtain ⟨i1, i2, i3⟩ := hb
  match l, hn with
  | [], hn => exact absurd rfl hn
  | c :: r, hn =>
    have hw := while_ahead innerB (c :: r) b t i1
    have hwl := while_le innerB (c :: r)
    have hd1 : (r ++ b :: t).head?.map digitB = some true ↔ r.head?.map digitB = some true := by
      cases r <;> simp [i2]
    have hN : numLen (c :: (r ++ b :: t)) = numLen (c :: r) := by
      unfold numLen
      have e : (c :: (r ++ b :: t)).drop 1 = r ++ b :: t := rfl
      have e2 : (c :: r).drop 1 = r := rfl
      rw [e, e2, while_ahead digitB r b t i2, show c :: (r ++ b :: t) = (c :: r) ++ b :: t from rfl, while_ahead digitB (c :: r) b t i2]
      rfl
    have hS : signLen (c :: (r ++ b :: t)) = signLen (c :: r) := by
      unfold signLen
      cases r with
      | nil => simp [i3]
      | cons d r => rfl
    have hnum : ∀ y, numberS (c :: r) = some y → numberS (c :: (r ++ b :: t)) = some y := by
      intro y h
      have hle := numLen_le (c :: r)
      have htk : (c :: (r ++ b :: t)).take (numLen (c :: r)) = (c :: r).take (numLen (c :: r)) := take_ahead (c :: r) (b :: t) _ hle
      unfold numberS at h ⊢
      rw [hN, htk]
      split at h
      · rename_i v hv
        split at h
        · rename_i h2
          rw [if_pos (And.intro h2.1 ?_)]
          · first | exact h | skip
          · rcases Nat.lt_or_ge (numLen (c :: r)) (c :: r).length with hl | hl
            · rw [show c :: (r ++ b :: t) = (c :: r) ++ b :: t from rfl, List.getElem?_append_left hl]
              exact h2.2
            · rw [show c :: (r ++ b :: t) = (c :: r) ++ b :: t from rfl, List.getElem?_append_right hl, show numLen (c :: r) - (c :: r).length = 0 by omega]
              simp [i1]
        · cases h
      · cases h
    have htx : ∀ y, textS (c :: r) = some y → textS (c :: (r ++ b :: t)) = some y := by
      intro y h
      unfold textS at h ⊢
      rw [show (c :: r).drop 1 = r from rfl] at h
      rw [show (c :: (r ++ b :: t)).drop 1 = r ++ b :: t from rfl]
      cases hq : textFrom [] 1 r with
      | none => rw [hq] at h; cases h
      | some z => rw [hq] at h; rw [textFrom_ahead r [] 1 (b :: t) z hq]; exact h
    rw [List.cons_append] at hw ⊢
    unfold oneS at hn ⊢
    dsimp only at hn ⊢
    rw [hw, hS, take_ahead (c :: r) (b :: t) _ hwl |> fun e => (show (c :: (r ++ b :: t)).take _ = _ from e), take_ahead (c :: r) (b :: t) _ (signLen_le (c :: r)).1 |> fun e => (show (c :: (r ++ b :: t)).take _ = _ from e)]
    by_cases h1 : letterB c = true
    · rw [if_pos h1, if_pos h1]
    · rw [if_neg h1] at hn
      rw [if_neg h1, if_neg h1]
      by_cases h2 : c.toNat = 34
      · rw [if_pos h2] at hn
        rw [if_pos h2, if_pos h2]
        cases hq : textS (c :: r) with
        | none => rw [hq] at hn; exact absurd rfl hn
        | some y => rw [htx y hq]
      · rw [if_neg h2] at hn
        rw [if_neg h2, if_neg h2]
        by_cases h3 : digitB c = true ∨ (c.toNat = 45 ∧ r.head?.map digitB = some true)
        · rw [if_pos h3] at hn
          rw [if_pos h3, if_pos (h3.imp_right fun h => ⟨h.1, hd1.2 h.2⟩)]
          cases hq : numberS (c :: r) with
          | none => rw [hq] at hn; exact absurd rfl hn
          | some y => rw [hnum y hq]
        · rw [if_neg h3, if_neg (fun h => h3 (h.imp_right fun h => ⟨h.1, hd1.1 h.2⟩))]
theorem one_ahead (l : Bytes) (b : UInt8) (t : Bytes) (hb : blankB b = true) (hn : (oneS l).2 ≠ 0) : oneS (l ++ b :: t) = oneS l := one_ends l b t (blank_facts hb) hn

def strip (t : Tok) : Tok := { t with at_ := 0 }
theorem lexGo_ends : ∀ (k a : Nat) (r : Bytes) (acc xs : List Tok), lexGo k a r acc = (xs, 0, 0) → r.length < k →
    ∀ (b : UInt8) (t : Bytes) (k' a' : Nat) (acc' : List Tok), TokEnd b → (r ++ b :: t).length < k' →
      ∃ us vs k'' a'', lexGo k' a' (r ++ b :: t) acc' = lexGo k'' a'' (b :: t) (acc' ++ us) ∧ (b :: t).length < k'' ∧ xs = acc ++ vs ∧ us.map strip = vs.map strip
  | 0, _, _, _, _, _, hk => by omega
  | k + 1, a, r, acc, xs, h, hk => by
    intro b t k' a' acc' hb hk'
    match r, h, hk, hk' with
    | [], h, _, hk' =>
      have : xs = acc := by
        have : lexGo (k + 1) a [] acc = (acc, 0, 0) := rfl
        rw [this] at h
        exact (Prod.mk.inj h).1.symm
      exact ⟨[], [], k', a', by simp, by simpa using hk', by simp [this], rfl⟩
    | c :: r, h, hk, hk' =>
      simp only [List.length_cons, List.length_append] at hk hk'
      match k', hk' with
      | k' + 1, hk' =>
        unfold lexGo at h
        dsimp only at h
        by_cases hc : blankB c = true
        · rw [if_pos hc] at h
          obtain ⟨us, vs, k2, a2, h1, h2, h3, h4⟩ := lexGo_ends k _ r acc xs h (by omega) b t k' (a' + 1) acc' hb (by simp; omega)
          refine ⟨us, vs, k2, a2, ?_, h2, h3, h4⟩
          rw [← h1, List.cons_append]
          show (if blankB c then _ else _) = _
          rw [if_pos hc]
        · rw [if_neg hc] at h
          by_cases hn : (oneS (c :: r)).2 = 0
          · rw [if_pos hn] at h
            simp at h
          · rw [if_neg hn] at h
            have hle := oneS_le (c :: r)
            have ho := one_ends (c :: r) b t hb hn
            obtain ⟨us, vs, k2, a2, h1, h2, h3, h4⟩ := lexGo_ends k _ _ _ xs h (by rw [List.length_drop, List.length_cons]; omega) b t k' (a' + (oneS (c :: r)).2) (acc' ++ [{ (oneS (c :: r)).1 with at_ := a' }]) hb (by rw [List.length_append, List.length_drop]; simp only [List.length_cons]; omega)
            refine ⟨{ (oneS (c :: r)).1 with at_ := a' } :: us, { (oneS (c :: r)).1 with at_ := a } :: vs, k2, a2, ?_, h2, by rw [h3]; simp, by simp [h4, strip]⟩
            rw [show acc' ++ { (oneS (c :: r)).1 with at_ := a' } :: us = (acc' ++ [{ (oneS (c :: r)).1 with at_ := a' }]) ++ us by simp, ← h1]
            rw [List.cons_append] at ho ⊢
            show (if blankB c then _ else if (oneS (c :: (r ++ b :: t))).2 = 0 then _ else lexGo k' (a' + (oneS (c :: (r ++ b :: t))).2) ((c :: (r ++ b :: t)).drop (oneS (c :: (r ++ b :: t))).2) (acc' ++ [{ (oneS (c :: (r ++ b :: t))).1 with at_ := a' }])) = _
            rw [if_neg hc, ho, if_neg hn, show c :: (r ++ b :: t) = (c :: r) ++ b :: t from rfl, List.drop_append_of_le_length hle]
theorem lexGo_ahead (k a : Nat) (r : Bytes) (acc xs : List Tok) (h : lexGo k a r acc = (xs, 0, 0)) (hk : r.length < k) (b : UInt8) (t : Bytes) (k' a' : Nat) (acc' : List Tok) (hb : blankB b = true) (hk' : (r ++ b :: t).length < k') :
      ∃ us vs k'' a'', lexGo k' a' (r ++ b :: t) acc' = lexGo k'' a'' (b :: t) (acc' ++ us) ∧ (b :: t).length < k'' ∧ xs = acc ++ vs ∧ us.map strip = vs.map strip := lexGo_ends k a r acc xs h hk b t k' a' acc' (blank_facts hb) hk'
theorem lexGo_blanks : ∀ (B : Bytes) (k a : Nat) (rest : Bytes) (acc : List Tok), (∀ c ∈ B, blankB c = true) → (B ++ rest).length < k → ∃ k', lexGo k a (B ++ rest) acc = lexGo k' (a + B.length) rest acc ∧ rest.length < k'
  | [], k, a, rest, acc, _, hk => ⟨k, by simp, by simpa using hk⟩
  | c :: B, k, a, rest, acc, hB, hk => by
    match k, hk with
    | k + 1, hk =>
      simp only [List.length_cons, List.length_append] at hk
      obtain ⟨k', h1, h2⟩ := lexGo_blanks B k (a + 1) rest acc (fun x hx => hB x (by simp [hx])) (by simp; omega)
      refine ⟨k', ?_, h2⟩
      rw [List.cons_append]
      show (if blankB c then lexGo k (a + 1) (B ++ rest) acc else _) = _
      rw [if_pos (hB c (by simp)), h1]
      congr 1
      simp; omega
theorem lex_blanks (B s t : Bytes) (xs ys : List Tok) (hB : ∀ c ∈ B, blankB c = true) (hne : B ≠ []) (hs : lexS s = (xs, 0, 0)) (ht : lexS t = (ys, 0, 0)) (hl : (B ++ s ++ B ++ t ++ B).length ≤ 2048) :
    ∃ zs, lexS (B ++ s ++ B ++ t ++ B) = (zs, 0, 0) ∧ zs.map strip = (xs ++ ys).map strip := by
  obtain ⟨b, C, rfl⟩ : ∃ b C, B = b :: C := by
    cases B with
    | nil => exact absurd rfl hne
    | cons b C => exact ⟨b, C, rfl⟩
  have hb := hB b (by simp)
  have hs' : lexGo (s.length + 1) 0 s [] = (xs, 0, 0) := by
    unfold lexS at hs
    split at hs
    · simp at hs
    · exact hs
  have ht' : lexGo (t.length + 1) 0 t [] = (ys, 0, 0) := by
    unfold lexS at ht
    split at ht
    · simp at ht
    · exact ht
  unfold lexS
  rw [if_neg (by omega)]
  generalize hK : (b :: C ++ s ++ b :: C ++ t ++ b :: C).length + 1 = K
  have hK' : (b :: C ++ s ++ b :: C ++ t ++ b :: C).length < K := by omega
  have e : b :: C ++ s ++ b :: C ++ t ++ b :: C = (b :: C) ++ (s ++ b :: (C ++ (t ++ b :: C))) := by simp
  rw [e] at hK' ⊢
  obtain ⟨k1, h1, g1⟩ := lexGo_blanks (b :: C) K 0 (s ++ b :: (C ++ (t ++ b :: C))) [] hB hK'
  obtain ⟨us, vs, k2, a2, h2, g2, x2, m2⟩ := lexGo_ahead _ _ s [] xs hs' (by omega) b (C ++ (t ++ b :: C)) k1 _ [] hb g1
  obtain ⟨k3, h3, g3⟩ := lexGo_blanks (b :: C) k2 a2 (t ++ b :: C) ([] ++ us) hB (by simpa using g2)
  obtain ⟨us2, vs2, k4, a4, h4, g4, x4, m4⟩ := lexGo_ahead _ _ t [] ys ht' (by omega) b C k3 _ ([] ++ us) hb g3
  obtain ⟨k5, h5, g5⟩ := lexGo_blanks (b :: C) k4 a4 [] ([] ++ us ++ us2) hB (by simpa using g4)
  refine ⟨us ++ us2, ?_, ?_⟩
  · rw [h1, h2]
    rw [show b :: (C ++ (t ++ b :: C)) = (b :: C) ++ (t ++ b :: C) from rfl, h3, h4]
    rw [List.append_nil] at h5
    rw [h5]
    cases k5 <;> simp [lexGo]
  · rw [x2, x4]
    simp [m2, m4]
end Go.Proofs.YtlonkcmkgmbkcaaDoor.LexS
