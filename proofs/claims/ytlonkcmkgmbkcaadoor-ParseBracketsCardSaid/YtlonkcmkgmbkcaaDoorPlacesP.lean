/- What holds of the plain lexer's tokens and their places. -/
import Derived.Test.YtlonkcmkgmbkcaaDoorLexSpec
namespace Go.Proofs.YtlonkcmkgmbkcaaDoor.LexS

theorem oneS_word (l : Bytes) (h : (oneS l).2 ≠ 0) : (((oneS l).1.kind = 1 ∨ (oneS l).1.kind = 4) ∧ (oneS l).1.s = l.take (oneS l).2) ∨ (oneS l).1.kind = 2 ∨ (oneS l).1.kind = 3 := by
  unfold oneS at h ⊢
  split at h
  · exact absurd rfl h
  · rename_i c r
    split
    · split
      · exact .inl ⟨.inl rfl, rfl⟩
      · rename_i h1 h2
        rw [if_pos h1, if_neg h2] at h
        exact absurd rfl h
    · rename_i h1
      rw [if_neg h1] at h
      split
      · rename_i h2
        rw [if_pos h2] at h
        split
        · exact .inr (.inr rfl)
        · rename_i h3
          rw [h3] at h
          exact absurd rfl h
      · rename_i h2
        rw [if_neg h2] at h
        split
        · rename_i h3
          rw [if_pos h3] at h
          split
          · exact .inr (.inl rfl)
          · rename_i h4
            rw [h4] at h
            exact absurd rfl h
        · rename_i h3
          rw [if_neg h3] at h
          split
          · rename_i h4
            rw [if_pos h4] at h
            exact absurd rfl h
          · exact .inl ⟨.inr rfl, rfl⟩

def Good (L : Bytes) (x : List Tok) (a : Nat) : Prop :=
  ∀ (i : Nat) (t : Tok), x[i]? = some t → t.at_ < a ∧ (∀ (j : Nat) (u : Tok), j < i → x[j]? = some u → u.at_ < t.at_) ∧ 1 ≤ t.kind ∧ t.kind ≤ 4 ∧
    (t.kind = 1 ∨ t.kind = 4 → t.at_ + t.s.length ≤ L.length ∧ (L.drop t.at_).take t.s.length = t.s)
theorem Good.mono {L : Bytes} {x : List Tok} {a b : Nat} (h : Good L x a) (hab : a ≤ b) : Good L x b :=
  fun i t hi => let ⟨h1, h2⟩ := h i t hi; ⟨Nat.lt_of_lt_of_le h1 hab, h2⟩
theorem Good.add {L : Bytes} {x : List Tok} {a : Nat} (h : Good L x a) (ha : a ≤ L.length) (hn : (oneS (L.drop a)).2 ≠ 0) :
    Good L (x ++ [{ (oneS (L.drop a)).1 with at_ := a }]) (a + (oneS (L.drop a)).2) := by
  intro i t hi
  rw [List.getElem?_append] at hi
  split at hi
  · rename_i hlt
    obtain ⟨h1, h2, h3⟩ := h i t hi
    refine ⟨by omega, fun j u hj hu => ?_, h3⟩
    rw [List.getElem?_append_left (by omega)] at hu
    exact h2 j u hj hu
  · rename_i hlt
    have hi0 : i - x.length = 0 := by
      rcases Nat.eq_zero_or_pos (i - x.length) with h0 | h0
      · exact h0
      · rw [List.getElem?_eq_none (by simp; omega)] at hi; cases hi
    rw [hi0] at hi
    simp only [List.getElem?_cons_zero, Option.some.injEq] at hi
    subst hi
    have hw := oneS_word _ hn
    have hle := oneS_le (L.drop a)
    rw [List.length_drop] at hle
    refine ⟨by dsimp only; omega, fun j u hj hu => ?_, ?_, ?_, fun hk => ?_⟩
    · rw [List.getElem?_append_left (by omega)] at hu
      exact (h j u hu).1
    · dsimp only
      rcases hw with ⟨h1 | h1, _⟩ | h1 | h1 <;> omega
    · dsimp only
      rcases hw with ⟨h1 | h1, _⟩ | h1 | h1 <;> omega
    · dsimp only at hk ⊢
      rcases hw with ⟨_, hs⟩ | h1 | h1
      · have hlen : (oneS (L.drop a)).1.s.length = (oneS (L.drop a)).2 := by rw [hs, List.length_take, List.length_drop]; omega
        refine ⟨by omega, ?_⟩
        rw [hlen, ← hs]
      · omega
      · omega
theorem lexGo_good (L : Bytes) : ∀ (k a : Nat) (rest : Bytes) (acc : List Tok), rest = L.drop a → a ≤ L.length → Good L acc a → rest.length < k →
    ((lexGo k a rest acc).2.2 = 0 ∧ (lexGo k a rest acc).2.1 = 0 ∧ Good L (lexGo k a rest acc).1 L.length) ∨
    ((lexGo k a rest acc).2.2 = 110 ∧ (lexGo k a rest acc).1 = [] ∧ (lexGo k a rest acc).2.1 ≤ L.length)
  | 0, _, _, _, _, _, _, h => by omega
  | k + 1, a, rest, acc, hr, ha, hg, hk => by
    unfold lexGo
    match rest, hr, hk with
    | [], hr, hk => exact .inl ⟨rfl, rfl, hg.mono ha⟩
    | c :: r, hr, hk =>
      have hlt : a < L.length := by
        have := congrArg List.length hr
        rw [List.length_drop, List.length_cons] at this
        omega
      have hr2 : r = L.drop (a + 1) := by
        rw [← List.drop_drop, ← hr]; rfl
      dsimp only
      simp only [List.length_cons] at hk
      split
      · exact lexGo_good L k (a + 1) r acc hr2 hlt (hg.mono (by omega)) (by omega)
      · split
        · exact .inr ⟨rfl, rfl, ha⟩
        · rename_i hn
          have hle := oneS_le (c :: r)
          rw [hr] at hn hle ⊢
          rw [List.length_drop] at hle
          refine lexGo_good L k _ _ _ (by rw [List.drop_drop]) (by omega) (hg.add ha hn) ?_
          rw [List.length_drop, List.length_drop]
          have := congrArg List.length hr
          rw [List.length_drop, List.length_cons] at this
          omega
theorem lexS_good (L : Bytes) : ((lexS L).2.2 = 0 ∧ (lexS L).2.1 = 0 ∧ Good L (lexS L).1 L.length) ∨ ((lexS L).2.2 ≠ 0 ∧ (lexS L).1 = [] ∧ (lexS L).2.1 ≤ L.length) := by
  unfold lexS
  split
  · exact .inr ⟨by simp, rfl, Nat.zero_le _⟩
  · rcases lexGo_good L (L.length + 1) 0 L [] (by simp) (Nat.zero_le _) (fun i t h => by simp at h) (by omega) with h | ⟨h1, h2, h3⟩
    · exact .inl h
    · exact .inr ⟨by omega, h2, h3⟩
theorem lexS_small (L : Bytes) (h : (lexS L).2.2 = 0) : L.length ≤ 2048 := by
  unfold lexS at h
  split at h
  · simp at h
  · omega
end Go.Proofs.YtlonkcmkgmbkcaaDoor.LexS
