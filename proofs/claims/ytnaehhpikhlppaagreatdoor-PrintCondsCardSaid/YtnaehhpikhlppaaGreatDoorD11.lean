/- Several texts of the proof, joined. -/
import Derived.Test.YtnaehhpikhlppaaGreatDoorD10
set_option maxHeartbeats 4000000
set_option linter.unusedVariables false
set_option linter.unusedSimpArgs false
namespace Go.Proofs.YtnaehhpikhlppaaGreatDoor.ParS
open LexS

/-- How many bytes a piece has: it ends where a blank stands outside of texts. -/
def cutGo : Bool → Bytes → Nat
  | _, [] => 0
  | true, [c] => if c.toNat = 92 then 2 else 1
  | true, c :: d :: r => if c.toNat = 92 then cutGo true r + 2 else if c.toNat = 34 then cutGo false (d :: r) + 1 else cutGo true (d :: r) + 1
  | false, c :: r => if c.toNat = 32 then 0 else if c.toNat = 34 then cutGo true r + 1 else cutGo false r + 1
theorem cut_plain : ∀ (l X : Bytes), (∀ c ∈ l, c.toNat ≠ 32 ∧ c.toNat ≠ 34) → cutGo false (l ++ X) = l.length + cutGo false X
  | [], X, _ => by simp
  | c :: r, X, h => by
    have hc := h c (by simp)
    rw [List.cons_append, cutGo, if_neg hc.1, if_neg hc.2, cut_plain r X fun d hd => h d (by simp [hd]), List.length_cons]
    omega
theorem cut_true_cons (c d : UInt8) (r : Bytes) : cutGo true (c :: d :: r) = if c.toNat = 92 then cutGo true r + 2 else if c.toNat = 34 then cutGo false (d :: r) + 1 else cutGo true (d :: r) + 1 := by rw [cutGo]
theorem cut_body : ∀ (l X : Bytes), cutGo true (l.flatMap esc ++ 34 :: X) = (l.flatMap esc).length + 1 + cutGo false X
  | [], X => by
    show cutGo true (34 :: X) = 0 + 1 + cutGo false X
    cases X with
    | nil => rfl
    | cons d r => rw [cut_true_cons, if_neg (by decide), if_pos (by decide)]; omega
  | c :: r, X => by
    have ih := cut_body r X
    rw [List.flatMap_cons]
    unfold esc
    by_cases h : c.toNat = 34 ∨ c.toNat = 92
    · rw [if_pos h]
      show cutGo true (92 :: c :: (r.flatMap esc ++ 34 :: X)) = ([92, c] ++ r.flatMap esc).length + 1 + cutGo false X
      rw [cut_true_cons, if_pos (by decide), ih]
      simp
      omega
    · rw [if_neg h]
      obtain ⟨d, s, e⟩ : ∃ d s, r.flatMap esc ++ 34 :: X = d :: s := by
        cases r.flatMap esc with
        | nil => exact ⟨_, _, rfl⟩
        | cons d s => exact ⟨_, _, rfl⟩
      show cutGo true (c :: (r.flatMap esc ++ 34 :: X)) = ([c] ++ r.flatMap esc).length + 1 + cutGo false X
      rw [e, cut_true_cons, if_neg (by omega), if_neg (by omega), ← e, ih]
      simp
      omega
theorem cut_quote (l X : Bytes) : cutGo false (quoteS l ++ X) = (quoteS l).length + cutGo false X := by
  have e : quoteS l ++ X = 34 :: (l.flatMap esc ++ 34 :: X) := by unfold quoteS; simp
  rw [e, cutGo, if_neg (by decide), if_pos (by decide), cut_body]
  unfold quoteS
  simp
  omega
/-! What a token's text is like. -/
theorem while_full (p : UInt8 → Bool) : ∀ (l : Bytes), while_ p l = l.length → ∀ c ∈ l, p c = true
  | [], _, _, h => by cases h
  | d :: r, h, c, hc => by
    by_cases hd : p d = true
    · have e : while_ p (d :: r) = while_ p r + 1 := by show (if p d then while_ p r + 1 else 0) = _; rw [if_pos hd]
      rw [e, List.length_cons] at h
      rcases List.mem_cons.1 hc with rfl | hc
      · exact hd
      · exact while_full p r (by omega) c hc
    · have e : while_ p (d :: r) = 0 := by show (if p d then while_ p r + 1 else 0) = _; rw [if_neg hd]
      rw [e, List.length_cons] at h
      omega
theorem inner_free {c : UInt8} (h : innerB c = true) : c.toNat ≠ 32 ∧ c.toNat ≠ 34 := by
  simp [innerB, letterB, digitB] at h
  omega
theorem digit_free {c : UInt8} (h : digitB c = true) : c.toNat ≠ 32 ∧ c.toNat ≠ 34 := by
  simp [digitB] at h
  omega
theorem lexT_cases {t : Tk} (h : LexT t) : (t.kind = 3 ∧ t.s.length ≤ 64) ∨ ((∀ c ∈ oneT t, c.toNat ≠ 32 ∧ c.toNat ≠ 34) ∧ (oneT t).length ≤ 130) := by
  obtain ⟨h1, c, r, h2, _⟩ := h
  rw [h2] at h1 ⊢
  unfold oneS at h1
  dsimp only at h1
  by_cases hl : letterB c = true
  · rw [if_pos hl] at h1
    by_cases hw : while_ innerB (c :: r) ≤ 24
    · rw [if_pos hw] at h1
      have e := (Prod.mk.inj h1).2
      exact .inr ⟨fun d hd => inner_free (while_full innerB _ e d hd), by omega⟩
    · rw [if_neg hw] at h1
      have := (Prod.mk.inj h1).2
      simp at this
  · rw [if_neg hl] at h1
    by_cases hq : c.toNat = 34
    · rw [if_pos hq] at h1
      rcases hx : textS (c :: r) with _ | ⟨s, n⟩
      · rw [hx] at h1
        have := (Prod.mk.inj h1).2
        simp at this
      · rw [hx] at h1
        have e := (Prod.mk.inj h1).1
        simp only [Tok.mk.injEq] at e
        have hb := (textS_bd (by simp) hx).2.2
        exact .inl ⟨e.1.symm, by rw [← e.2.1]; exact hb⟩
    · rw [if_neg hq] at h1
      by_cases hd : digitB c = true ∨ (c.toNat = 45 ∧ r.head?.map digitB = some true)
      · rw [if_pos hd] at h1
        rcases hx : numberS (c :: r) with _ | ⟨v, n⟩
        · rw [hx] at h1
          have := (Prod.mk.inj h1).2
          simp at this
        · rw [hx] at h1
          have en := (Prod.mk.inj h1).2
          unfold numberS at hx
          split at hx
          · rename_i v' ha
            split at hx
            · rename_i hi
              simp only [Option.some.injEq, Prod.mk.injEq] at hx
              obtain ⟨rfl, rfl⟩ := hx
              rw [en, List.take_of_length_le (Nat.le_refl _)] at hi ha
              obtain ⟨v0, v1⟩ := Lib.atoiAll_bounds ha
              have hs := itoa_small v' v0 v1
              rw [hi.1] at hs
              refine .inr ⟨fun d hdm => ?_, by omega⟩
              unfold numLen at en
              by_cases h45 : c.toNat = 45
              · rw [if_pos (by simp [h45])] at en
                have e2 : while_ digitB r = r.length := by
                  have : (c :: r).drop 1 = r := rfl
                  rw [this, List.length_cons] at en
                  omega
                rcases List.mem_cons.1 hdm with rfl | hdm
                · omega
                · exact digit_free (while_full digitB r e2 d hdm)
              · rw [if_neg (by simp [h45])] at en
                exact digit_free (while_full digitB _ en d hdm)
            · cases hx
          · cases hx
      · rw [if_neg hd] at h1
        by_cases hs : signLen (c :: r) = 0
        · rw [if_pos hs] at h1
          have := (Prod.mk.inj h1).2
          simp at this
        · rw [if_neg hs] at h1
          have en := (Prod.mk.inj h1).2
          have h2' := (signLen_le (c :: r)).2
          refine .inr ⟨?_, by omega⟩
          have hc : c.toNat ≠ 32 ∧ c.toNat ≠ 34 := by
            refine ⟨?_, hq⟩
            intro e
            apply hs
            simp [signLen, e]
          cases r with
          | nil =>
            intro d hdm
            rw [List.mem_singleton] at hdm
            subst hdm
            exact hc
          | cons x r =>
            cases r with
            | nil =>
              intro d hdm
              rcases List.mem_cons.1 hdm with rfl | hdm
              · exact hc
              · rw [List.mem_singleton] at hdm
                subst hdm
                simp only [signLen] at en
                split at en
                · rename_i h
                  have h61 : d.toNat = 61 := by simpa using h.1
                  omega
                · split at en <;> simp at en
            | cons y r => simp at en; omega
theorem lexT_cut {t : Tk} (h : LexT t) (X : Bytes) : cutGo false (oneT t ++ X) = (oneT t).length + cutGo false X := by
  rcases lexT_cases h with ⟨h1, _⟩ | ⟨h1, _⟩
  · have e : oneT t = quoteS t.s := by unfold oneT; rw [if_neg (by omega), if_pos h1]
    rw [e]
    exact cut_quote _ _
  · exact cut_plain _ _ h1
theorem lexT_small {t : Tk} (h : LexT t) : (oneT t).length ≤ 130 := by
  rcases lexT_cases h with ⟨h1, h2⟩ | ⟨_, h2⟩
  · have e : oneT t = quoteS t.s := by unfold oneT; rw [if_neg (by omega), if_pos h1]
    rw [e]
    have := quote_len t.s
    omega
  · exact h2
/-! The tokens of a piece: those that follow without a blank; and those that are left. -/
def joinR : Tk → List Tk → List Tk
  | _, [] => []
  | p, t :: r => if (opens p || closes t) = true then t :: joinR t r else []
def leftR : Tk → List Tk → List Tk
  | _, [] => []
  | p, t :: r => if (opens p || closes t) = true then leftR t r else t :: r
theorem join_left : ∀ (p : Tk) (r : List Tk), joinR p r ++ leftR p r = r
  | _, [] => rfl
  | p, t :: r => by
    unfold joinR leftR
    by_cases h : (opens p || closes t) = true
    · rw [if_pos h, if_pos h, List.cons_append, join_left t r]
    · rw [if_neg h, if_neg h, List.nil_append]
/-- What stands behind a piece. -/
def restT (l : List Tk) : Bytes := match l with | [] => [] | _ => 32 :: spell l
theorem restT_cons (t : Tk) (l : List Tk) : restT (t :: l) = 32 :: spell (t :: l) := rfl
theorem spellR_split : ∀ (p : Tk) (r : List Tk), spellR p r = spellR p (joinR p r) ++ restT (leftR p r)
  | _, [] => rfl
  | p, t :: r => by
    have ih := spellR_split t r
    unfold joinR leftR
    by_cases h : (opens p || closes t) = true
    · rw [if_pos h, if_pos h]
      show gapT p t ++ oneT t ++ spellR t r = gapT p t ++ oneT t ++ spellR t (joinR t r) ++ _
      rw [ih]
      simp
    · rw [if_neg h, if_neg h]
      show gapT p t ++ oneT t ++ spellR t r = [] ++ restT (t :: r)
      rw [restT_cons]
      unfold gapT
      rw [if_neg h]
      rfl
theorem cut_rest (l : List Tk) : cutGo false (restT l) = 0 := by
  cases l with
  | nil => rfl
  | cons t l => rw [restT_cons, cutGo, if_pos (by decide)]
theorem cut_join : ∀ (r : List Tk) (p : Tk), (∀ t ∈ p :: r, LexT t) → ∀ X, cutGo false (oneT p ++ spellR p (joinR p r) ++ X) = (oneT p ++ spellR p (joinR p r)).length + cutGo false X
  | [], p, h, X => by
    show cutGo false (oneT p ++ [] ++ X) = (oneT p ++ []).length + _
    rw [List.append_nil]
    exact lexT_cut (h p (by simp)) X
  | t :: r, p, h, X => by
    have ih := cut_join r t (fun x hx => h x (by simp at hx ⊢; exact .inr hx)) X
    have hp := lexT_cut (h p (by simp))
    unfold joinR
    by_cases hg : (opens p || closes t) = true
    · rw [if_pos hg]
      have e : spellR p (t :: joinR t r) = oneT t ++ spellR t (joinR t r) := by
        show gapT p t ++ oneT t ++ spellR t (joinR t r) = _
        unfold gapT
        rw [if_pos hg, List.nil_append]
      rw [e, List.append_assoc, hp, ih]
      simp only [List.length_append]
      omega
    · rw [if_neg hg]
      show cutGo false (oneT p ++ [] ++ X) = (oneT p ++ []).length + _
      rw [List.append_nil]
      exact hp X
theorem closes_one {t : Tk} (h : closes t = true) : (oneT t).length = 1 ∧ opens t = false := by
  have h1 : t.kind = 4 ∧ (t.s = kw_comma ∨ t.s = kw_shut) := by simpa [closes] using h
  have h2 : oneT t = t.s := by unfold oneT; rw [if_neg (by omega), if_neg (by omega)]
  rw [h2]
  rcases h1.2 with e | e <;> rw [e] <;> refine ⟨rfl, ?_⟩ <;> simp [opens, e, kw_comma, kw_shut, kw_open]
theorem opens_one {t : Tk} (h : opens t = true) : (oneT t).length = 1 := by
  have h1 : t.kind = 4 ∧ t.s = kw_open := by simpa [opens] using h
  have h2 : oneT t = t.s := by unfold oneT; rw [if_neg (by omega), if_neg (by omega)]
  rw [h2, h1.2]
  rfl
theorem join_len : ∀ (r : List Tk) (p : Tk), (∀ t ∈ p :: r, LexT t) → (oneT p ++ spellR p (joinR p r)).length ≤ 130 + r.length ∧ (closes p = true → (oneT p ++ spellR p (joinR p r)).length ≤ 1 + r.length)
  | [], p, h => by
    have hp := lexT_small (h p (by simp))
    show (oneT p ++ []).length ≤ 130 + 0 ∧ (_ → (oneT p ++ []).length ≤ 1 + 0)
    rw [List.append_nil]
    exact ⟨by omega, fun hc => by have := (closes_one hc).1; omega⟩
  | t :: r, p, h => by
    have hp := lexT_small (h p (by simp))
    obtain ⟨i1, i2⟩ := join_len r t (fun x hx => h x (by simp at hx ⊢; exact .inr hx))
    unfold joinR
    by_cases hg : (opens p || closes t) = true
    · rw [if_pos hg]
      have e : spellR p (t :: joinR t r) = oneT t ++ spellR t (joinR t r) := by
        show gapT p t ++ oneT t ++ spellR t (joinR t r) = _
        unfold gapT
        rw [if_pos hg, List.nil_append]
      rw [e, List.length_append, List.length_cons]
      rw [Bool.or_eq_true] at hg
      refine ⟨?_, fun hc => ?_⟩
      · rcases hg with hg | hg
        · have := opens_one hg
          omega
        · have := i2 hg
          omega
      · obtain ⟨c1, c2⟩ := closes_one hc
        rw [c2] at hg
        rcases hg with hg | hg
        · cases hg
        · have := i2 hg
          omega
    · rw [if_neg hg]
      show (oneT p ++ []).length ≤ _ ∧ (_ → (oneT p ++ []).length ≤ _)
      rw [List.append_nil, List.length_cons]
      exact ⟨by omega, fun hc => by have := (closes_one hc).1; omega⟩
/-- The first piece of a printed text. -/
theorem piece_at {p : Tk} {r : List Tk} (h : ∀ t ∈ p :: r, LexT t) (hn : (p :: r).length ≤ 1024) : ∃ (one : Bytes) (xs : List Tok), spell (p :: r) = one ++ restT (leftR p r) ∧ cutGo false (spell (p :: r)) = one.length ∧ 0 < one.length ∧ one.length ≤ 2048 ∧ lexS one = (xs, 0, 0) ∧ xs.map tk = p :: joinR p r := by
  have e : spell (p :: r) = (oneT p ++ spellR p (joinR p r)) ++ restT (leftR p r) := by
    show oneT p ++ spellR p r = _
    rw [List.append_assoc, ← spellR_split]
  have hl := (join_len r p h).1
  rw [List.length_cons] at hn
  have hsub : ∀ t ∈ p :: joinR p r, LexT t := by
    intro t ht
    refine h t ?_
    rcases List.mem_cons.1 ht with rfl | ht
    · simp
    · rw [← join_left p r]
      simp [ht]
  have h2048 : (oneT p ++ spellR p (joinR p r)).length ≤ 2048 := by omega
  obtain ⟨xs, x1, x2⟩ := lex_spell hsub h2048
  refine ⟨oneT p ++ spellR p (joinR p r), xs, e, ?_, ?_, h2048, x1, x2⟩
  · rw [e, cut_join r p h, cut_rest, Nat.add_zero]
  · obtain ⟨_, c, s, es, _⟩ := h p (by simp)
    rw [es]
    simp
end Go.Proofs.YtnaehhpikhlppaaGreatDoor.ParS

namespace Go.Proofs.YtnaehhpikhlppaaGreatDoor.ParS
open LexS

/-- The last of a token and those behind it. -/
def lastK : Tk → List Tk → Tk
  | p, [] => p
  | _, t :: r => lastK t r
theorem lastK_app : ∀ (l : List Tk) (p t : Tk) (r : List Tk), lastK p (l ++ t :: r) = lastK t r
  | [], _, _, _ => rfl
  | x :: l, _, t, r => lastK_app l x t r
theorem spellR_app : ∀ (l : List Tk) (p t : Tk) (r : List Tk), spellR p (l ++ t :: r) = spellR p l ++ (gapT (lastK p l) t ++ spell (t :: r))
  | [], p, t, r => by
    show gapT p t ++ oneT t ++ spellR t r = [] ++ (gapT p t ++ (oneT t ++ spellR t r))
    simp
  | x :: l, p, t, r => by
    show gapT p x ++ oneT x ++ spellR x (l ++ t :: r) = gapT p x ++ oneT x ++ spellR x l ++ _
    rw [spellR_app l x t r]
    simp [lastK]
/-- Tokens that stand between blanks. -/
def Mid (l : List Tk) : Prop := ∃ p r, l = p :: r ∧ closes p = false ∧ opens (lastK p r) = false
theorem mid_one {t : Tk} (h1 : closes t = false) (h2 : opens t = false) : Mid [t] := ⟨t, [], rfl, h1, h2⟩
theorem mid_wd (s : Bytes) : Mid [wd s] := mid_one rfl rfl
theorem mid_nm (n : Int) : Mid [nm n] := mid_one rfl rfl
theorem mid_tx (s : Bytes) : Mid [tx s] := mid_one rfl rfl
theorem Mid.app {a b : List Tk} (ha : Mid a) (hb : Mid b) : Mid (a ++ b) := by
  obtain ⟨p, r, rfl, h1, _⟩ := ha
  obtain ⟨t, u, rfl, _, h2⟩ := hb
  exact ⟨p, r ++ t :: u, rfl, h1, by rw [lastK_app]; exact h2⟩
theorem spell_two {a b : List Tk} (ha : Mid a) (hb : Mid b) : spell (a ++ b) = spell a ++ 32 :: spell b := by
  obtain ⟨p, r, rfl, _, h1⟩ := ha
  obtain ⟨t, u, rfl, h2, _⟩ := hb
  show oneT p ++ spellR p (r ++ t :: u) = oneT p ++ spellR p r ++ 32 :: spell (t :: u)
  rw [spellR_app]
  unfold gapT
  rw [if_neg (by rw [h1, h2]; simp)]
  simp
theorem Mid.comma {a b : List Tk} (ha : Mid a) (hb : Mid b) : Mid (a ++ sg kw_comma :: b) := by
  obtain ⟨p, r, rfl, h1, _⟩ := ha
  obtain ⟨t, u, rfl, _, h2⟩ := hb
  exact ⟨p, r ++ sg kw_comma :: t :: u, rfl, h1, by rw [lastK_app]; exact h2⟩
theorem spell_comma {a b : List Tk} (ha : Mid a) (hb : Mid b) : spell (a ++ sg kw_comma :: b) = spell a ++ 44 :: 32 :: spell b := by
  obtain ⟨p, r, rfl, _, h1⟩ := ha
  obtain ⟨t, u, rfl, h2, _⟩ := hb
  show oneT p ++ spellR p (r ++ sg kw_comma :: t :: u) = oneT p ++ spellR p r ++ 44 :: 32 :: spell (t :: u)
  rw [spellR_app]
  have e : spell (sg kw_comma :: t :: u) = 44 :: (gapT (sg kw_comma) t ++ spell (t :: u)) := by
    show [44] ++ (gapT (sg kw_comma) t ++ oneT t ++ spellR t u) = _
    rw [List.append_assoc]
    rfl
  rw [e]
  have g1 : gapT (lastK p r) (sg kw_comma) = [] := by
    unfold gapT
    rw [if_pos (by rw [show closes (sg kw_comma) = true from rfl, Bool.or_true])]
  have g2 : gapT (sg kw_comma) t = [32] := by
    unfold gapT
    rw [if_neg (by rw [h2, show opens (sg kw_comma) = false from rfl]; simp)]
  rw [g1, g2]
  simp
theorem Mid.brk {l : List Tk} (h : Mid l) : Mid ([sg kw_open] ++ l ++ [sg kw_shut]) := by
  obtain ⟨p, r, rfl, _, _⟩ := h
  refine ⟨sg kw_open, (p :: r) ++ [sg kw_shut], by simp, rfl, ?_⟩
  rw [lastK_app]
  rfl
theorem spell_brk {l : List Tk} (h : Mid l) : spell ([sg kw_open] ++ l ++ [sg kw_shut]) = 40 :: (spell l ++ [41]) := by
  obtain ⟨p, r, rfl, _, _⟩ := h
  have e : spell ([sg kw_open] ++ (p :: r) ++ [sg kw_shut]) = [40] ++ (gapT (sg kw_open) p ++ oneT p ++ spellR p (r ++ sg kw_shut :: [])) := by simp [spell, spellR]; rfl
  rw [e, spellR_app]
  have g1 : gapT (sg kw_open) p = [] := by
    unfold gapT
    rw [if_pos (by rw [show opens (sg kw_open) = true from rfl, Bool.true_or])]
  have g2 : gapT (lastK p r) (sg kw_shut) = [] := by
    unfold gapT
    rw [if_pos (by rw [show closes (sg kw_shut) = true from rfl, Bool.or_true])]
  rw [g1, g2]
  show [40] ++ ([] ++ oneT p ++ (spellR p r ++ ([] ++ [41]))) = 40 :: (oneT p ++ spellR p r ++ [41])
  simp
/-! The text of a condition. -/
def valB (v : Val) : Bytes := if v.kind = 1 then Lib.itoa v.n else if v.kind = 2 then quoteS v.s else if v.n = 1 then [116, 114, 117, 101] else [102, 97, 108, 115, 101]
def brkB (rank wanted : Nat) (l : Bytes) : Bytes := if rank < wanted then 40 :: (l ++ [41]) else l
def Cd.bodyB : Cd → Bytes
  | .cmp s n v => s ++ (32 :: (signW n ++ [32])) ++ valB v
  | .has s t => s ++ [32, 104, 97, 115, 32] ++ quoteS t
  | .not c => [110, 111, 116, 32] ++ brkB c.rank 3 c.bodyB
  | .and a b => brkB a.rank 2 a.bodyB ++ [32, 97, 110, 100, 32] ++ brkB b.rank 3 b.bodyB
  | .or a b => brkB a.rank 1 a.bodyB ++ [32, 111, 114, 32] ++ brkB b.rank 2 b.bodyB
def Cd.textB (w : Nat) (c : Cd) : Bytes := brkB c.rank w c.bodyB
theorem sign_mid {n : Nat} (h1 : 1 ≤ n) (h2 : n ≤ 6) : Mid [sg (signW n)] := by
  have : n = 1 ∨ n = 2 ∨ n = 3 ∨ n = 4 ∨ n = 5 ∨ n = 6 := by omega
  rcases this with rfl | rfl | rfl | rfl | rfl | rfl <;> exact mid_one (by decide) (by decide)
theorem one_wd (s : Bytes) : spell [wd s] = s := by show s ++ [] = s; simp
theorem one_sg (s : Bytes) : spell [sg s] = s := by show s ++ [] = s; simp
theorem one_nm (n : Int) : spell [nm n] = Lib.itoa n := by show Lib.itoa n ++ [] = _; simp
theorem one_tx (s : Bytes) : spell [tx s] = quoteS s := by show quoteS s ++ [] = _; simp
theorem val_mid {v : Val} (h : ValOk v) : Mid (valT v) ∧ spell (valT v) = valB v := by
  obtain ⟨k, n, s⟩ := v
  unfold ValOk at h
  dsimp only at h
  rcases h with ⟨rfl, rfl⟩ | ⟨rfl, rfl⟩ | ⟨rfl, rfl, rfl | rfl⟩
  · exact ⟨mid_nm n, one_nm n⟩
  · exact ⟨mid_tx s, one_tx s⟩
  · exact ⟨mid_wd _, one_wd _⟩
  · exact ⟨mid_wd _, one_wd _⟩
theorem brk_mid {l : List Tk} {b : Bytes} (rank wanted : Nat) (h : Mid l ∧ spell l = b) : Mid (brk rank wanted l) ∧ spell (brk rank wanted l) = brkB rank wanted b := by
  unfold brk brkB
  by_cases hr : rank < wanted
  · rw [if_pos hr, if_pos hr]
    exact ⟨h.1.brk, by rw [spell_brk h.1, h.2]⟩
  · rw [if_neg hr, if_neg hr]
    exact h
theorem body_mid : ∀ c : Cd, c.Ok → Mid c.body ∧ spell c.body = c.bodyB
  | .cmp s n v, ⟨_, h1, h2, hv⟩ => by
    obtain ⟨m, e⟩ := val_mid hv
    have m1 : Mid ([wd s] ++ [sg (signW n)]) := (mid_wd s).app (sign_mid h1 h2)
    show Mid ([wd s] ++ [sg (signW n)] ++ valT v) ∧ spell ([wd s] ++ [sg (signW n)] ++ valT v) = _
    refine ⟨m1.app m, ?_⟩
    rw [spell_two m1 m, spell_two (mid_wd s) (sign_mid h1 h2), e, one_wd, one_sg]
    simp [Cd.bodyB]
  | .has s t, _ => by
    have m1 : Mid ([wd s] ++ [wd kw_has]) := (mid_wd s).app (mid_wd _)
    show Mid ([wd s] ++ [wd kw_has] ++ [tx t]) ∧ spell ([wd s] ++ [wd kw_has] ++ [tx t]) = _
    refine ⟨m1.app (mid_tx t), ?_⟩
    rw [spell_two m1 (mid_tx t), spell_two (mid_wd s) (mid_wd _), one_wd, one_wd, one_tx]
    simp [Cd.bodyB, kw_has]
  | .not c, h => by
    obtain ⟨m, e⟩ := brk_mid c.rank 3 (body_mid c h)
    show Mid ([wd kw_not] ++ brk c.rank 3 c.body) ∧ spell ([wd kw_not] ++ brk c.rank 3 c.body) = _
    refine ⟨(mid_wd _).app m, ?_⟩
    rw [spell_two (mid_wd _) m, e, one_wd]
    simp [Cd.bodyB, kw_not]
  | .and a b, h => by
    obtain ⟨m, e⟩ := brk_mid a.rank 2 (body_mid a h.1)
    obtain ⟨m2, e2⟩ := brk_mid b.rank 3 (body_mid b h.2)
    have m1 := m.app (mid_wd kw_and)
    show Mid (brk a.rank 2 a.body ++ [wd kw_and] ++ brk b.rank 3 b.body) ∧ spell (brk a.rank 2 a.body ++ [wd kw_and] ++ brk b.rank 3 b.body) = _
    refine ⟨m1.app m2, ?_⟩
    rw [spell_two m1 m2, spell_two m (mid_wd _), e, e2, one_wd]
    simp [Cd.bodyB, kw_and]
  | .or a b, h => by
    obtain ⟨m, e⟩ := brk_mid a.rank 1 (body_mid a h.1)
    obtain ⟨m2, e2⟩ := brk_mid b.rank 2 (body_mid b h.2)
    have m1 := m.app (mid_wd kw_or)
    show Mid (brk a.rank 1 a.body ++ [wd kw_or] ++ brk b.rank 2 b.body) ∧ spell (brk a.rank 1 a.body ++ [wd kw_or] ++ brk b.rank 2 b.body) = _
    refine ⟨m1.app m2, ?_⟩
    rw [spell_two m1 m2, spell_two m (mid_wd _), e, e2, one_wd]
    simp [Cd.bodyB, kw_or]
/-- The text of a condition is its tokens'. -/
theorem cond_text {c : Cd} (h : c.Ok) (w : Nat) : Mid (c.tok w) ∧ spell (c.tok w) = c.textB w := brk_mid c.rank w (body_mid c h)
/-! The text of a query. -/
def sepB (l : List Bytes) : Bytes := match l with
  | [] => []
  | x :: r => x ++ r.flatMap fun y => 44 :: 32 :: y
theorem sep_mid : ∀ (r : List (List Tk)) (a : List Tk), Mid a → (∀ y ∈ r, Mid y) → Mid (a ++ r.flatMap fun y => sg kw_comma :: y) ∧ spell (a ++ r.flatMap fun y => sg kw_comma :: y) = spell a ++ (r.map spell).flatMap fun y => 44 :: 32 :: y
  | [], a, ha, _ => by simpa using ha
  | y :: r, a, ha, h => by
    have hy := h y (by simp)
    obtain ⟨h1, h2⟩ := sep_mid r (a ++ sg kw_comma :: y) (ha.comma hy) fun x hx => h x (by simp [hx])
    have e : (a ++ (y :: r).flatMap fun y => sg kw_comma :: y) = (a ++ sg kw_comma :: y) ++ r.flatMap fun y => sg kw_comma :: y := by simp
    rw [e]
    refine ⟨h1, ?_⟩
    rw [h2, spell_comma ha hy]
    simp
theorem sep_text {l : List (List Tk)} (hne : l ≠ []) (h : ∀ y ∈ l, Mid y) : Mid (sep l) ∧ spell (sep l) = sepB (l.map spell) := by
  cases l with
  | nil => exact absurd rfl hne
  | cons x r => exact sep_mid r x (h x (by simp)) fun y hy => h y (by simp [hy])
theorem names_text {l : List Bytes} (h : l ≠ []) : Mid (namesT l) ∧ spell (namesT l) = sepB l := by
  obtain ⟨m, e⟩ := sep_text (l := l.map fun s => [wd s]) (by simpa using h) (by intro y hy; obtain ⟨s, _, rfl⟩ := List.mem_map.1 hy; exact mid_wd s)
  refine ⟨m, e.trans ?_⟩
  rw [List.map_map]
  congr 1
  conv => rhs; rw [← List.map_id l]
  exact List.map_congr_left fun s _ => one_wd s
/-- An aggregate's text. -/
def aggB (a : Nat × Bytes) : Bytes := (if a.1 = 1 then aggW 1 else aggW a.1 ++ [32]) ++ a.2
theorem agg_mid {a : Nat × Bytes} (h : AggOk a) : Mid (aggT a) ∧ spell (aggT a) = aggB a := by
  unfold aggT aggB
  rcases h with rfl | ⟨h1, _⟩
  · rw [if_pos rfl, if_pos rfl]
    exact ⟨mid_wd _, by rw [one_wd]; simp⟩
  · rw [if_neg (by omega), if_neg (by omega)]
    show Mid ([wd (aggW a.1)] ++ [wd a.2]) ∧ spell ([wd (aggW a.1)] ++ [wd a.2]) = _
    exact ⟨(mid_wd _).app (mid_wd _), by rw [spell_two (mid_wd _) (mid_wd _), one_wd, one_wd]; simp⟩
theorem aggs_text {g : List (Nat × Bytes)} (h : g ≠ []) (ok : ∀ a ∈ g, AggOk a) : Mid (aggsT g) ∧ spell (aggsT g) = sepB (g.map aggB) := by
  obtain ⟨m, e⟩ := sep_text (l := g.map aggT) (by simpa using h) (by intro y hy; obtain ⟨a, ha, rfl⟩ := List.mem_map.1 hy; exact (agg_mid (ok a ha)).1)
  refine ⟨m, e.trans ?_⟩
  rw [List.map_map]
  congr 1
  exact List.map_congr_left fun a ha => (agg_mid (ok a ha)).2
def Qr.textB : Qr → Bytes
  | .fetch s f t => [102, 101, 116, 99, 104, 32] ++ s ++ if f = 0 ∧ t = 1099511627775 then [] else [32, 102, 114, 111, 109, 32] ++ Lib.itoa f ++ [32, 116, 111, 32] ++ Lib.itoa t
  | .where_ q c => q.textB ++ [32, 124, 32] ++ [119, 104, 101, 114, 101, 32] ++ c.textB 0
  | .keep q l => q.textB ++ [32, 124, 32] ++ [107, 101, 101, 112, 32] ++ sepB l
  | .align q n => q.textB ++ [32, 124, 32] ++ [97, 108, 105, 103, 110, 32] ++ Lib.itoa n
  | .group q l g => q.textB ++ [32, 124, 32] ++ [103, 114, 111, 117, 112, 32] ++ (if l = [] then [] else sepB l ++ [32]) ++ [58, 32] ++ sepB (g.map aggB)
  | .top q n s => q.textB ++ [32, 124, 32] ++ [116, 111, 112, 32] ++ Lib.itoa n ++ [32, 98, 121, 32] ++ s
  | .join q r => q.textB ++ [32, 124, 32] ++ [106, 111, 105, 110, 32, 40] ++ r.textB ++ [41]
  | .union q r => q.textB ++ [32, 124, 32] ++ [117, 110, 105, 111, 110, 32, 40] ++ r.textB ++ [41]
theorem bar_mid : Mid [sg kw_bar] := mid_one rfl rfl
theorem colon_mid : Mid [sg kw_colon] := mid_one rfl rfl
theorem step_mid {q : List Tk} {b : Bytes} (h : Mid q ∧ spell q = b) (k : Nat) : Mid (q ++ [sg kw_bar, wd (stepW k)]) ∧ spell (q ++ [sg kw_bar, wd (stepW k)]) = b ++ [32, 124, 32] ++ stepW k := by
  have m1 : Mid ([sg kw_bar] ++ [wd (stepW k)]) := bar_mid.app (mid_wd _)
  show Mid (q ++ ([sg kw_bar] ++ [wd (stepW k)])) ∧ spell (q ++ ([sg kw_bar] ++ [wd (stepW k)])) = _
  refine ⟨h.1.app m1, ?_⟩
  rw [spell_two h.1 m1, spell_two bar_mid (mid_wd _), one_wd, one_sg, h.2]
  simp [kw_bar]
theorem query_mid : ∀ q : Qr, q.Ok → Mid q.tok ∧ spell q.tok = q.textB
  | .fetch s f t, _ => by
    have m1 : Mid ([wd kw_fetch] ++ [wd s]) := (mid_wd _).app (mid_wd s)
    have e1 : spell ([wd kw_fetch] ++ [wd s]) = [102, 101, 116, 99, 104, 32] ++ s := by rw [spell_two (mid_wd _) (mid_wd _), one_wd, one_wd]; simp [kw_fetch]
    show Mid ([wd kw_fetch] ++ [wd s] ++ _) ∧ spell ([wd kw_fetch] ++ [wd s] ++ _) = _
    by_cases h : f = 0 ∧ t = 1099511627775
    · unfold Qr.textB
      rw [if_pos h, if_pos h, List.append_nil, List.append_nil]
      exact ⟨m1, e1⟩
    · unfold Qr.textB
      rw [if_neg h, if_neg h]
      have a1 := (mid_wd kw_from).app (mid_nm f)
      have a2 := a1.app (mid_wd kw_to)
      have a3 := a2.app (mid_nm t)
      have e3 : [wd kw_from, nm f, wd kw_to, nm t] = [wd kw_from] ++ [nm f] ++ [wd kw_to] ++ [nm t] := rfl
      rw [e3]
      refine ⟨m1.app a3, ?_⟩
      rw [spell_two m1 a3, e1, spell_two a2 (mid_nm t), spell_two a1 (mid_wd _), spell_two (mid_wd _) (mid_nm f), one_nm, one_nm, one_wd, one_wd]
      simp [kw_from, kw_to]
  | .where_ q c, h => by
    obtain ⟨m, e⟩ := step_mid (query_mid q h.1) 2
    obtain ⟨m2, e2⟩ := cond_text h.2 0
    exact ⟨m.app m2, by show spell (q.tok ++ [sg kw_bar, wd (stepW 2)] ++ c.tok 0) = _; rw [spell_two m m2, e, e2]; simp [Qr.textB, stepW, kw_steps]⟩
  | .keep q l, h => by
    obtain ⟨m, e⟩ := step_mid (query_mid q h.1) 3
    obtain ⟨m2, e2⟩ := names_text h.2
    exact ⟨m.app m2, by show spell (q.tok ++ [sg kw_bar, wd (stepW 3)] ++ namesT l) = _; rw [spell_two m m2, e, e2]; simp [Qr.textB, stepW, kw_steps]⟩
  | .align q n, h => by
    obtain ⟨m, e⟩ := step_mid (query_mid q h) 4
    have e0 : Qr.tok (.align q n) = q.tok ++ [sg kw_bar, wd (stepW 4)] ++ [nm n] := by simp [Qr.tok]
    rw [e0]
    exact ⟨m.app (mid_nm n), by rw [spell_two m (mid_nm n), e, one_nm]; simp [Qr.textB, stepW, kw_steps]⟩
  | .group q l g, ⟨h1, _, h3, h4⟩ => by
    obtain ⟨m, e⟩ := step_mid (query_mid q h1) 5
    obtain ⟨m2, e2⟩ := aggs_text h3 h4
    show Mid (q.tok ++ [sg kw_bar, wd (stepW 5)] ++ namesT l ++ [sg kw_colon] ++ aggsT g) ∧ spell (q.tok ++ [sg kw_bar, wd (stepW 5)] ++ namesT l ++ [sg kw_colon] ++ aggsT g) = _
    by_cases hl : l = []
    · subst hl
      have e0 : namesT [] = [] := rfl
      rw [e0, List.append_nil]
      refine ⟨(m.app colon_mid).app m2, ?_⟩
      rw [spell_two (m.app colon_mid) m2, spell_two m colon_mid, e, e2, one_sg]
      simp [Qr.textB, stepW, kw_steps, kw_colon]
    · obtain ⟨m3, e3⟩ := names_text hl
      refine ⟨((m.app m3).app colon_mid).app m2, ?_⟩
      rw [spell_two ((m.app m3).app colon_mid) m2, spell_two (m.app m3) colon_mid, spell_two m m3, e, e2, e3, one_sg]
      simp [Qr.textB, stepW, kw_steps, kw_colon, hl]
  | .top q n s, h => by
    obtain ⟨m, e⟩ := step_mid (query_mid q h) 6
    have e0 : Qr.tok (.top q n s) = q.tok ++ [sg kw_bar, wd (stepW 6)] ++ [nm n] ++ [wd kw_by] ++ [wd s] := by simp [Qr.tok]
    rw [e0]
    have a1 := m.app (mid_nm n)
    have a2 := a1.app (mid_wd kw_by)
    exact ⟨a2.app (mid_wd s), by rw [spell_two a2 (mid_wd s), spell_two a1 (mid_wd _), spell_two m (mid_nm n), e, one_nm, one_wd, one_wd]; simp [Qr.textB, stepW, kw_steps, kw_by]⟩
  | .join q r, h => by
    obtain ⟨m, e⟩ := step_mid (query_mid q h.1) 7
    obtain ⟨m2, e2⟩ := query_mid r h.2
    have e0 : Qr.tok (.join q r) = q.tok ++ [sg kw_bar, wd (stepW 7)] ++ ([sg kw_open] ++ r.tok ++ [sg kw_shut]) := by simp [Qr.tok]
    rw [e0]
    exact ⟨m.app m2.brk, by rw [spell_two m m2.brk, spell_brk m2, e, e2]; simp [Qr.textB, stepW, kw_steps]⟩
  | .union q r, h => by
    obtain ⟨m, e⟩ := step_mid (query_mid q h.1) 8
    obtain ⟨m2, e2⟩ := query_mid r h.2
    have e0 : Qr.tok (.union q r) = q.tok ++ [sg kw_bar, wd (stepW 8)] ++ ([sg kw_open] ++ r.tok ++ [sg kw_shut]) := by simp [Qr.tok]
    rw [e0]
    exact ⟨m.app m2.brk, by rw [spell_two m m2.brk, spell_brk m2, e, e2]; simp [Qr.textB, stepW, kw_steps]⟩
end Go.Proofs.YtnaehhpikhlppaaGreatDoor.ParS
