/- Several texts of the proof, joined. -/
import Derived.Test.YtnaehhpikhlppaaGreatDoorD9
import Derived.Lib.Replace
import Derived.Lib.IndexBytes
import Derived.Test.YtnaehhpikhlppaaGreatDoorD1
import Derived.Test.YtnaehhpikhlppaaGreatDoorD7
import Derived.Test.YtnaehhpikhlppaaGreatDoorD8
set_option maxHeartbeats 4000000
set_option linter.unusedVariables false
set_option linter.unusedSimpArgs false
namespace Go.Proofs.YtnaehhpikhlppaaGreatDoor.LexS
open Go.Lib (indexByte countFrom count replaceK replaceNum replace replaceAll)

def repl (c : UInt8) (new : Bytes) (b : UInt8) : Bytes := if b = c then new else [b]
theorem byte_split (c : UInt8) : ∀ (s : Bytes), (indexByte s c = -1 ∧ c ∉ s) ∨ (∃ i : Nat, indexByte s c = i ∧ s = s.take i ++ c :: s.drop (i + 1) ∧ c ∉ s.take i) := by
  intro s
  induction s with
  | nil => exact .inl ⟨rfl, by simp⟩
  | cons b l ih =>
    by_cases hb : b = c
    · subst hb
      exact .inr ⟨0, by simp [indexByte], by simp, by simp⟩
    · have hbf : (b == c) = false := by rw [beq_eq_false_iff_ne]; exact hb
      rcases ih with ⟨h1, h2⟩ | ⟨i, h1, h2, h3⟩
      · exact .inl ⟨by simp [indexByte, hbf, h1], by simp only [List.mem_cons, not_or]; exact ⟨fun h => hb h.symm, h2⟩⟩
      · refine .inr ⟨i + 1, ?_, ?_, ?_⟩
        · have : ((i : Int) == -1) = false := by rw [beq_eq_false_iff_ne]; omega
          simp [indexByte, hbf, h1, this]
        · simp only [List.take_succ_cons, List.drop_succ_cons, List.cons_append]
          rw [← h2]
        · simp only [List.take_succ_cons, List.mem_cons, not_or]
          exact ⟨fun h => hb h.symm, h3⟩
theorem repl_none {c : UInt8} {new : Bytes} : ∀ {l : Bytes}, c ∉ l → l.flatMap (repl c new) = l := by
  intro l
  induction l with
  | nil => intro _; rfl
  | cons b l ih =>
    intro h
    simp only [List.mem_cons, not_or] at h
    rw [List.flatMap_cons, ih h.2]
    have : repl c new b = [b] := by unfold repl; rw [if_neg (fun e => h.1 e.symm)]
    rw [this]
    rfl
theorem replaceK_one (c : UInt8) (new : Bytes) : ∀ (m : Nat) (s : Bytes), s.length = m → ∀ f, m < f → replaceK [c] new (countFrom [c] f s) s = s.flatMap (repl c new) := by
  intro m
  induction m using Nat.strongRecOn with
  | _ m ih =>
    intro s hs f hf
    obtain ⟨f, rfl⟩ : ∃ k, f = k + 1 := ⟨f - 1, by omega⟩
    have hi := Lib.index_one s c
    rcases byte_split c s with ⟨h1, h2⟩ | ⟨i, h1, h2, h3⟩
    · rw [h1] at hi
      rw [repl_none h2]
      simp only [countFrom, hi]
      rfl
    · rw [h1] at hi
      have hne : ((i : Int) == -1) = false := by rw [beq_eq_false_iff_ne]; omega
      have hlen := congrArg List.length h2
      simp only [List.length_append, List.length_take, List.length_cons, List.length_drop] at hlen
      have hcf : countFrom [c] (f + 1) s = countFrom [c] f (s.drop (i + 1)) + 1 := by
        simp only [countFrom, hi, hne, Bool.false_eq_true, if_false, Int.toNat_natCast, List.length_singleton]
        omega
      rw [hcf, Lib.replaceK_hit _ _ _ _ i hi]
      have hil : i < s.length := by omega
      have hr := ih (s.drop (i + 1)).length (by rw [List.length_drop]; omega) _ rfl f (by rw [List.length_drop]; omega)
      rw [List.length_singleton, hr]
      conv => rhs; rw [h2]
      rw [List.flatMap_append, repl_none h3, List.flatMap_cons]
      have : repl c new c = new := by unfold repl; rw [if_pos rfl]
      rw [this, List.append_assoc]
theorem replaceAll_one (c : UInt8) (new s : Bytes) (hne : [c] ≠ new) : replaceAll s [c] new = s.flatMap (repl c new) := by
  unfold replaceAll replace
  rw [if_neg (by simpa using hne)]
  unfold replaceNum
  rw [if_pos (.inl (by decide))]
  exact replaceK_one c new _ s rfl _ (Nat.lt_succ_self _)
def esc (b : UInt8) : Bytes := if b.toNat = 34 ∨ b.toNat = 92 then [92, b] else [b]
def quoteS (l : Bytes) : Bytes := 34 :: (l.flatMap esc ++ [34])
theorem esc_len (l : Bytes) : (l.flatMap esc).length ≤ 2 * l.length ∧ l.length ≤ (l.flatMap esc).length := by
  induction l with
  | nil => simp
  | cons b l ih =>
    rw [List.flatMap_cons, List.length_append, List.length_cons]
    have : (esc b).length = 1 ∨ (esc b).length = 2 := by unfold esc; split <;> simp
    omega
theorem quote_len (l : Bytes) : (quoteS l).length ≤ 2 * l.length + 2 := by
  have := (esc_len l).1
  show ((l.flatMap esc ++ [34]).length + 1) ≤ _
  rw [List.length_append, List.length_singleton]
  omega
theorem repl_len (c x : UInt8) (l : Bytes) : (l.flatMap (repl c [x, c])).length ≤ 2 * l.length := by
  induction l with
  | nil => simp
  | cons b l ih =>
    rw [List.flatMap_cons, List.length_append, List.length_cons]
    have : (repl c [x, c] b).length = 1 ∨ (repl c [x, c] b).length = 2 := by unfold repl; split <;> simp
    omega
theorem two_repl (l : Bytes) : (l.flatMap (repl 92 [92, 92])).flatMap (repl 34 [92, 34]) = l.flatMap esc := by
  rw [List.flatMap_assoc]
  congr 1
  funext b
  unfold repl esc
  by_cases h92 : b = 92
  · subst h92
    rfl
  · rw [if_neg h92]
    by_cases h34 : b = 34
    · subst h34
      rfl
    · have n1 : b.toNat ≠ 92 := fun e => h92 (UInt8.toNat_inj.1 e)
      have n2 : b.toNat ≠ 34 := fun e => h34 (UInt8.toNat_inj.1 e)
      rw [if_neg (by omega)]
      simp [h34]
theorem quote_replaced (l : Bytes) : 34 :: (replaceAll (replaceAll l [92] [92, 92]) [34] [92, 34] ++ [34]) = quoteS l := by
  rw [replaceAll_one 92 _ l (by decide), replaceAll_one 34 _ _ (by decide), two_repl]
  rfl
theorem text_esc (r : Bytes) : ∀ (l acc : Bytes) (i : Nat), textFrom acc i (l.flatMap esc ++ 34 :: r) = some (acc ++ l, i + (l.flatMap esc).length + 1) := by
  intro l
  induction l with
  | nil => intro acc i; rw [List.flatMap_nil, List.nil_append, textFrom_cons, if_pos (by rfl)]; simp
  | cons b l ih =>
    intro acc i
    rw [List.flatMap_cons, List.append_assoc]
    by_cases h : b.toNat = 34 ∨ b.toNat = 92
    · have he : esc b = [92, b] := by unfold esc; rw [if_pos h]
      rw [he]
      show textFrom acc i (92 :: b :: (l.flatMap esc ++ 34 :: r)) = _
      rw [textFrom_cons, if_neg (by decide), if_pos (by rfl)]
      dsimp only
      rw [if_pos h, ih]
      simp
      omega
    · have he : esc b = [b] := by unfold esc; rw [if_neg h]
      rw [he]
      show textFrom acc i (b :: (l.flatMap esc ++ 34 :: r)) = _
      rw [textFrom_cons, if_neg (by omega), if_neg (by omega), ih]
      simp
      omega
theorem one_quote (l : Bytes) : oneS (quoteS l) = if l.length ≤ 64 then (⟨3, l, 0, 0⟩, (quoteS l).length) else (noTok, 0) := by
  have h := one_text 34 (l.flatMap esc ++ [34]) (by decide) (by rfl)
  rw [show oneS (quoteS l) = oneS (34 :: (l.flatMap esc ++ [34])) from rfl, h, textT_eq]
  have e : List.drop 1 (34 :: (l.flatMap esc ++ [34])) = l.flatMap esc ++ 34 :: [] := rfl
  rw [e, text_esc]
  dsimp only [textO]
  rw [List.nil_append]
  by_cases hl : l.length ≤ 64
  · rw [if_pos hl, if_pos hl]
    simp [quoteS]
    omega
  · rw [if_neg hl, if_neg hl]
end Go.Proofs.YtnaehhpikhlppaaGreatDoor.LexS

namespace Go.Proofs.YtnaehhpikhlppaaGreatDoor.LexS

def Good (L : Bytes) (x : List Tok) (a : Nat) : Prop :=
  ∀ (i : Nat) (t : Tok), x[i]? = some t → t.at_ < a ∧ (∀ (j : Nat) (u : Tok), j < i → x[j]? = some u → u.at_ < t.at_) ∧ 1 ≤ t.kind ∧ t.kind ≤ 4 ∧
    (t.kind = 1 ∨ t.kind = 4 → t.at_ + t.s.length ≤ L.length ∧ (L.drop t.at_).take t.s.length = t.s)
end Go.Proofs.YtnaehhpikhlppaaGreatDoor.LexS

namespace Go.Proofs.YtnaehhpikhlppaaGreatDoor.ParS
open LexS

/-- A token's own text. -/
def oneT (t : Tk) : Bytes := if t.kind = 2 then Lib.itoa t.n else if t.kind = 3 then quoteS t.s else t.s
def opens (t : Tk) : Bool := decide (t.kind = 4) && decide (t.s = kw_open)
def closes (t : Tk) : Bool := decide (t.kind = 4) && (decide (t.s = kw_comma) || decide (t.s = kw_shut))
/-- What stands between two tokens. -/
def gapT (p t : Tk) : Bytes := if (opens p || closes t) = true then [] else [32]
def spellR (p : Tk) : List Tk → Bytes
  | [] => []
  | t :: r => gapT p t ++ oneT t ++ spellR t r
def spell : List Tk → Bytes
  | [] => []
  | t :: r => oneT t ++ spellR t r
/-- A token that its own text is cut as. -/
def LexT (t : Tk) : Prop := oneS (oneT t) = (⟨t.kind, t.s, t.n, 0⟩, (oneT t).length) ∧ ∃ c r, oneT t = c :: r ∧ blankB c = false
theorem lexT_ne {t : Tk} (h : LexT t) : (oneS (oneT t)).2 ≠ 0 := by
  obtain ⟨h1, c, r, h2, _⟩ := h
  rw [h1, h2]
  simp
theorem one_open (X : Bytes) : oneS (40 :: X) = (⟨4, [40], 0, 0⟩, 1) := by
  simp [oneS, letterB, digitB, signLen]
theorem lex_at {p : Tk} (hp : LexT p) (r : List Tk) : oneS (oneT p ++ spellR p r) = (⟨p.kind, p.s, p.n, 0⟩, (oneT p).length) := by
  have hn := lexT_ne hp
  cases r with
  | nil => rw [show spellR p [] = [] from rfl, List.append_nil]; exact hp.1
  | cons t r =>
    show oneS (oneT p ++ (gapT p t ++ oneT t ++ spellR t r)) = _
    by_cases ho : opens p = true
    · have h1 : p.kind = 4 ∧ p.s = kw_open := by simpa [opens] using ho
      have h2 : oneT p = [40] := by unfold oneT; rw [if_neg (by omega), if_neg (by omega), h1.2]; rfl
      have h3 := hp.1
      rw [h2, one_open []] at h3
      rw [h2, ← h3]
      exact one_open _
    · unfold gapT
      by_cases hc : closes t = true
      · rw [if_pos (by rw [hc]; simp), List.nil_append]
        have h1 : t.kind = 4 ∧ (t.s = kw_comma ∨ t.s = kw_shut) := by simpa [closes] using hc
        have h2 : oneT t = t.s := by unfold oneT; rw [if_neg (by omega), if_neg (by omega)]
        rw [h2]
        rcases h1.2 with e | e
        · rw [e]
          show oneS (oneT p ++ 44 :: ([] ++ spellR t r)) = _
          rw [one_ends _ _ _ (by unfold TokEnd; decide) hn]
          exact hp.1
        · rw [e]
          show oneS (oneT p ++ 41 :: ([] ++ spellR t r)) = _
          rw [one_ends _ _ _ (by unfold TokEnd; decide) hn]
          exact hp.1
      · rw [if_neg (by simp [ho, hc])]
        show oneS (oneT p ++ 32 :: (oneT t ++ spellR t r)) = _
        rw [one_ends _ _ _ (by unfold TokEnd; decide) hn]
        exact hp.1
theorem lexGo_spell : ∀ (r : List Tk) (p : Tk) (k a : Nat) (acc : List Tok), (∀ t ∈ p :: r, LexT t) → (oneT p ++ spellR p r).length < k → ∃ xs, lexGo k a (oneT p ++ spellR p r) acc = (acc ++ xs, 0, 0) ∧ xs.map tk = p :: r
  | r, p, 0, a, acc, _, h => by omega
  | r, p, k + 1, a, acc, hl, h => by
    have hp := hl p (by simp)
    have hb : ∃ c s, oneT p ++ spellR p r = c :: s ∧ blankB c = false := by
      obtain ⟨c, s, e, hb⟩ := hp.2
      exact ⟨c, s ++ spellR p r, by rw [e]; rfl, hb⟩
    have hne : (oneT p).length ≠ 0 := by
      obtain ⟨c, s, e, _⟩ := hp.2
      rw [e]
      simp
    rw [lexGo_tok hb (lex_at hp r) hne, List.drop_left]
    rw [List.length_append] at h
    cases r with
    | nil =>
      rw [show spellR p [] = [] from rfl, lexGo_nil]
      exact ⟨[⟨p.kind, p.s, p.n, a⟩], rfl, rfl⟩
    | cons t r =>
      have hgo : ∃ k2 a2, lexGo k (a + (oneT p).length) (spellR p (t :: r)) (acc ++ [{ (⟨p.kind, p.s, p.n, 0⟩ : Tok) with at_ := a }]) = lexGo k2 a2 (oneT t ++ spellR t r) (acc ++ [{ (⟨p.kind, p.s, p.n, 0⟩ : Tok) with at_ := a }]) ∧ (oneT t ++ spellR t r).length < k2 := by
        have e : spellR p (t :: r) = gapT p t ++ (oneT t ++ spellR t r) := by
          show gapT p t ++ oneT t ++ spellR t r = _
          rw [List.append_assoc]
        rw [e] at h ⊢
        unfold gapT at h ⊢
        by_cases hg : (opens p || closes t) = true
        · rw [if_pos hg] at h ⊢
          rw [List.nil_append] at h ⊢
          exact ⟨k, _, rfl, by omega⟩
        · rw [if_neg hg] at h ⊢
          obtain ⟨k', rfl⟩ : ∃ k', k = k' + 1 := ⟨k - 1, by simp at h; omega⟩
          refine ⟨k', a + (oneT p).length + 1, ?_, by simp at h ⊢; omega⟩
          show lexGo (k' + 1) _ (32 :: (oneT t ++ spellR t r)) _ = _
          rw [lexGo]
          rw [if_pos (by decide)]
      obtain ⟨k2, a2, e, hk2⟩ := hgo
      rw [e]
      obtain ⟨xs, h1, h2⟩ := lexGo_spell r t k2 a2 _ (fun x hx => hl x (by simp at hx ⊢; exact .inr hx)) hk2
      refine ⟨⟨p.kind, p.s, p.n, a⟩ :: xs, by rw [h1]; simp, by rw [List.map_cons, h2]; rfl⟩
termination_by r => r.length
/-- A text of tokens is cut as these. -/
theorem lex_spell {l : List Tk} (h : ∀ t ∈ l, LexT t) (hl : (spell l).length ≤ 2048) : ∃ xs, lexS (spell l) = (xs, 0, 0) ∧ xs.map tk = l := by
  unfold lexS
  rw [if_neg (by omega)]
  cases l with
  | nil => exact ⟨[], rfl, rfl⟩
  | cons t r =>
    obtain ⟨xs, h1, h2⟩ := lexGo_spell r t ((spell (t :: r)).length + 1) 0 [] h (Nat.lt_succ_self _)
    exact ⟨xs, by rw [List.nil_append] at h1; exact h1, h2⟩
/-! Which tokens are so. -/
theorem kw_lex : ∀ t ∈ kwL, LexT t := by
  have h : (kwL.all fun t => decide (oneS (oneT t) = (⟨t.kind, t.s, t.n, 0⟩, (oneT t).length)) && match oneT t with | [] => false | c :: _ => !blankB c) = true := by decide +kernel
  intro t ht
  have := List.all_eq_true.1 h t ht
  rw [Bool.and_eq_true, decide_eq_true_eq] at this
  refine ⟨this.1, ?_⟩
  have h2 := this.2
  split at h2
  · cases h2
  · rename_i c r e
    exact ⟨c, r, e, by simpa using h2⟩
theorem while_take (p : UInt8 → Bool) : ∀ (l : Bytes), while_ p (l.take (while_ p l)) = while_ p l
  | [] => rfl
  | c :: r => by
    by_cases h : p c = true
    · have e : while_ p (c :: r) = while_ p r + 1 := by show (if p c then while_ p r + 1 else 0) = _; rw [if_pos h]
      rw [e, List.take_succ_cons]
      show (if p c then while_ p (r.take (while_ p r)) + 1 else 0) = _
      rw [if_pos h, while_take p r]
    · have e : while_ p (c :: r) = 0 := by show (if p c then while_ p r + 1 else 0) = _; rw [if_neg h]
      rw [e]
      rfl
theorem letter_not_blank {c : UInt8} (h : letterB c = true) : blankB c = false := by
  simp [letterB] at h
  simp [blankB]
  omega
theorem digit_not_blank {c : UInt8} (h : digitB c = true) : blankB c = false := by
  simp [digitB] at h
  simp [blankB]
  omega
theorem word_self {c : UInt8} {r : Bytes} (hc : letterB c = true) (hw : while_ innerB (c :: r) ≤ 24) : LexT (wd ((c :: r).take (while_ innerB (c :: r)))) := by
  have hi : innerB c = true := by unfold innerB; rw [hc]; rfl
  have hn : while_ innerB (c :: r) = while_ innerB r + 1 := by show (if innerB c then _ else _) = _; rw [if_pos hi]
  have hle := while_le innerB (c :: r)
  have hwt := while_take innerB (c :: r)
  have hlen : ((c :: r).take (while_ innerB (c :: r))).length = while_ innerB (c :: r) := by rw [List.length_take]; omega
  have ht : (c :: r).take (while_ innerB (c :: r)) = c :: r.take (while_ innerB r) := by rw [hn, List.take_succ_cons]
  have e : oneT (wd ((c :: r).take (while_ innerB (c :: r)))) = (c :: r).take (while_ innerB (c :: r)) := rfl
  unfold LexT
  rw [e]
  refine ⟨?_, c, _, ht, letter_not_blank hc⟩
  rw [hlen]
  have h1 : oneS ((c :: r).take (while_ innerB (c :: r))) = (⟨1, ((c :: r).take (while_ innerB (c :: r))).take (while_ innerB ((c :: r).take (while_ innerB (c :: r)))), 0, 0⟩, while_ innerB ((c :: r).take (while_ innerB (c :: r)))) := by
    rw [ht] at hwt ⊢
    show (if letterB c then (if while_ innerB (c :: r.take (while_ innerB r)) ≤ 24 then (⟨1, _, 0, 0⟩, _) else (noTok, 0)) else _) = _
    rw [if_pos hc, if_pos (by rw [hwt]; exact hw)]
  rw [h1, hwt, List.take_of_length_le (by rw [hlen]; exact Nat.le_refl _)]
  rfl
theorem quote_self {s : Bytes} (h : s.length ≤ 64) : LexT (tx s) := by
  unfold LexT
  rw [show oneT (tx s) = quoteS s from rfl, one_quote, if_pos h]
  exact ⟨rfl, 34, _, rfl, by decide⟩
theorem number_self {c : UInt8} {r : Bytes} {v : Int} {n : Nat} (hl : letterB c = false) (hq : ¬ c.toNat = 34) (hd : digitB c = true ∨ (c.toNat = 45 ∧ r.head?.map digitB = some true)) (h : numberS (c :: r) = some (v, n)) : LexT (nm v) := by
  unfold numberS at h
  split at h
  · rename_i v' ha
    split at h
    · rename_i hi
      simp only [Option.some.injEq, Prod.mk.injEq] at h
      obtain ⟨rfl, rfl⟩ := h
      obtain ⟨hi1, hi2⟩ := hi
      obtain ⟨m, hm, hm2⟩ : ∃ m, numLen (c :: r) = m + 1 ∧ numLen (c :: r.take m) = m + 1 ∧ (digitB c = true ∨ (c.toNat = 45 ∧ (r.take m).head?.map digitB = some true)) := by
        by_cases h45 : c.toNat = 45
        · have e1 : numLen (c :: r) = 1 + while_ digitB r := by unfold numLen; rw [if_pos (by simp [h45])]; rfl
          refine ⟨while_ digitB r, by omega, ?_, ?_⟩
          · have e2 : numLen (c :: r.take (while_ digitB r)) = 1 + while_ digitB (r.take (while_ digitB r)) := by unfold numLen; rw [if_pos (by simp [h45])]; rfl
            rw [e2, while_take]
            omega
          · rcases hd with hd | ⟨_, hd⟩
            · exact .inl hd
            · right
              refine ⟨h45, ?_⟩
              cases r with
              | nil => simp at hd
              | cons d r =>
                simp only [List.head?_cons, Option.map_some, Option.some.injEq] at hd
                have : while_ digitB (d :: r) = while_ digitB r + 1 := by show (if digitB d then _ else _) = _; rw [if_pos hd]
                rw [this, List.take_succ_cons]
                simp [hd]
        · have hdc : digitB c = true := by
            rcases hd with hd | ⟨hd, _⟩
            · exact hd
            · exact absurd hd h45
          have e1 : numLen (c :: r) = while_ digitB r + 1 := by
            unfold numLen
            rw [if_neg (by simp [h45])]
            show (if digitB c then _ else _) = _
            rw [if_pos hdc]
          refine ⟨while_ digitB r, e1, ?_, .inl hdc⟩
          unfold numLen
          rw [if_neg (by simp [h45])]
          show (if digitB c then _ else _) = _
          rw [if_pos hdc, while_take]
      obtain ⟨hm3, hd2⟩ := hm2
      have hle := numLen_le (c :: r)
      have ht : (c :: r).take (numLen (c :: r)) = c :: r.take m := by rw [hm, List.take_succ_cons]
      rw [ht] at ha hi1
      have hlen : (c :: r.take m).length = m + 1 := by rw [hm, List.length_cons] at hle; simp; omega
      have e : oneT (nm v') = c :: r.take m := by rw [show oneT (nm v') = Lib.itoa v' from rfl, hi1]
      unfold LexT
      rw [e, hlen]
      refine ⟨?_, c, _, rfl, ?_⟩
      · have hnum : numberS (c :: r.take m) = some (v', m + 1) := by
          unfold numberS
          rw [hm3, List.take_of_length_le (by rw [hlen]; exact Nat.le_refl _), ha]
          dsimp only
          rw [if_pos ⟨hi1, by rw [List.getElem?_eq_none (by rw [hlen]; exact Nat.le_refl _)]; simp⟩]
        have hone : oneS (c :: r.take m) = (match numberS (c :: r.take m) with | some (v, n) => (⟨2, [], v, 0⟩, n) | none => (noTok, 0)) := by
          unfold oneS
          dsimp only
          rw [if_neg (by rw [hl]; simp), if_neg hq, if_pos hd2]
          rcases numberS (c :: List.take m r) with _ | ⟨_, _⟩ <;> rfl
        rw [hone, hnum]
        rfl
      · rcases hd2 with h2 | ⟨h2, _⟩
        · exact digit_not_blank h2
        · simp [blankB]
          omega
    · cases h
  · cases h
theorem sign_self {c : UInt8} {r : Bytes} (hl : letterB c = false) (hq : ¬ c.toNat = 34) (hd : digitB c = false) (hs : signLen (c :: r) ≠ 0) : LexT (sg ((c :: r).take (signLen (c :: r)))) := by
  have hc : c.toNat ≠ 45 ∧ blankB c = false := by
    have : c.toNat = 33 ∨ c.toNat = 60 ∨ c.toNat = 62 ∨ c.toNat = 124 ∨ c.toNat = 44 ∨ c.toNat = 40 ∨ c.toNat = 41 ∨ c.toNat = 58 ∨ c.toNat = 61 := by
      simp only [signLen] at hs
      split at hs
      · rename_i h; omega
      · split at hs
        · rename_i h; omega
        · exact absurd rfl hs
    refine ⟨by omega, ?_⟩
    simp [blankB]
    omega
  obtain ⟨s, hs1, hs2, hs3⟩ : ∃ s, (c :: r).take (signLen (c :: r)) = c :: s ∧ signLen (c :: s) = (c :: s).length ∧ True := by
    simp only [signLen] at hs ⊢
    split
    · rename_i h
      obtain ⟨h1, h2⟩ := h
      cases r with
      | nil => simp at h1
      | cons d r =>
        refine ⟨[d], rfl, ?_, trivial⟩
        rw [if_pos ⟨by simpa using h1, h2⟩]
        rfl
    · rename_i h
      rw [if_neg h] at hs
      split
      · rename_i h2
        refine ⟨[], rfl, ?_, trivial⟩
        simp
      · rename_i h2
        rw [if_neg h2] at hs
        exact absurd rfl hs
  rw [hs1]
  have e : oneT (sg (c :: s)) = c :: s := rfl
  unfold LexT
  rw [e]
  refine ⟨?_, c, s, rfl, hc.2⟩
  unfold oneS
  dsimp only
  rw [if_neg (by rw [hl]; simp), if_neg hq, if_neg (by rw [hd]; simp; intro h; exact absurd h hc.1), if_neg (by rw [hs2]; simp), hs2, List.take_of_length_le (Nat.le_refl _)]
  rfl
theorem one_self (l : Bytes) (h : (oneS l).2 ≠ 0) : LexT (norm (tk (oneS l).1)) := by
  cases l with
  | nil => exact absurd rfl h
  | cons c r =>
    unfold oneS at h ⊢
    dsimp only at h ⊢
    by_cases h1 : letterB c = true
    · rw [if_pos h1] at h ⊢
      by_cases h2 : while_ innerB (c :: r) ≤ 24
      · rw [if_pos h2] at h ⊢
        exact word_self h1 h2
      · rw [if_neg h2] at h
        exact absurd rfl h
    · rw [if_neg h1] at h ⊢
      by_cases h2 : c.toNat = 34
      · rw [if_pos h2] at h ⊢
        rcases hx : textS (c :: r) with _ | ⟨t, n⟩
        · rw [hx] at h; exact absurd rfl h
        · have := (textS_bd (by simp) hx).2.2
          exact quote_self this
      · rw [if_neg h2] at h ⊢
        by_cases h3 : digitB c = true ∨ (c.toNat = 45 ∧ r.head?.map digitB = some true)
        · rw [if_pos h3] at h ⊢
          rcases hx : numberS (c :: r) with _ | ⟨v, n⟩
          · rw [hx] at h; exact absurd rfl h
          · exact number_self (by simpa using h1) h2 h3 hx
        · rw [if_neg h3] at h ⊢
          by_cases h4 : signLen (c :: r) = 0
          · rw [if_pos h4] at h; exact absurd rfl h
          · rw [if_neg h4]
            have hd : digitB c = false := by
              rcases hb : digitB c with _ | _
              · rfl
              · exact absurd (.inl hb) h3
            exact sign_self (by simpa using h1) h2 hd h4
theorem lexGo_lex : ∀ (k a : Nat) (rest : Bytes) (acc : List Tok), (∀ u ∈ acc, LexT (norm (tk u))) → ∀ u ∈ (lexGo k a rest acc).1, LexT (norm (tk u))
  | 0, a, rest, acc, h => h
  | k + 1, a, [], acc, h => h
  | k + 1, a, c :: r, acc, h => by
    rw [lexGo]
    split
    · exact lexGo_lex k _ _ _ h
    · split
      · intro u hu
        cases hu
      · rename_i hn
        refine lexGo_lex k _ _ _ fun u hu => ?_
        rcases List.mem_append.1 hu with hu | hu
        · exact h u hu
        · rw [List.mem_singleton] at hu
          subst hu
          exact one_self (c :: r) hn
/-- Each token that was cut is cut again out of its own text. -/
theorem lexS_lex (l : Bytes) : ∀ u ∈ (lexS l).1, LexT (norm (tk u)) := by
  unfold lexS
  split
  · intro u hu
    cases hu
  · exact lexGo_lex _ _ _ _ fun u hu => by cases hu
/-- A query's text, printed: it is read again as it was. -/
theorem text_back {s : Bytes} {ns : List Nd} {a : Nat} (h : queryS s = (ns, a, 0)) : ∃ q : Qr, ns = q.flat 0 ∧ q.Ok ∧ q.deep ≤ 16 ∧ q.len ≤ 128 ∧ q.tok.length ≤ 1024 ∧ (∀ t ∈ q.tok, LexT t) ∧ parseAll (pQuery 16) q.tok = (ns, 0, 0) ∧ ((spell q.tok).length ≤ 2048 → queryS (spell q.tok) = (ns, 0, 0)) := by
  unfold queryS at h
  rcases hx : lexS s with ⟨l, b, e⟩
  rw [hx] at h
  dsimp only at h
  by_cases he : e ≠ 0
  · rw [if_pos he] at h
    injection h with h4 h5
    injection h5 with h6 h7
    exact absurd h7 he
  · rw [if_neg he] at h
    rcases hp : parseS l with ⟨ns2, n, f⟩
    rw [hp] at h
    dsimp only at h
    by_cases hf : f = 0
    · subst hf
      rw [if_pos rfl] at h
      injection h with h4 h5
      subst h4
      obtain ⟨q, k1, k2, k3, k4, k5, k6⟩ := parse_gives hp
      have hlex : ∀ t ∈ q.tok, LexT t := by
        intro t ht
        rcases k6 t ht with h1 | ⟨u, hu, rfl⟩
        · exact kw_lex t h1
        · have := lexS_lex s u
          rw [hx] at this
          exact this hu
      have hpb := parse_back k2 k4 k5 k3
      rw [← k1] at hpb
      refine ⟨q, k1, k2, k3, k4, k5, hlex, hpb, fun hl => ?_⟩
      obtain ⟨xs, h1, h2⟩ := lex_spell hlex hl
      unfold queryS
      rw [h1]
      dsimp only
      rw [if_neg (by simp)]
      unfold parseS
      rw [h2, hpb]
      rfl
    · rw [if_neg hf] at h
      rcases hz : l[n]? with _ | t
      all_goals
        rw [hz] at h
        injection h with h4 h5
        injection h5 with h6 h7
        exact absurd h7 hf
end Go.Proofs.YtnaehhpikhlppaaGreatDoor.ParS
