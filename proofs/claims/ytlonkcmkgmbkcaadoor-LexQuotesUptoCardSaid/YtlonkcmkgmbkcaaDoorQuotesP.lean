/- Quoting, plainly: replacing one byte; a quoted text is cut as one text. -/
import Derived.Test.YtlonkcmkgmbkcaaDoorLexE
import Derived.Lib.Replace
import Derived.Lib.IndexBytes
namespace Go.Proofs.YtlonkcmkgmbkcaaDoor.LexS
open Go.Lib (indexByte countFrom count replaceK replaceNum replace replaceAll)
set_option maxHeartbeats 400000

def repl (c : UInt8) (new : Bytes) (b : UInt8) : Bytes := if b = c then new else [b]
theorem byte_split (c : UInt8) : ∀ (s : Bytes), (indexByte s c = -1 ∧ c ∉ s) ∨ (∃ i : Nat, indexByte s c = i ∧ s = s.take i ++ c :: s.drop (i + 1) ∧ c ∉ s.take i) := by
  intro s
  induction s with
  | nil => exact .inl ⟨rfl, by simp⟩
  | cons b l ih =>
    by_cases hb : b = c
    · subst hb
      exact .inr ⟨0, by simp [indexByte], by simp, by simp⟩
    · have hbf : (b == c) = false := by rw [beq_eq_false_iff_ne]; exact hb
      rcases ih with ⟨h1, h2⟩ | ⟨i, h1, h2, h3⟩
      · exact .inl ⟨by simp [indexByte, hbf, h1], by simp only [List.mem_cons, not_or]; exact ⟨fun h => hb h.symm, h2⟩⟩
      · refine .inr ⟨i + 1, ?_, ?_, ?_⟩
        · have : ((i : Int) == -1) = false := by rw [beq_eq_false_iff_ne]; omega
          simp [indexByte, hbf, h1, this]
        · simp only [List.take_succ_cons, List.drop_succ_cons, List.cons_append]
          rw [← h2]
        · simp only [List.take_succ_cons, List.mem_cons, not_or]
          exact ⟨fun h => hb h.symm, h3⟩
theorem repl_none {c : UInt8} {new : Bytes} : ∀ {l : Bytes}, c ∉ l → l.flatMap (repl c new) = l := by
  intro l
  induction l with
  | nil => intro _; rfl
  | cons b l ih =>
    intro h
    simp only [List.mem_cons, not_or] at h
    rw [List.flatMap_cons, ih h.2]
    have : repl c new b = [b] := by unfold repl; rw [if_neg (fun e => h.1 e.symm)]
    rw [this]
    rfl
theorem replaceK_one (c : UInt8) (new : Bytes) : ∀ (m : Nat) (s : Bytes), s.length = m → ∀ f, m < f → replaceK [c] new (countFrom [c] f s) s = s.flatMap (repl c new) := by
  intro m
  induction m using Nat.strongRecOn with
  | _ m ih =>
    intro s hs f hf
    obtain ⟨f, rfl⟩ : ∃ k, f = k + 1 := ⟨f - 1, by omega⟩
    have hi := Lib.index_one s c
    rcases byte_split c s with ⟨h1, h2⟩ | ⟨i, h1, h2, h3⟩
    · rw [h1] at hi
      rw [repl_none h2]
      simp only [countFrom, hi]
      rfl
    · rw [h1] at hi
      have hne : ((i : Int) == -1) = false := by rw [beq_eq_false_iff_ne]; omega
      have hlen := congrArg List.length h2
      simp only [List.length_append, List.length_take, List.length_cons, List.length_drop] at hlen
      have hcf : countFrom [c] (f + 1) s = countFrom [c] f (s.drop (i + 1)) + 1 := by
        simp only [countFrom, hi, hne, Bool.false_eq_true, if_false, Int.toNat_natCast, List.length_singleton]
        omega
      rw [hcf, Lib.replaceK_hit _ _ _ _ i hi]
      have hil : i < s.length := by omega
      have hr := ih (s.drop (i + 1)).length (by rw [List.length_drop]; omega) _ rfl f (by rw [List.length_drop]; omega)
      rw [List.length_singleton, hr]
      conv => rhs; rw [h2]
      rw [List.flatMap_append, repl_none h3, List.flatMap_cons]
      have : repl c new c = new := by unfold repl; rw [if_pos rfl]
      rw [this, List.append_assoc]
theorem replaceAll_one (c : UInt8) (new s : Bytes) (hne : [c] ≠ new) : replaceAll s [c] new = s.flatMap (repl c new) := by
  unfold replaceAll replace
  rw [if_neg (by simpa using hne)]
  unfold replaceNum
  rw [if_pos (.inl (by decide))]
  exact replaceK_one c new _ s rfl _ (Nat.lt_succ_self _)

def esc (b : UInt8) : Bytes := if b.toNat = 34 ∨ b.toNat = 92 then [92, b] else [b]
def quoteS (l : Bytes) : Bytes := 34 :: (l.flatMap esc ++ [34])
theorem esc_len (l : Bytes) : (l.flatMap esc).length ≤ 2 * l.length ∧ l.length ≤ (l.flatMap esc).length := by
  induction l with
  | nil => simp
  | cons b l ih =>
    rw [List.flatMap_cons, List.length_append, List.length_cons]
    have : (esc b).length = 1 ∨ (esc b).length = 2 := by unfold esc; split <;> simp
    omega
theorem quote_len (l : Bytes) : (quoteS l).length ≤ 2 * l.length + 2 := by
  have := (esc_len l).1
  show ((l.flatMap esc ++ [34]).length + 1) ≤ _
  rw [List.length_append, List.length_singleton]
  omega
theorem repl_len (c x : UInt8) (l : Bytes) : (l.flatMap (repl c [x, c])).length ≤ 2 * l.length := by
  induction l with
  | nil => simp
  | cons b l ih =>
    rw [List.flatMap_cons, List.length_append, List.length_cons]
    have : (repl c [x, c] b).length = 1 ∨ (repl c [x, c] b).length = 2 := by unfold repl; split <;> simp
    omega
theorem two_repl (l : Bytes) : (l.flatMap (repl 92 [92, 92])).flatMap (repl 34 [92, 34]) = l.flatMap esc := by
  rw [List.flatMap_assoc]
  congr 1
  funext b
  unfold repl esc
  by_cases h92 : b = 92
  · subst h92
    rfl
  · rw [if_neg h92]
    by_cases h34 : b = 34
    · subst h34
      rfl
    · have n1 : b.toNat ≠ 92 := fun e => h92 (UInt8.toNat_inj.1 e)
      have n2 : b.toNat ≠ 34 := fun e => h34 (UInt8.toNat_inj.1 e)
      rw [if_neg (by omega)]
      simp [h34]
theorem quote_replaced (l : Bytes) : 34 :: (replaceAll (replaceAll l [92] [92, 92]) [34] [92, 34] ++ [34]) = quoteS l := by
  rw [replaceAll_one 92 _ l (by decide), replaceAll_one 34 _ _ (by decide), two_repl]
  rfl

theorem text_esc (r : Bytes) : ∀ (l acc : Bytes) (i : Nat), textFrom acc i (l.flatMap esc ++ 34 :: r) = some (acc ++ l, i + (l.flatMap esc).length + 1) := by
  intro l
  induction l with
  | nil => intro acc i; rw [List.flatMap_nil, List.nil_append, textFrom_cons, if_pos (by rfl)]; simp
  | cons b l ih =>
    intro acc i
    rw [List.flatMap_cons, List.append_assoc]
    by_cases h : b.toNat = 34 ∨ b.toNat = 92
    · have he : esc b = [92, b] := by unfold esc; rw [if_pos h]
      rw [he]
      show textFrom acc i (92 :: b :: (l.flatMap esc ++ 34 :: r)) = _
      rw [textFrom_cons, if_neg (by decide), if_pos (by rfl)]
      dsimp only
      rw [if_pos h, ih]
      simp
      omega
    · have he : esc b = [b] := by unfold esc; rw [if_neg h]
      rw [he]
      show textFrom acc i (b :: (l.flatMap esc ++ 34 :: r)) = _
      rw [textFrom_cons, if_neg (by omega), if_neg (by omega), ih]
      simp
      omega
theorem one_quote (l : Bytes) : oneS (quoteS l) = if l.length ≤ 64 then (⟨3, l, 0, 0⟩, (quoteS l).length) else (noTok, 0) := by
  have h := one_text 34 (l.flatMap esc ++ [34]) (by decide) (by rfl)
  rw [show oneS (quoteS l) = oneS (34 :: (l.flatMap esc ++ [34])) from rfl, h, textT_eq]
  have e : List.drop 1 (34 :: (l.flatMap esc ++ [34])) = l.flatMap esc ++ 34 :: [] := rfl
  rw [e, text_esc]
  dsimp only [textO]
  rw [List.nil_append]
  by_cases hl : l.length ≤ 64
  · rw [if_pos hl, if_pos hl]
    simp [quoteS]
    omega
  · rw [if_neg hl, if_neg hl]
theorem lex_quote_small (l : Bytes) (h : l.length ≤ 64) : lexS (quoteS l) = ([⟨3, l, 0, 0⟩], 0, 0) := by
  have hq := quote_len l
  have ho := one_quote l
  rw [if_pos h] at ho
  unfold lexS
  rw [if_neg (by omega)]
  have hpos : (quoteS l).length ≠ 0 := by simp [quoteS]
  have hb : blankB 34 = false := by decide
  have step : lexGo ((quoteS l).length + 1) 0 (quoteS l) [] = lexGo (quoteS l).length (0 + (oneS (quoteS l)).2) ((quoteS l).drop (oneS (quoteS l)).2) ([] ++ [{ (oneS (quoteS l)).1 with at_ := 0 }]) := by
    have hn : (oneS (34 :: (l.flatMap esc ++ [34]))).2 ≠ 0 := by
      rw [show (34 :: (l.flatMap esc ++ [34])) = quoteS l from rfl, ho]; exact hpos
    rw [show quoteS l = 34 :: (l.flatMap esc ++ [34]) from rfl]
    simp only [lexGo, hb, hn, if_false, Bool.false_eq_true]
  rw [step, ho]
  dsimp only
  rw [List.drop_length]
  cases (quoteS l).length <;> rfl
theorem lex_quote_great (l : Bytes) (h : 64 < l.length) : (lexS (quoteS l)).2.2 ≠ 0 := by
  have ho := one_quote l
  rw [if_neg (by omega)] at ho
  unfold lexS
  by_cases hq : (quoteS l).length > 2048
  · rw [if_pos hq]; decide
  · rw [if_neg hq]
    have hb : blankB 34 = false := by decide
    have step : lexGo ((quoteS l).length + 1) 0 (quoteS l) [] = ([], 0, 110) := by
      have hn : (oneS (34 :: (l.flatMap esc ++ [34]))).2 = 0 := by
        rw [show (34 :: (l.flatMap esc ++ [34])) = quoteS l from rfl, ho]
      rw [show quoteS l = 34 :: (l.flatMap esc ++ [34]) from rfl]
      simp only [lexGo, hb, hn, if_false, if_true, Bool.false_eq_true]
    rw [step]
    decide
end Go.Proofs.YtlonkcmkgmbkcaaDoor.LexS
