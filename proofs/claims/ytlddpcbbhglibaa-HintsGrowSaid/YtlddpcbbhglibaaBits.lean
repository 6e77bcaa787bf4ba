/- Plain words on fingerprints of four words of 64 bits: which bits there are, how they are joined and counted. -/
namespace Go.Proofs.Ytlddpcbbhglibaa.Bits

abbrev B := Nat → Nat
def WF (x : B) : Prop := ∀ k, x k < 2 ^ 64
def has (x : B) (n : Nat) : Bool := (x (n / 64)).testBit (n % 64)
def setB (x : B) (n : Nat) : B := fun k => if k = n / 64 then x k ||| 2 ^ (n % 64) else x k
def joinB (x y : B) : B := fun k => x k ||| y k
def zero : B := fun _ => 0

theorem wf_zero : WF zero := fun _ => by unfold zero; omega
theorem wf_setB {x : B} (h : WF x) (n : Nat) : WF (setB x n) := fun k => by
  unfold setB
  split
  · exact Nat.or_lt_two_pow (h k) (Nat.pow_lt_pow_right (by omega) (by omega))
  · exact h k
theorem wf_joinB {x y : B} (h : WF x) (h' : WF y) : WF (joinB x y) := fun k => Nat.or_lt_two_pow (h k) (h' k)

theorem has_zero (n : Nat) : has zero n = false := by simp [has, zero]
theorem has_setB (x : B) (m n : Nat) : has (setB x m) n = (has x n || decide (n = m)) := by
  unfold has setB
  split
  · rename_i h
    rw [Nat.testBit_or, Nat.testBit_two_pow]
    congr 1
    exact decide_eq_decide.2 ⟨fun h' => by omega, fun h' => by omega⟩
  · rename_i h
    have : ¬ n = m := fun e => h (by rw [e])
    simp [this]
theorem has_joinB (x y : B) (n : Nat) : has (joinB x y) n = (has x n || has y n) := by
  unfold has joinB
  rw [Nat.testBit_or]

/-- The four words are told by the 256 bits. -/
theorem ext_has {x y : B} (hx : WF x) (hy : WF y) (h : ∀ n, n < 256 → has x n = has y n) : ∀ k, k < 4 → x k = y k := by
  intro k hk
  refine Nat.eq_of_testBit_eq fun i => ?_
  rcases Nat.lt_or_ge i 64 with hi | hi
  · have := h (64 * k + i) (by omega)
    unfold has at this
    rw [show (64 * k + i) / 64 = k by omega, show (64 * k + i) % 64 = i by omega] at this
    exact this
  · rw [Nat.testBit_lt_two_pow (Nat.lt_of_lt_of_le (hx k) (Nat.pow_le_pow_right (by omega) hi)), Nat.testBit_lt_two_pow (Nat.lt_of_lt_of_le (hy k) (Nat.pow_le_pow_right (by omega) hi))]

/-- A bit that isn't there: to add it and to lay it are one. -/
theorem add_bit (w k : Nat) (hw : w < 2 ^ 64) (hk : k < 64) (h : w.testBit k = false) : w + 2 ^ k = w ||| 2 ^ k := by
  have hp : (2 : Nat) ^ k < 2 ^ 64 := Nat.pow_lt_pow_right (by omega) hk
  have e := BitVec.add_eq_or_of_and_eq_zero (BitVec.ofNat 65 w) (BitVec.ofNat 65 (2 ^ k)) (by
    refine BitVec.eq_of_toNat_eq ?_
    rw [BitVec.toNat_and, BitVec.toNat_ofNat, BitVec.toNat_ofNat, Nat.mod_eq_of_lt (by omega), Nat.mod_eq_of_lt (by omega)]
    refine Nat.eq_of_testBit_eq fun i => ?_
    rw [Nat.testBit_and, Nat.testBit_two_pow]
    by_cases hik : k = i
    · subst hik; simp [h]
    · simp [hik])
  have e' := congrArg BitVec.toNat e
  rw [BitVec.toNat_add, BitVec.toNat_or, BitVec.toNat_ofNat, BitVec.toNat_ofNat, Nat.mod_eq_of_lt (a := w) (by omega), Nat.mod_eq_of_lt (a := 2 ^ k) (by omega), Nat.mod_eq_of_lt (by omega)] at e'
  exact e'
theorem or_bit (w k : Nat) (h : w.testBit k = true) : w ||| 2 ^ k = w := by
  refine Nat.eq_of_testBit_eq fun i => ?_
  rw [Nat.testBit_or, Nat.testBit_two_pow]
  by_cases hik : k = i
  · subst hik; simp [h]
  · simp [hik]
theorem setB_of_has {x : B} {n : Nat} (h : has x n = true) : setB x n = x := by
  funext k
  unfold setB
  split
  · rename_i e; subst e; exact or_bit _ _ h
  · rfl
theorem setB_of_not {x : B} (hx : WF x) {n : Nat} (h : has x n = false) (k : Nat) : setB x n k = if k = n / 64 then x k + 2 ^ (n % 64) else x k := by
  unfold setB
  split
  · rename_i e; subst e; rw [add_bit _ _ (hx _) (by omega) h]
  · rfl

/-! Within -/
def withinB (x y : B) : Bool := decide (joinB x y 0 = y 0 ∧ joinB x y 1 = y 1 ∧ joinB x y 2 = y 2 ∧ joinB x y 3 = y 3)
theorem within_iff {x y : B} (hx : WF x) (hy : WF y) : withinB x y = true ↔ ∀ n, n < 256 → has x n = true → has y n = true := by
  unfold withinB
  rw [decide_eq_true_iff]
  constructor
  · rintro ⟨h0, h1, h2, h3⟩ n hn h
    have hk : ∀ k, k < 4 → joinB x y k = y k := fun k hk => by
      rcases k with _ | _ | _ | _ | k <;> first | assumption | omega
    have e := hk (n / 64) (by omega)
    unfold has at h ⊢
    rw [← e]
    unfold joinB
    rw [Nat.testBit_or, h, Bool.true_or]
  · intro h
    have e := ext_has (wf_joinB hx hy) hy (fun n hn => by
      rw [has_joinB]
      cases hh : has x n
      · simp
      · simp [h n hn hh])
    exact ⟨e 0 (by omega), e 1 (by omega), e 2 (by omega), e 3 (by omega)⟩

/-! How many -/
def cntTo (x : B) : Nat → Nat
  | 0 => 0
  | n + 1 => cntTo x n + (if has x n then 1 else 0)
def cnt (x : B) : Nat := cntTo x 256
theorem cntTo_le (x : B) (n : Nat) : cntTo x n ≤ n := by
  induction n with
  | zero => exact Nat.le_refl 0
  | succ n ih => unfold cntTo; split <;> omega
theorem cntTo_zero (n : Nat) : cntTo zero n = 0 := by
  induction n with
  | zero => rfl
  | succ n ih => unfold cntTo; rw [ih, has_zero]; rfl
theorem cntTo_mono {x y : B} (n : Nat) (h : ∀ i, i < n → has x i = true → has y i = true) : cntTo x n ≤ cntTo y n := by
  induction n with
  | zero => exact Nat.le_refl 0
  | succ n ih =>
    have := ih (fun i hi => h i (by omega))
    have hn := h n (by omega)
    unfold cntTo
    cases hx : has x n
    · simp; omega
    · simp [hn hx]; omega
theorem cntTo_setB (x : B) (m n : Nat) : cntTo (setB x m) n ≤ cntTo x n + (if m < n then 1 else 0) := by
  induction n with
  | zero => exact Nat.zero_le _
  | succ n ih =>
    unfold cntTo
    rw [has_setB]
    by_cases e : n = m
    · subst e
      simp at ih
      cases has x n <;> simp <;> omega
    · have e1 : decide (n = m) = false := decide_eq_false e
      rw [e1, Bool.or_false]
      have e2 : (if m < n + 1 then 1 else 0) = (if m < n then 1 else 0) := by
        by_cases h : m < n
        · rw [if_pos h, if_pos (by omega)]
        · rw [if_neg h, if_neg (by omega)]
      rw [e2]
      split <;> omega
theorem cnt_setB (x : B) (m : Nat) : cnt (setB x m) ≤ cnt x + 1 := by
  have := cntTo_setB x m 256
  unfold cnt
  split at this <;> omega
theorem cntTo_set_new {x : B} {m : Nat} (h : has x m = false) (n : Nat) : cntTo (setB x m) n = cntTo x n + (if m < n then 1 else 0) := by
  induction n with
  | zero => simp [cntTo]
  | succ n ih =>
    unfold cntTo
    rw [has_setB, ih]
    by_cases e : n = m
    · subst e
      simp [h]
    · have e1 : decide (n = m) = false := decide_eq_false e
      rw [e1, Bool.or_false]
      have e2 : (if m < n + 1 then 1 else 0) = (if m < n then 1 else 0) := by
        by_cases h : m < n
        · rw [if_pos h, if_pos (by omega)]
        · rw [if_neg h, if_neg (by omega)]
      rw [e2]
      split <;> omega
theorem cnt_one (m : Nat) (hm : m < 256) : cnt (setB zero m) = 1 := by
  unfold cnt
  rw [cntTo_set_new (has_zero m), cntTo_zero, if_pos hm]

/-! The marks of a text -/
def by_ (s : ByteArray) (i : Nat) : Nat := (s.data.toList.getD i 0).toNat
def tri (s : ByteArray) (i : Nat) : Nat := (961 * by_ s i + 31 * by_ s (i + 1) + by_ s (i + 2)) % 256
def ofTo (s : ByteArray) : Nat → B
  | 0 => zero
  | k + 1 => setB (ofTo s k) (tri s k)
def ofB (s : ByteArray) : B := ofTo s (s.size - 2)
theorem tri_lt (s : ByteArray) (i : Nat) : tri s i < 256 := Nat.mod_lt _ (by omega)
theorem by_lt (s : ByteArray) (i : Nat) : by_ s i < 256 := (s.data.toList.getD i 0).toNat_lt
theorem wf_ofTo (s : ByteArray) (k : Nat) : WF (ofTo s k) := by
  induction k with
  | zero => exact wf_zero
  | succ k ih => exact wf_setB ih _
theorem wf_ofB (s : ByteArray) : WF (ofB s) := wf_ofTo _ _
theorem has_ofTo (s : ByteArray) (k n : Nat) : has (ofTo s k) n = true ↔ ∃ i, i < k ∧ tri s i = n := by
  induction k with
  | zero => unfold ofTo; rw [has_zero]; simp
  | succ k ih =>
    unfold ofTo
    rw [has_setB, Bool.or_eq_true, ih, decide_eq_true_iff]
    constructor
    · rintro (⟨i, hi, e⟩ | e)
      · exact ⟨i, by omega, e⟩
      · exact ⟨k, by omega, e.symm⟩
    · rintro ⟨i, hi, e⟩
      rcases Nat.lt_or_ge i k with h | h
      · exact .inl ⟨i, h, e⟩
      · obtain rfl : i = k := by omega
        exact .inr e.symm
theorem has_ofB (s : ByteArray) (n : Nat) : has (ofB s) n = true ↔ ∃ i, i + 2 < s.size ∧ tri s i = n := by
  unfold ofB
  rw [has_ofTo]
  constructor <;> rintro ⟨i, h, e⟩ <;> exact ⟨i, by omega, e⟩
end Go.Proofs.Ytlddpcbbhglibaa.Bits
