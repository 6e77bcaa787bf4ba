/- What a text's tokens are: plain lists of bytes, no program. -/
import Derived.Lib.ItoaNum
import Derived.Lib.AtoiAll
namespace Go.Proofs.YtlonkcmkgmbkcaaDoor.LexS

abbrev Bytes := List UInt8
structure Tok where
  kind : Nat
  s : Bytes
  n : Int
  at_ : Nat
  deriving DecidableEq

def letterB (c : UInt8) : Bool := decide (97 ≤ c.toNat) && decide (c.toNat ≤ 122)
def digitB (c : UInt8) : Bool := decide (48 ≤ c.toNat) && decide (c.toNat ≤ 57)
def innerB (c : UInt8) : Bool := letterB c || digitB c || decide (c.toNat = 95)
def blankB (c : UInt8) : Bool := decide (c.toNat = 32) || decide (c.toNat = 9) || decide (c.toNat = 10) || decide (c.toNat = 13)

/-- How many bytes a text begins with that are so. -/
def while_ (p : UInt8 → Bool) : Bytes → Nat
  | [] => 0
  | c :: r => if p c then while_ p r + 1 else 0
theorem while_le (p : UInt8 → Bool) (l : Bytes) : while_ p l ≤ l.length := by
  induction l with
  | nil => exact Nat.le_refl _
  | cons c r ih => unfold while_; split <;> simp <;> omega

/-- A text behind its first sign: what it says, and how many bytes it has; none: it is none. -/
def textFrom : Bytes → Nat → Bytes → Option (Bytes × Nat)
  | _, _, [] => none
  | acc, i, c :: r =>
    if c.toNat = 34 then some (acc, i + 1)
    else if c.toNat = 92 then
      match r with
      | [] => none
      | d :: r' => if d.toNat = 34 ∨ d.toNat = 92 then textFrom (acc ++ [d]) (i + 2) r' else none
    else textFrom (acc ++ [c]) (i + 1) r
def textS (l : Bytes) : Option (Bytes × Nat) :=
  match textFrom [] 1 (l.drop 1) with
  | some (t, n) => if t.length ≤ 64 then some (t, n) else none
  | none => none

/-- The digits' number, and how many bytes it has with its sign. -/
def numLen (l : Bytes) : Nat := if l.head?.map (·.toNat) = some 45 then 1 + while_ digitB (l.drop 1) else while_ digitB l
def numberS (l : Bytes) : Option (Int × Nat) :=
  match Lib.atoiAll (l.take (numLen l)) with
  | .ok v => if Lib.itoa v = l.take (numLen l) ∧ ¬ (l[numLen l]?.map innerB = some true) then some (v, numLen l) else none
  | _ => none

/-- The longest sign at the front: how many bytes it has. -/
def signLen : Bytes → Nat
  | [] => 0
  | c :: r =>
    if (r.head?.map (·.toNat) = some 61) ∧ (c.toNat = 33 ∨ c.toNat = 60 ∨ c.toNat = 62) then 2
    else if c.toNat = 124 ∨ c.toNat = 44 ∨ c.toNat = 40 ∨ c.toNat = 41 ∨ c.toNat = 58 ∨ c.toNat = 61 ∨ c.toNat = 60 ∨ c.toNat = 62 then 1 else 0

def noTok : Tok := ⟨0, [], 0, 0⟩
/-- A token at the front, and how many bytes it has; 0: there is none. -/
def oneS (l : Bytes) : Tok × Nat :=
  match l with
  | [] => (noTok, 0)
  | c :: r =>
    if letterB c then (if while_ innerB l ≤ 24 then (⟨1, l.take (while_ innerB l), 0, 0⟩, while_ innerB l) else (noTok, 0))
    else if c.toNat = 34 then (match textS l with | some (t, n) => (⟨3, t, 0, 0⟩, n) | none => (noTok, 0))
    else if digitB c ∨ (c.toNat = 45 ∧ r.head?.map digitB = some true) then (match numberS l with | some (v, n) => (⟨2, [], v, 0⟩, n) | none => (noTok, 0))
    else if signLen l = 0 then (noTok, 0) else (⟨4, l.take (signLen l), 0, 0⟩, signLen l)

/-- Cut from a place on: what was cut so far, what is left; the answer: the tokens, the place of a fault, the error. -/
def lexGo : Nat → Nat → Bytes → List Tok → List Tok × Nat × Nat
  | 0, _, _, acc => (acc, 0, 0)
  | k + 1, at_, rest, acc =>
    match rest with
    | [] => (acc, 0, 0)
    | c :: r =>
      if blankB c then lexGo k (at_ + 1) r acc
      else if (oneS rest).2 = 0 then ([], at_, 110)
      else lexGo k (at_ + (oneS rest).2) (rest.drop (oneS rest).2) (acc ++ [{ (oneS rest).1 with at_ := at_ }])
def lexS (l : Bytes) : List Tok × Nat × Nat := if l.length > 2048 then ([], 0, 2) else lexGo (l.length + 1) 0 l []

/-! Bounds -/
theorem textFrom_bd : ∀ (r acc : Bytes) (i : Nat) (t : Bytes) (n : Nat), textFrom acc i r = some (t, n) → i + 1 ≤ n ∧ n ≤ i + r.length ∧ t.length + i + 1 ≤ acc.length + n := by
  intro r
  induction hm : r.length using Nat.strongRecOn generalizing r with
  | _ m ih =>
    intro acc i t n h
    match r with
    | [] => simp [textFrom] at h
    | c :: r =>
      unfold textFrom at h
      simp only [List.length_cons] at hm
      split at h
      · simp only [Option.some.injEq, Prod.mk.injEq] at h
        obtain ⟨rfl, rfl⟩ := h
        simp
        omega
      · split at h
        · split at h
          · cases h
          · rename_i d r'
            simp only [List.length_cons] at hm
            split at h
            · have := ih r'.length (by omega) r' rfl _ _ _ _ h
              simp only [List.length_append, List.length_cons, List.length_nil] at this ⊢
              omega
            · cases h
        · have := ih r.length (by omega) r rfl _ _ _ _ h
          simp only [List.length_append, List.length_cons, List.length_nil] at this ⊢
          omega
theorem textS_bd {l t : Bytes} {n : Nat} (hl : l ≠ []) (h : textS l = some (t, n)) : 2 ≤ n ∧ n ≤ l.length ∧ t.length ≤ 64 := by
  unfold textS at h
  split at h
  · rename_i t' n' h'
    split at h
    · simp only [Option.some.injEq, Prod.mk.injEq] at h
      obtain ⟨rfl, rfl⟩ := h
      have := textFrom_bd _ _ _ _ _ h'
      have hp : 0 < l.length := List.length_pos_iff.2 hl
      simp only [List.length_drop] at this
      refine ⟨by omega, by omega, by assumption⟩
    · cases h
  · cases h
theorem numLen_le (l : Bytes) : numLen l ≤ l.length := by
  unfold numLen
  split
  · rename_i h
    match l with
    | [] => simp at h
    | c :: r =>
      have := while_le digitB r
      simp
      omega
  · exact while_le _ _
theorem signLen_le (l : Bytes) : signLen l ≤ l.length ∧ signLen l ≤ 2 := by
  match l with
  | [] => simp [signLen]
  | c :: r =>
    simp only [signLen]
    split
    · rename_i h
      match r with
      | [] => simp at h
      | d :: r => simp
    · split <;> simp
theorem oneS_le (l : Bytes) : (oneS l).2 ≤ l.length := by
  unfold oneS
  split
  · exact Nat.zero_le _
  · rename_i c r
    split
    · split
      · exact while_le _ _
      · exact Nat.zero_le _
    · split
      · split
        · rename_i t n h; exact (textS_bd (by simp) h).2.1
        · exact Nat.zero_le _
      · split
        · split
          · rename_i v n h
            unfold numberS at h
            split at h
            · split at h
              · simp only [Option.some.injEq, Prod.mk.injEq] at h
                obtain ⟨_, rfl⟩ := h
                exact numLen_le _
              · cases h
            · cases h
          · exact Nat.zero_le _
        · split
          · exact Nat.zero_le _
          · exact (signLen_le (c :: r)).1
end Go.Proofs.YtlonkcmkgmbkcaaDoor.LexS
