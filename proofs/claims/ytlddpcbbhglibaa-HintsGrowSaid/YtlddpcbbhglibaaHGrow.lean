/- HintsGrow: what holds of what is laid together, plainly. -/
import Derived.Test.YtlddpcbbhglibaaHSureP
namespace Go.Proofs.Ytlddpcbbhglibaa
open Go.RowKit Bits
set_option maxHeartbeats 4000000

/-- What an index holds behind i hosts. -/
def gA (hs : List ByteArray) : Nat → Option B
  | 0 => none
  | i + 1 => some (layB (gA hs i) (wB (hs.getD i ⟨#[]⟩)))
theorem wf_gA (hs : List ByteArray) (i : Nat) : ∀ b, gA hs i = some b → WF b := by
  induction i with
  | zero => intro b h; cases h
  | succ i ih =>
    intro b h
    unfold gA at h
    injection h with h
    subst h
    exact wf_layB ih (wf_ofB _)
theorem gA_some (hs : List ByteArray) (i : Nat) : (gA hs i).isSome = decide (0 < i) := by
  cases i with
  | zero => rfl
  | succ i => simp [gA]
theorem layB_some (a b : B) : layB (some a) b = joinB a b := by
  unfold layB
  rw [at_some]
theorem layB_none (b : B) : layB none b = b := by
  funext k
  show (0 ||| b k) = b k
  exact Nat.zero_or _
theorem joinB_comm (x y : B) : joinB x y = joinB y x := by funext k; unfold joinB; exact Nat.or_comm _ _
theorem joinSt_comm (x y : Option B) : joinSt x y = joinSt y x := by
  cases x <;> cases y
  · rfl
  · show some (layB none _) = some _
    rw [layB_none]
  · show some _ = some (layB none _)
    rw [layB_none]
  · show some (layB (some _) _) = some (layB (some _) _)
    rw [layB_some, layB_some, joinB_comm]
theorem wf_joinSt {x y : Option B} (hx : ∀ b, x = some b → WF b) (hy : ∀ b, y = some b → WF b) : ∀ b, joinSt x y = some b → WF b := by
  intro b h
  cases y with
  | none => exact hx b h
  | some d =>
    injection h with h
    subst h
    exact wf_layB hx (hy d rfl)
theorem joinSt_some (x y : Option B) : (joinSt x y).isSome = (x.isSome || y.isSome) := by cases x <;> cases y <;> rfl
theorem joinSt_left {x : B} {y : Option B} (hx : WF x) (hy : ∀ b, y = some b → WF b) : ∃ c, joinSt (some x) y = some c ∧ withinB x c = true := by
  cases y with
  | none => exact ⟨x, rfl, (Bits.within_iff hx hx).2 fun _ _ h => h⟩
  | some d => exact ⟨_, rfl, within_lay (st := some x) (fun b h => by cases h; exact hx) (hy d rfl) hx (.inl ⟨x, rfl, (Bits.within_iff hx hx).2 fun _ _ h => h⟩)⟩
theorem within_zero {x : B} (h : withinB x zero = true) (y : B) : withinB x y = true := by
  unfold withinB joinB zero at *
  simp only [Nat.or_zero, decide_eq_true_eq] at h ⊢
  obtain ⟨h0, h1, h2, h3⟩ := h
  simp [h0, h1, h2, h3]
theorem within_at {z b c : B} (hz : WF z) (hb : WF b) (hc : WF c) (h : withinB b c = true) (nm : ByteArray) (hh : withinB z (bitsAt (some b) load nm) = true) : withinB z (bitsAt (some c) load nm) = true := by
  unfold bitsAt at *
  dsimp only at *
  split
  · rename_i he
    rw [if_pos he] at hh
    exact within_trans hz hb hc hh h
  · rename_i he
    rw [if_neg he] at hh
    exact hh
theorem mayOne_mono {b c : B} (hb : WF b) (hc : WF c) (h : withinB b c = true) {m1 m2 : List Bool} (hm : ∀ j, m1.getD j false = true → m2.getD j false = true) (d : NodeV) (k : Nat) (hh : mayOne (some b) m1 d k = true) : mayOne (some c) m2 d k = true := by
  unfold mayOne at *
  split
  · rename_i he
    rw [if_pos he] at hh
    rw [Bool.and_eq_true] at hh ⊢
    exact ⟨hm _ hh.1, hm _ hh.2⟩
  · rename_i he
    rw [if_neg he] at hh
    split
    · rename_i he2
      rw [if_pos he2] at hh
      rw [Bool.or_eq_true] at hh ⊢
      exact hh.imp (hm _) (hm _)
    · rename_i he2
      rw [if_neg he2] at hh
      split
      · rename_i he3
        rw [if_pos he3] at hh
        exact within_at (wf_ofB _) hb hc h _ hh
      · rename_i he3
        rw [if_neg he3] at hh
        split
        · rename_i he4
          rw [if_pos he4] at hh
          exact within_at (wf_ofB _) hb hc h _ hh
        · rfl
theorem getD_app (l : List Bool) (x : Bool) (j : Nat) : (l ++ [x]).getD j false = if j < l.length then l.getD j false else if j = l.length then x else false := by
  simp only [List.getD, List.getElem?_append]
  split
  · rfl
  · rename_i h
    split
    · rename_i h'
      subst h'
      simp
    · rename_i h'
      rw [List.getElem?_eq_none (by simp; omega)]
      rfl
theorem mayTo_mono {b c : B} (hb : WF b) (hc : WF c) (h : withinB b c = true) (l : List NodeV) (k : Nat) : ∀ j, (mayTo (some b) l k).getD j false = true → (mayTo (some c) l k).getD j false = true := by
  induction k with
  | zero => intro j hj; exact hj
  | succ k ih =>
    intro j hj
    unfold mayTo at hj ⊢
    rw [getD_app, mayTo_len] at hj ⊢
    split
    · rename_i hl
      rw [if_pos hl] at hj
      exact ih j hj
    · rename_i hl
      rw [if_neg hl] at hj
      split
      · rename_i he
        rw [if_pos he] at hj
        cases hd : l[k]? with
        | none => rw [hd] at hj; cases hj
        | some d =>
          rw [hd] at hj
          exact mayOne_mono hb hc h ih d k hj
      · rename_i he
        rw [if_neg he] at hj
        exact hj
/-- What Might answers. -/
def mgt (st : Option B) (l : List NodeV) (i : Nat) : Bool := match st with
  | none => false
  | some b => (mayTo (some b) l (i + 1)).getD i false
theorem mgt_left {x y : Option B} (hx : ∀ b, x = some b → WF b) (hy : ∀ b, y = some b → WF b) (l : List NodeV) (i : Nat) (h : mgt x l i = true) : mgt (joinSt x y) l i = true := by
  cases x with
  | none => cases h
  | some b =>
    obtain ⟨c, hc, hw⟩ := joinSt_left (hx b rfl) hy
    rw [hc]
    exact mayTo_mono (hx b rfl) (wf_joinSt hx hy c hc) hw l (i + 1) i h
end Go.Proofs.Ytlddpcbbhglibaa
