/- HintsSure: the walk where there are hosts. -/
import Derived.Test.YtlddpcbbhglibaaHShown
import Derived.Deep.AppendLies
namespace Go.Proofs.Ytlddpcbbhglibaa
open Go.RowKit Bits
set_option maxHeartbeats 4000000

/-- What the one index (par 0), or the other one, holds behind i hosts. -/
def stA (hs : List ByteArray) (par : Nat) : Nat → Option B
  | 0 => none
  | i + 1 => if i % 2 = par then some (layB (stA hs par i) (wB (hs.getD i ⟨#[]⟩))) else stA hs par i
theorem wf_layB {st : Option B} (h : ∀ b, st = some b → WF b) {b : B} (hb : WF b) : WF (layB st b) := wf_joinB (wf_at h _ _) hb
theorem wf_stA (hs : List ByteArray) (par i : Nat) : ∀ b, stA hs par i = some b → WF b := by
  induction i with
  | zero => intro b h; cases h
  | succ i ih =>
    intro b h
    unfold stA at h
    split at h
    · injection h with h
      subst h
      exact wf_layB ih (wf_ofB _)
    · exact ih b h
theorem at_some (b : B) : bitsAt (some b) load host = b := by simp [bitsAt]
theorem within_joinL {x y : B} (hx : WF x) (hy : WF y) : withinB x (joinB x y) = true := (Bits.within_iff hx (wf_joinB hx hy)).2 fun n _ h => by rw [has_joinB, h]; rfl
theorem within_joinR {x y : B} (hx : WF x) (hy : WF y) : withinB y (joinB x y) = true := (Bits.within_iff hy (wf_joinB hx hy)).2 fun n _ h => by rw [has_joinB, h]; simp
theorem within_lay {st : Option B} (hst : ∀ b, st = some b → WF b) {b z : B} (hb : WF b) (hz : WF z) (h : (∃ c, st = some c ∧ withinB z c = true) ∨ withinB z b = true) : withinB z (layB st b) = true := by
  have hw := wf_at hst load host
  rcases h with ⟨c, rfl, hc⟩ | h
  · exact within_trans hz (hst c rfl) (wf_joinB hw hb) hc (by have := within_joinL hw hb; rw [at_some] at this; unfold layB; rw [at_some]; exact this)
  · exact within_trans hz hb (wf_joinB hw hb) h (within_joinR hw hb)
theorem stA_has (hs : List ByteArray) (par : Nat) : ∀ (i k : Nat), k < i → k % 2 = par → ∃ c, stA hs par i = some c ∧ withinB (wB (hs.getD k ⟨#[]⟩)) c = true := by
  intro i
  induction i with
  | zero => intro k h; omega
  | succ i ih =>
    intro k hk hp
    unfold stA
    by_cases hi : i % 2 = par
    · rw [if_pos hi]
      refine ⟨_, rfl, within_lay (wf_stA hs par i) (wf_ofB _) (wf_ofB _) ?_⟩
      rcases Nat.lt_or_ge k i with h | h
      · exact .inl (ih k h hp)
      · obtain rfl : k = i := by omega
        exact .inr ((Bits.within_iff (wf_ofB _) (wf_ofB _)).2 fun _ _ h => h)
    · rw [if_neg hi]
      exact ih k (by
        rcases Nat.lt_or_ge k i with h | h
        · exact h
        · obtain rfl : k = i := by omega
          exact absurd hp hi) hp
/-- What both hold together. -/
def allB (hs : List ByteArray) (n : Nat) : Option B := joinSt (stA hs 0 n) (stA hs 1 n)
theorem all_has (hs : List ByteArray) (n k : Nat) (hk : k < n) : ∃ c, allB hs n = some c ∧ withinB (wB (hs.getD k ⟨#[]⟩)) c = true := by
  unfold allB
  have hw1 := wf_stA hs 1 n
  rcases (by omega : k % 2 = 0 ∨ k % 2 = 1) with h | h
  · obtain ⟨c, hc, hz⟩ := stA_has hs 0 n k hk h
    cases h1 : stA hs 1 n with
    | none => exact ⟨c, by rw [hc]; rfl, hz⟩
    | some d => exact ⟨_, rfl, within_lay (wf_stA hs 0 n) (hw1 d h1) (wf_ofB _) (.inl ⟨c, hc, hz⟩)⟩
  · obtain ⟨c, hc, hz⟩ := stA_has hs 1 n k hk h
    rw [hc]
    exact ⟨_, rfl, within_lay (wf_stA hs 0 n) (hw1 c hc) (wf_ofB _) (.inr hz)⟩
theorem wf_all (hs : List ByteArray) (n : Nat) : ∀ b, allB hs n = some b → WF b := by
  intro b h
  unfold allB joinSt at h
  cases h1 : stA hs 1 n with
  | none => rw [h1] at h; exact wf_stA hs 0 n b h
  | some d =>
    rw [h1] at h
    injection h with h
    subst h
    exact wf_layB (wf_stA hs 0 n) (wf_stA hs 1 n d h1)

/-- How it stands at the head of each round. -/
structure SR (w : World) (x m n y m2 n2 : Nat) (sx sy : Option B) (W : World) : Prop where
  ix : Idx W x m n sx.isSome sx
  iy : Idx W y m2 n2 sy.isSome sy
  below : Below w.heap.size w W
section
variable {w W W' : World} {x m n y m2 n2 : Nat} {sx sy : Option B} {b : B}
theorem SR.step (h : SR w x m n y m2 n2 sx sy W) (hb : Below W.heap.size W W') : SR w x m n y m2 n2 sx sy W' := ⟨h.ix.below hb, h.iy.below hb, chain' h.below hb⟩
theorem SR.addx (h : SR w x m n y m2 n2 sx sy W) (ap : Apart m n y m2 n2) (hm : w.heap.size ≤ m) (hn : w.heap.size ≤ n) (i : Idx W' x m n true (some b)) (k : Kept m n W W') : SR w x m n y m2 n2 (some b) sy W' :=
  ⟨i, h.iy.keptA ap k (h.ix.blk_ne h.iy.at_), k.base h.below (Nat.le_refl _) hm hn⟩
theorem SR.addy (h : SR w x m n y m2 n2 sx sy W) (ap : Apart m2 n2 x m n) (hm : w.heap.size ≤ m2) (hn : w.heap.size ≤ n2) (i : Idx W' y m2 n2 true (some b)) (k : Kept m2 n2 W W') : SR w x m n y m2 n2 sx (some b) W' :=
  ⟨h.ix.keptA ap k (h.iy.blk_ne h.ix.at_), i, k.base h.below (Nat.le_refl _) hm hn⟩
theorem SR.host (h : SR w x m n y m2 n2 sx sy W) {a : Addr} {v : Value} (hv : w.cell? a = some v) : W.cell? a = some v := keepv h.below hv
end
end Go.Proofs.Ytlddpcbbhglibaa
