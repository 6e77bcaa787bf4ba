/- catchmentref11.Same at two rows of tokens that say the same: true. -/
import Derived.Test.YtlonkcmkgmbkcaaDoorPlacesW
namespace Go.Proofs.YtlonkcmkgmbkcaaDoor
open Go.RowKit LexS BigFrame
set_option maxHeartbeats 4000000

def SameToks (pl : Bool) (x y : List Tok) : Prop := x.length = y.length ∧ ∀ (i : Nat) (t u : Tok), x[i]? = some t → y[i]? = some u → t.kind = u.kind ∧ t.s = u.s ∧ t.n = u.n ∧ (pl = true → t.at_ = u.at_)

set_option maxRecDepth 100000 in
theorem same_any (pl : Bool) (x y : List Tok) (v1 v2 : Value) (b1 b2 : Nat) (w : World) (o1 : w.ownsRow b1 32 4 v1 x.length (toksL x)) (o2 : w.ownsRow b2 32 4 v2 y.length (toksL y)) (hs : SameToks pl x y) :
    Calls Tryd.prog 15 #[v1, v2, .bool pl] w fun e w' => e = .returned (.bool true) ∧ Drawn w w' := by
  obtain ⟨p1, cap1, rfl, hc1, hm1, hr1⟩ := row_any o1
  obtain ⟨p2, cap2, rfl, hc2, hm2, hr2⟩ := row_any o2
  simp only [maxLen] at hm1
  obtain ⟨hle, hsm⟩ := hs
  have HS := Lib.hid hsm
  have HR1 := Lib.hid hr1
  have HR2 := Lib.hid hr2
  clear hsm hr1 hr2 o1 o2 hm2
  rw [← hle] at hc2 ⊢
  have hne2 : x ≠ [] → y ≠ [] := by
    intro h h2
    rw [h2] at hle
    exact h (List.eq_nil_of_length_eq_zero hle)
  have HN2 := Lib.hid hne2
  have HL := Lib.hid hle
  clear hne2 hle
  go_enter Tryd.func15, Tryd.ntmps15
  go_wp2_with fail
  go_loopg [7] (x.length + 1) (fun gk c wr => ∃ i : Nat, i ≤ x.length ∧ x.length < i + gk ∧ c = .int .i64 (i : Int) ∧ Drawn w wr)
  case atStart => exact ⟨0, Nat.zero_le _, by omega, rfl, 0, rfl⟩
  case round =>
    obtain ⟨i, hi, hgk, rfl, k, rfl⟩ := hrel
    by_cases hlt : i < x.length
    · have hne : x ≠ [] := by intro h; rw [h] at hlt; simp at hlt
      obtain ⟨g1, rfl, _, _, hcells1⟩ := HR1.out hne
      obtain ⟨g2, rfl, _, _, hcells2⟩ := HR2.out (HN2.out hne)
      obtain ⟨t, ht⟩ : ∃ t, x[i]? = some t := ⟨x[i], List.getElem?_eq_getElem hlt⟩
      obtain ⟨u, hu⟩ : ∃ u, y[i]? = some u := ⟨y[i]'(by rw [← HL.out]; exact hlt), List.getElem?_eq_getElem (by rw [← HL.out]; exact hlt)⟩
      obtain ⟨e0, e1, e2, e3⟩ := HS.out i t u ht hu
      obtain ⟨c0, c1, c2, c3⟩ := hcells1 i t ht
      obtain ⟨d0, d1, d2, d3⟩ := hcells2 i u hu
      rw [← e0] at d0
      rw [← e1] at d1
      rw [← e2] at d2
      have n5 : (i : Int) < (x.length : Int) := by omega
      have n6 : (0 : Int) ≤ (i : Int) := by omega
      have w1_ : IntKind.i64.wrap ((i : Int) + 1) = (i : Int) + 1 := IntWalk.i64_in _ (by omega)
      clear hcells1 hcells2 hne e0 e1 e2 ht hu hi hm1
      cases pl
      · clear e3
        go_wp2_with fail
        go_big_quiet (fail)
        go_wp2_with fail
        go_roundg (x.length - i)
        case measure => omega
        case rel => exact ⟨i + 1, by omega, by omega, rfl, by repeat (first | exact Drawn.base _ _ | apply Drawn.more)⟩
      · rw [← e3 rfl] at d3
        clear e3
        go_wp2_with fail
        go_big_quiet (fail)
        go_wp2_with fail
        go_roundg (x.length - i)
        case measure => omega
        case rel => exact ⟨i + 1, by omega, by omega, rfl, by repeat (first | exact Drawn.base _ _ | apply Drawn.more)⟩
    · have hie : i = x.length := by omega
      subst hie
      go_wp2_with fail
      exact bodyPost_ret (results_tmp rfl _ _ _) rfl ⟨rfl, Drawn.base _ _⟩
end Go.Proofs.YtlonkcmkgmbkcaaDoor
