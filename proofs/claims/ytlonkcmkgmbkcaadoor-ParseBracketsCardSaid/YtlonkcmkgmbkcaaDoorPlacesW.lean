/- The walk of LexPlaces: it answers true. -/
import Derived.Test.YtlonkcmkgmbkcaaDoorLexG
import Derived.Test.YtlonkcmkgmbkcaaDoorPlacesP
namespace Go.Proofs.YtlonkcmkgmbkcaaDoor
open Go.RowKit LexS BigFrame
set_option maxHeartbeats 4000000

def Drawn (w W : World) : Prop := ∃ k, W = w.drewN k
theorem Drawn.base (w : World) (k : Nat) : Drawn w (w.drewN k) := ⟨k, rfl⟩
theorem drewN_twice (w : World) (a b : Nat) : (w.drewN a).drewN b = w.drewN (a + b) := by
  simp [World.drewN, Nat.add_assoc]
theorem Drawn.more {w W : World} (h : Drawn w W) (n : Nat) : Drawn w (W.drewN n) := by
  obtain ⟨k, rfl⟩ := h
  exact ⟨k + n, drewN_twice w k n⟩
theorem row_max {W : World} {base : Nat} {v : Value} {n : Nat} {xs : List Value} (h : W.ownsRow base 32 4 v n xs) : n ≤ maxLen := by
  rcases h.2 with ⟨_, h2⟩ | ⟨g, cap, cur, h2, h3, h4, h5, h6, _⟩
  · rw [h2]; exact Nat.zero_le _
  · exact Nat.le_trans h5 h6
theorem row_any {W : World} {base : Nat} {v : Value} {l : List Tok} (h : W.ownsRow base 32 4 v l.length (toksL l)) :
    ∃ p cap, v = .slice p l.length cap ∧ l.length ≤ cap ∧ l.length ≤ maxLen ∧ (l ≠ [] → ∃ g, p = some ⟨g, 0, none⟩ ∧ base ≤ g ∧ g < W.heap.size ∧
      ∀ i t, l[i]? = some t → W.cell? ⟨g, i * 4, none⟩ = some (.int .i64 (t.kind : Int)) ∧ W.cell? ⟨g, i * 4 + 1, none⟩ = some (.string ⟨t.s.toArray⟩) ∧ W.cell? ⟨g, i * 4 + 2, none⟩ = some (.int .i64 t.n) ∧ W.cell? ⟨g, i * 4 + 3, none⟩ = some (.int .i64 (t.at_ : Int))) := by
  by_cases hn : l = []
  · subst hn
    rcases h.2 with ⟨h2, _⟩ | ⟨g, cap, cur, h2, h3, h4, h5, _⟩
    · exact ⟨none, 0, h2, Nat.le_refl _, Nat.zero_le _, fun hc => absurd rfl hc⟩
    · exact ⟨_, cap, h2, Nat.zero_le _, Nat.zero_le _, fun hc => absurd rfl hc⟩
  · obtain ⟨g, cap, h1, h2, h3, h4, h5⟩ := row_form h hn
    exact ⟨_, cap, h1, h2, row_max h, fun _ => ⟨g, rfl, h3, h4, h5⟩⟩

set_option maxRecDepth 100000 in
theorem places_any (s : ByteArray) (hs : s.size ≤ 140737488351232) (w : World) (hg : GW w) :
    Calls Tryd.prog 6 #[.string s] w fun e w' => e = .returned (.bool true) ∧ Below w.heap.size w w' := by
  have hsh := shown_any w hg
  have hlex := lex_any s hs
  have hgood := lexS_good s.data.toList
  have hsmall := lexS_small s.data.toList
  obtain ⟨⟨x, a, er⟩, hx⟩ : ∃ q, q = lexS s.data.toList := ⟨_, rfl⟩
  rw [← hx] at hlex hgood hsmall
  dsimp only at hgood hsmall
  rw [size_list] at hgood hsmall
  clear hx
  go_enter Tryd.func6, Tryd.ntmps6
  go_wp2_with fail
  refine hsh.mono ?_
  rintro e w1 ⟨rfl, b1⟩
  go_wp2_with fail
  refine (hlex _ (hg.kept b1)).mono ?_
  rintro e w2 ⟨v, rfl, o2, b2⟩
  dsimp only at o2 ⊢
  have HB := Lib.hid (chain b1 b2)
  clear b1 b2 hlex hsh hg
  obtain ⟨p, cap, rfl, hcap, hmax, hrow⟩ := row_any o2
  simp only [maxLen] at hmax
  clear o2
  rcases hgood with ⟨he, ha, hgd⟩ | ⟨he, ha, hal⟩
  · subst he
    subst ha
    have hsz := hsmall rfl
    clear hsmall
    have HG := Lib.hid hgd
    have HR := Lib.hid hrow
    clear hgd hrow
    go_wp2_with fail
    go_loopg [7] (x.length + 1) (fun gk c wr => ∃ i : Nat, i ≤ x.length ∧ x.length < i + gk ∧ c = .int .i64 (i : Int) ∧ Drawn w2 wr)
    case atStart => exact ⟨0, Nat.zero_le _, by omega, rfl, 0, rfl⟩
    case round =>
      obtain ⟨i, hi, hgk, rfl, k, rfl⟩ := hrel
      by_cases hlt : i < x.length
      · have hne : x ≠ [] := by intro h; rw [h] at hlt; simp at hlt
        obtain ⟨g, rfl, hg1, hg2, hcells⟩ := HR.out hne
        obtain ⟨t, ht⟩ : ∃ t, x[i]? = some t := ⟨x[i], List.getElem?_eq_getElem hlt⟩
        obtain ⟨hat, hord, hk1, hk4, hw⟩ := HG.out i t ht
        obtain ⟨c0, c1, c2, c3⟩ := hcells i t ht
        have n1 : ¬ ((t.at_ : Int) < 0) := by omega
        have n2 : (t.at_ : Int) < (s.size : Int) := by omega
        have n3 : ¬ ((t.kind : Int) < 1) := by omega
        have n4 : (t.kind : Int) ≤ 4 := by omega
        have d1 : decide ((t.at_ : Int) < 0) = false := decide_eq_false n1
        have d2 : decide ((s.size : Int) ≤ (t.at_ : Int)) = false := decide_eq_false (by omega)
        have d3 : decide ((t.kind : Int) < 1) = false := decide_eq_false n3
        have d4 : decide (4 < (t.kind : Int)) = false := decide_eq_false (by omega)
        have e2 : decide (s.size ≤ t.at_) = false := decide_eq_false (by omega)
        have e3 : decide (t.kind = 0) = false := decide_eq_false (by omega)
        have e4 : decide (4 < t.kind) = false := decide_eq_false (by omega)
        have e6 : ¬ t.kind = 0 := by omega
        have e7 : ¬ s.size ≤ t.at_ := by omega
        have e8 : ¬ 4 < t.kind := by omega
        have n5 : (i : Int) < (x.length : Int) := by omega
        have n6 : (0 : Int) ≤ (i : Int) := by omega
        have w1_ : IntKind.i64.wrap ((i : Int) + 1) = (i : Int) + 1 := IntWalk.i64_in _ (by omega)
        by_cases hi0 : i = 0
        · have hip : ¬ (0 : Int) < (i : Int) := by omega
          have e10 : decide (0 < i) = false := decide_eq_false (by omega)
          have d9 : decide ((0 : Int) < (i : Int)) = false := decide_eq_false hip
          have e11 : ¬ 0 < i := by omega
          have d10 : (i : Int) ≤ 0 := by omega
          have HI := Lib.hid hi0
          clear hi0
          clear hord hcells hi hne hmax
          have HW := Lib.hid hw
          clear hw ht
          go_wp2_with fail
          go_big_quiet (fail)
          by_cases hk : t.kind = 1 ∨ t.kind = 4
          · obtain ⟨hto, hcut⟩ := HW.out hk
            rw [size_list] at hto
            have m1 : (t.at_ : Int) + (t.s.length : Int) ≤ (s.size : Int) := by omega
            have m2 : (0 : Int) ≤ (t.at_ : Int) + (t.s.length : Int) := by omega
            have m3 : (t.at_ : Int) ≤ (t.at_ : Int) + (t.s.length : Int) := by omega
            have m4 : (0 : Int) ≤ (t.at_ : Int) := by omega
            have m5 : IntKind.i64.wrap ((t.at_ : Int) + (t.s.length : Int)) = (t.at_ : Int) + t.s.length := IntWalk.i64_in _ (by omega)
            have m6 : ((t.at_ : Int) + (t.s.length : Int)).toNat = t.at_ + t.s.length := by omega
            have m7 : decide ((s.size : Int) < (t.at_ : Int) + (t.s.length : Int)) = false := decide_eq_false (by omega)
            have m8 : (⟨t.s.toArray⟩ : ByteArray).size = t.s.length := by simp [ByteArray.size]
            have m9 : s.extract t.at_ (t.at_ + t.s.length) = ⟨t.s.toArray⟩ := text_of (by rw [list_cut, List.drop_take, Nat.add_sub_cancel_left]; exact hcut)
            clear hto hcut
            rcases hk with hk | hk
            · have p1 : ((t.kind : Int) == 1) = true := by rw [hk]; rfl
              have p2 : decide (t.kind = 1) = true := by rw [hk]; rfl
              clear hk
              go_wp2_with fail
              go_big_quiet (fail)
              go_wp2_with fail
              go_big_quiet (fail)
              go_wp2_with fail
              go_roundg (x.length - i)
              case measure => omega
              case rel => exact ⟨i + 1, by omega, by omega, rfl, by repeat (first | exact Drawn.base _ _ | apply Drawn.more)⟩
            · have p1 : ((t.kind : Int) == 1) = false := by rw [hk]; rfl
              have p2 : decide (t.kind = 1) = false := by rw [hk]; rfl
              have p3 : ((t.kind : Int) == 4) = true := by rw [hk]; rfl
              have p4 : decide (t.kind = 4) = true := by rw [hk]; rfl
              clear hk
              go_wp2_with fail
              go_big_quiet (fail)
              go_wp2_with fail
              go_big_quiet (fail)
              go_wp2_with fail
              go_roundg (x.length - i)
              case measure => omega
              case rel => exact ⟨i + 1, by omega, by omega, rfl, by repeat (first | exact Drawn.base _ _ | apply Drawn.more)⟩
          · have p1 : ((t.kind : Int) == 1) = false := by rw [beq_eq_false_iff_ne]; omega
            have p2 : decide (t.kind = 1) = false := decide_eq_false (by omega)
            have p3 : ((t.kind : Int) == 4) = false := by rw [beq_eq_false_iff_ne]; omega
            have p4 : decide (t.kind = 4) = false := decide_eq_false (by omega)
            clear hk
            go_wp2_with fail
            go_roundg (x.length - i)
            case measure => omega
            case rel => exact ⟨i + 1, by omega, by omega, rfl, by repeat (first | exact Drawn.base _ _ | apply Drawn.more)⟩
        · have hip : (0 : Int) < (i : Int) := by omega
          obtain ⟨u, hu⟩ : ∃ u, x[i - 1]? = some u := ⟨x[i - 1]'(by omega), List.getElem?_eq_getElem (by omega)⟩
          have hu3 := (hcells (i - 1) u hu).2.2.2
          have hlt2 := hord (i - 1) u (by omega) hu
          have n7 : ¬ ((t.at_ : Int) ≤ (u.at_ : Int)) := by omega
          have d7 : decide ((t.at_ : Int) ≤ (u.at_ : Int)) = false := decide_eq_false n7
          have e5 : decide (t.at_ ≤ u.at_) = false := decide_eq_false (by omega)
          have e9 : ¬ t.at_ ≤ u.at_ := by omega
          have e10 : decide (0 < i) = true := decide_eq_true (by omega)
          have n8 : (0 : Int) ≤ (i : Int) - 1 := by omega
          have n9 : (i : Int) - 1 < (x.length : Int) := by omega
          have t9 : ((i : Int) - 1).toNat = i - 1 := by omega
          have w9 : IntKind.i64.wrap ((i : Int) - 1) = (i : Int) - 1 := IntWalk.i64_in _ (by omega)
          have d9 : decide ((0 : Int) < (i : Int)) = true := decide_eq_true hip
          clear hord hcells hi hne hmax
          have HW := Lib.hid hw
          clear hw ht
          go_wp2_with fail
          go_big_quiet (fail)
          by_cases hk : t.kind = 1 ∨ t.kind = 4
          · obtain ⟨hto, hcut⟩ := HW.out hk
            rw [size_list] at hto
            have m1 : (t.at_ : Int) + (t.s.length : Int) ≤ (s.size : Int) := by omega
            have m2 : (0 : Int) ≤ (t.at_ : Int) + (t.s.length : Int) := by omega
            have m3 : (t.at_ : Int) ≤ (t.at_ : Int) + (t.s.length : Int) := by omega
            have m4 : (0 : Int) ≤ (t.at_ : Int) := by omega
            have m5 : IntKind.i64.wrap ((t.at_ : Int) + (t.s.length : Int)) = (t.at_ : Int) + t.s.length := IntWalk.i64_in _ (by omega)
            have m6 : ((t.at_ : Int) + (t.s.length : Int)).toNat = t.at_ + t.s.length := by omega
            have m7 : decide ((s.size : Int) < (t.at_ : Int) + (t.s.length : Int)) = false := decide_eq_false (by omega)
            have m8 : (⟨t.s.toArray⟩ : ByteArray).size = t.s.length := by simp [ByteArray.size]
            have m9 : s.extract t.at_ (t.at_ + t.s.length) = ⟨t.s.toArray⟩ := text_of (by rw [list_cut, List.drop_take, Nat.add_sub_cancel_left]; exact hcut)
            clear hto hcut
            rcases hk with hk | hk
            · have p1 : ((t.kind : Int) == 1) = true := by rw [hk]; rfl
              have p2 : decide (t.kind = 1) = true := by rw [hk]; rfl
              clear hk
              go_wp2_with fail
              go_big_quiet (fail)
              go_wp2_with fail
              go_big_quiet (fail)
              go_wp2_with fail
              go_roundg (x.length - i)
              case measure => omega
              case rel => exact ⟨i + 1, by omega, by omega, rfl, by repeat (first | exact Drawn.base _ _ | apply Drawn.more)⟩
            · have p1 : ((t.kind : Int) == 1) = false := by rw [hk]; rfl
              have p2 : decide (t.kind = 1) = false := by rw [hk]; rfl
              have p3 : ((t.kind : Int) == 4) = true := by rw [hk]; rfl
              have p4 : decide (t.kind = 4) = true := by rw [hk]; rfl
              clear hk
              go_wp2_with fail
              go_big_quiet (fail)
              go_wp2_with fail
              go_big_quiet (fail)
              go_wp2_with fail
              go_roundg (x.length - i)
              case measure => omega
              case rel => exact ⟨i + 1, by omega, by omega, rfl, by repeat (first | exact Drawn.base _ _ | apply Drawn.more)⟩
          · have p1 : ((t.kind : Int) == 1) = false := by rw [beq_eq_false_iff_ne]; omega
            have p2 : decide (t.kind = 1) = false := decide_eq_false (by omega)
            have p3 : ((t.kind : Int) == 4) = false := by rw [beq_eq_false_iff_ne]; omega
            have p4 : decide (t.kind = 4) = false := decide_eq_false (by omega)
            clear hk
            go_wp2_with fail
            go_roundg (x.length - i)
            case measure => omega
            case rel => exact ⟨i + 1, by omega, by omega, rfl, by repeat (first | exact Drawn.base _ _ | apply Drawn.more)⟩
      · have hie : i = x.length := by omega
        subst hie
        have hB : Below w.heap.size w (w2.drewN k) := below_drewN HB.out k
        go_wp2_with fail
        exact bodyPost_ret (results_tmp rfl _ _ _) rfl ⟨rfl, hB⟩
  · subst ha
    have he2 : ((er : Int) != 0) = true := by rw [bne_iff_ne]; omega
    have ha2 : (a : Int) ≤ (s.size : Int) := by omega
    have ha3 : (0 : Int) ≤ (a : Int) := by omega
    clear hsmall hrow he
    go_wp2_with fail
    exact bodyPost_ret (results_tmp rfl _ _ _) rfl ⟨rfl, HB.out⟩
end Go.Proofs.YtlonkcmkgmbkcaaDoor
