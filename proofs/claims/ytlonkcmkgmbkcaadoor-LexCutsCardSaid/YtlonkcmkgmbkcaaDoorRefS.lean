/- The walk of catchmentref11.sign: the longest sign at a text's front. -/
import Derived.Test.YtlonkcmkgmbkcaaDoorLexE
import Derived.Test.YtlonkcmkgmbkcaaDoorPlacesW
namespace Go.Proofs.YtlonkcmkgmbkcaaDoor
open Go.RowKit LexS BigFrame
set_option maxHeartbeats 4000000

def ones : Bytes := [124, 44, 40, 41, 58, 61, 60, 62]
theorem ones_is (c : UInt8) : ones.contains c = decide (c.toNat = 124 ∨ c.toNat = 44 ∨ c.toNat = 40 ∨ c.toNat = 41 ∨ c.toNat = 58 ∨ c.toNat = 61 ∨ c.toNat = 60 ∨ c.toNat = 62) :=
  byte_all (fun c => ones.contains c = decide (c.toNat = 124 ∨ c.toNat = 44 ∨ c.toNat = 40 ∨ c.toNat = 41 ∨ c.toNat = 58 ∨ c.toNat = 61 ∨ c.toNat = 60 ∨ c.toNat = 62)) (by decide +kernel) c
theorem sign_short {c : UInt8} {r : Bytes} (hno : ¬ ((r.head?.map (·.toNat) = some 61) ∧ (c.toNat = 33 ∨ c.toNat = 60 ∨ c.toNat = 62))) : (c :: r).take (signLen (c :: r)) = if ones.contains c then [c] else [] := by
  simp only [signLen]
  rw [if_neg hno, ones_is]
  by_cases h : c.toNat = 124 ∨ c.toNat = 44 ∨ c.toNat = 40 ∨ c.toNat = 41 ∨ c.toNat = 58 ∨ c.toNat = 61 ∨ c.toNat = 60 ∨ c.toNat = 62
  · rw [if_pos h, decide_eq_true h]; rfl
  · rw [if_neg h, decide_eq_false h]; rfl
theorem sign_long {c : UInt8} {r : Bytes} (h : c.toNat = 33 ∨ c.toNat = 60 ∨ c.toNat = 62) : (c :: 61 :: r).take (signLen (c :: 61 :: r)) = [c, 61] := by
  have : signLen (c :: 61 :: r) = 2 := by simp [signLen, h]
  rw [this]
  rfl
def two : Array Value := #[.string ⟨#[33, 61]⟩, .string ⟨#[60, 61]⟩, .string ⟨#[62, 61]⟩]
theorem drawn_below {w W0 W : World} (hb : Below w.heap.size w W0) (h : Drawn W0 W) : Below w.heap.size w W := by
  obtain ⟨k, rfl⟩ := h
  exact below_drewN hb k
theorem cells_two (w : World) : ∃ W0, W0 = w.alloc (.cells two 9) ∧ W0.cell? ⟨w.heap.size, 0, none⟩ = some (.string ⟨#[33, 61]⟩) ∧ W0.cell? ⟨w.heap.size, 1, none⟩ = some (.string ⟨#[60, 61]⟩) ∧ W0.cell? ⟨w.heap.size, 2, none⟩ = some (.string ⟨#[62, 61]⟩) ∧ Below w.heap.size w W0 :=
  ⟨_, rfl, (Blk.new w 9 two).cell 0, (Blk.new w 9 two).cell 1, (Blk.new w 9 two).cell 2, (Below.refl _ _).alloc (Nat.le_refl _) _⟩


set_option maxRecDepth 100000 in
theorem rsign_long0 (s : ByteArray) (r : Bytes) (hl : s.data.toList = 33 :: 61 :: r) (hs : s.size ≤ 140737488351232) (w : World) :
    Calls Tryd.prog 45 #[.string s] w fun e w' => e = .returned (.string ⟨(s.data.toList.take (signLen s.data.toList)).toArray⟩) ∧ Below w.heap.size w w' := by
  have hsz : s.size = r.length + 2 := by rw [← size_list, hl]; rfl
  have e2 : s.extract 0 2 = ⟨#[33, 61]⟩ := by rw [cut_text, hl]; rfl
  have hg2 : (2 : Int) ≤ s.size := by omega
  have hg3 : decide ((2 : Int) ≤ (s.size : Int)) = true := decide_eq_true hg2
  have hg4 : 2 ≤ s.size := by omega
  have m0 : ((⟨#[33, 61]⟩ : ByteArray).toList == (⟨#[33, 61]⟩ : ByteArray).toList) = true := by simp only [toList_data]; decide
  have m1 : ((⟨#[33, 61]⟩ : ByteArray).toList == (⟨#[60, 61]⟩ : ByteArray).toList) = false := by simp only [toList_data]; decide
  have m2 : ((⟨#[33, 61]⟩ : ByteArray).toList == (⟨#[62, 61]⟩ : ByteArray).toList) = false := by simp only [toList_data]; decide
  have hend := sign_long (c := 33) (r := r) (by decide)
  rw [← hl] at hend
  rw [hend]
  clear hend hl hsz
  obtain ⟨W0, hW0, z0, z1, z2, hB⟩ := cells_two w
  have HW := Lib.hid hW0
  have HB := Lib.hid hB
  clear hW0 hB
  go_enter Tryd.func45, Tryd.ntmps45
  go_wp2_with fail
  go_loopg [4] 5 (fun gk cv wr => ∃ i : Nat, i ≤ 0 ∧ 0 < i + gk ∧ cv = .int .i64 (i : Int) ∧ Drawn W0 wr)
  case atStart => exact ⟨0, by omega, by omega, rfl, by rw [HW.out]; exact Drawn.base _ 0⟩
  case round =>
    obtain ⟨i, hi, hgk, rfl, k, rfl⟩ := hrel
    have hi' : i = 0 := by omega
    rcases hi' with rfl
    · go_wp2_with fail
      go_big_quiet (fail)
      go_wp2_with fail
      exact bodyPost_ret (results_tmp rfl _ _ _) rfl ⟨rfl, drawn_below HB.out (by repeat (first | exact Drawn.base _ _ | apply Drawn.more))⟩


set_option maxRecDepth 100000 in
theorem rsign_long1 (s : ByteArray) (r : Bytes) (hl : s.data.toList = 60 :: 61 :: r) (hs : s.size ≤ 140737488351232) (w : World) :
    Calls Tryd.prog 45 #[.string s] w fun e w' => e = .returned (.string ⟨(s.data.toList.take (signLen s.data.toList)).toArray⟩) ∧ Below w.heap.size w w' := by
  have hsz : s.size = r.length + 2 := by rw [← size_list, hl]; rfl
  have e2 : s.extract 0 2 = ⟨#[60, 61]⟩ := by rw [cut_text, hl]; rfl
  have hg2 : (2 : Int) ≤ s.size := by omega
  have hg3 : decide ((2 : Int) ≤ (s.size : Int)) = true := decide_eq_true hg2
  have hg4 : 2 ≤ s.size := by omega
  have m0 : ((⟨#[60, 61]⟩ : ByteArray).toList == (⟨#[33, 61]⟩ : ByteArray).toList) = false := by simp only [toList_data]; decide
  have m1 : ((⟨#[60, 61]⟩ : ByteArray).toList == (⟨#[60, 61]⟩ : ByteArray).toList) = true := by simp only [toList_data]; decide
  have m2 : ((⟨#[60, 61]⟩ : ByteArray).toList == (⟨#[62, 61]⟩ : ByteArray).toList) = false := by simp only [toList_data]; decide
  have hend := sign_long (c := 60) (r := r) (by decide)
  rw [← hl] at hend
  rw [hend]
  clear hend hl hsz
  obtain ⟨W0, hW0, z0, z1, z2, hB⟩ := cells_two w
  have HW := Lib.hid hW0
  have HB := Lib.hid hB
  clear hW0 hB
  go_enter Tryd.func45, Tryd.ntmps45
  go_wp2_with fail
  go_loopg [4] 5 (fun gk cv wr => ∃ i : Nat, i ≤ 1 ∧ 1 < i + gk ∧ cv = .int .i64 (i : Int) ∧ Drawn W0 wr)
  case atStart => exact ⟨0, by omega, by omega, rfl, by rw [HW.out]; exact Drawn.base _ 0⟩
  case round =>
    obtain ⟨i, hi, hgk, rfl, k, rfl⟩ := hrel
    have hi' : i = 0 ∨ i = 1 := by omega
    rcases hi' with rfl | rfl
    · go_wp2_with fail
      go_big_quiet (fail)
      go_wp2_with fail
      go_roundg (1 - 0)
      case measure => omega
      case rel => exact ⟨1, by omega, by omega, rfl, by repeat (first | exact Drawn.base _ _ | apply Drawn.more)⟩
    · go_wp2_with fail
      go_big_quiet (fail)
      go_wp2_with fail
      exact bodyPost_ret (results_tmp rfl _ _ _) rfl ⟨rfl, drawn_below HB.out (by repeat (first | exact Drawn.base _ _ | apply Drawn.more))⟩


set_option maxRecDepth 100000 in
theorem rsign_long2 (s : ByteArray) (r : Bytes) (hl : s.data.toList = 62 :: 61 :: r) (hs : s.size ≤ 140737488351232) (w : World) :
    Calls Tryd.prog 45 #[.string s] w fun e w' => e = .returned (.string ⟨(s.data.toList.take (signLen s.data.toList)).toArray⟩) ∧ Below w.heap.size w w' := by
  have hsz : s.size = r.length + 2 := by rw [← size_list, hl]; rfl
  have e2 : s.extract 0 2 = ⟨#[62, 61]⟩ := by rw [cut_text, hl]; rfl
  have hg2 : (2 : Int) ≤ s.size := by omega
  have hg3 : decide ((2 : Int) ≤ (s.size : Int)) = true := decide_eq_true hg2
  have hg4 : 2 ≤ s.size := by omega
  have m0 : ((⟨#[62, 61]⟩ : ByteArray).toList == (⟨#[33, 61]⟩ : ByteArray).toList) = false := by simp only [toList_data]; decide
  have m1 : ((⟨#[62, 61]⟩ : ByteArray).toList == (⟨#[60, 61]⟩ : ByteArray).toList) = false := by simp only [toList_data]; decide
  have m2 : ((⟨#[62, 61]⟩ : ByteArray).toList == (⟨#[62, 61]⟩ : ByteArray).toList) = true := by simp only [toList_data]; decide
  have hend := sign_long (c := 62) (r := r) (by decide)
  rw [← hl] at hend
  rw [hend]
  clear hend hl hsz
  obtain ⟨W0, hW0, z0, z1, z2, hB⟩ := cells_two w
  have HW := Lib.hid hW0
  have HB := Lib.hid hB
  clear hW0 hB
  go_enter Tryd.func45, Tryd.ntmps45
  go_wp2_with fail
  go_loopg [4] 5 (fun gk cv wr => ∃ i : Nat, i ≤ 2 ∧ 2 < i + gk ∧ cv = .int .i64 (i : Int) ∧ Drawn W0 wr)
  case atStart => exact ⟨0, by omega, by omega, rfl, by rw [HW.out]; exact Drawn.base _ 0⟩
  case round =>
    obtain ⟨i, hi, hgk, rfl, k, rfl⟩ := hrel
    have hi' : i = 0 ∨ i = 1 ∨ i = 2 := by omega
    rcases hi' with rfl | rfl | rfl
    · go_wp2_with fail
      go_big_quiet (fail)
      go_wp2_with fail
      go_roundg (2 - 0)
      case measure => omega
      case rel => exact ⟨1, by omega, by omega, rfl, by repeat (first | exact Drawn.base _ _ | apply Drawn.more)⟩
    · go_wp2_with fail
      go_big_quiet (fail)
      go_wp2_with fail
      go_roundg (2 - 1)
      case measure => omega
      case rel => exact ⟨2, by omega, by omega, rfl, by repeat (first | exact Drawn.base _ _ | apply Drawn.more)⟩
    · go_wp2_with fail
      go_big_quiet (fail)
      go_wp2_with fail
      exact bodyPost_ret (results_tmp rfl _ _ _) rfl ⟨rfl, drawn_below HB.out (by repeat (first | exact Drawn.base _ _ | apply Drawn.more))⟩


set_option maxRecDepth 100000 in
theorem rsign_two (s : ByteArray) (c d : UInt8) (r : Bytes) (hl : s.data.toList = c :: d :: r) (hno : ¬ (((d :: r : Bytes).head?.map (·.toNat) = some 61) ∧ (c.toNat = 33 ∨ c.toNat = 60 ∨ c.toNat = 62))) (hs : s.size ≤ 140737488351232) (w : World) :
    Calls Tryd.prog 45 #[.string s] w fun e w' => e = .returned (.string ⟨(s.data.toList.take (signLen s.data.toList)).toArray⟩) ∧ Below w.heap.size w w' := by
  have hsz : s.size = r.length + 2 := by rw [← size_list, hl]; rfl
  have e2 : s.extract 0 2 = ⟨#[c, d]⟩ := by rw [cut_text, hl]; rfl
  have hg2 : (2 : Int) ≤ s.size := by omega
  have hg3 : decide ((2 : Int) ≤ (s.size : Int)) = true := decide_eq_true hg2
  have hg4 : 2 ≤ s.size := by omega
  have hne : ∀ x : UInt8, (x.toNat = 33 ∨ x.toNat = 60 ∨ x.toNat = 62) → ¬ (c = x ∧ d = 61) := by
    rintro x hx ⟨rfl, rfl⟩
    exact hno ⟨rfl, hx⟩
  have n0 := hne 33 (by decide)
  have n1 := hne 60 (by decide)
  have n2 := hne 62 (by decide)
  have m0 : (c == 33 && d == 61) = false := by
    cases h : (c == 33 && d == 61)
    · rfl
    · simp only [Bool.and_eq_true, beq_iff_eq] at h
      exact absurd h n0
  have m1 : (c == 60 && d == 61) = false := by
    cases h : (c == 60 && d == 61)
    · rfl
    · simp only [Bool.and_eq_true, beq_iff_eq] at h
      exact absurd h n1
  have m2 : (c == 62 && d == 61) = false := by
    cases h : (c == 62 && d == 61)
    · rfl
    · simp only [Bool.and_eq_true, beq_iff_eq] at h
      exact absurd h n2
  obtain ⟨h0, hc0, _⟩ := byte_at (i := 0) (by rw [List.drop_zero]; exact hl)
  have e1 : s.extract 0 1 = ⟨#[c]⟩ := by rw [cut_text, hl]; rfl
  have hp : (0 : Int) < s.size := by omega
  have hp1 : (1 : Int) ≤ s.size := by omega
  have hend : s.data.toList.take (signLen s.data.toList) = if ones.contains c then [c] else [] := by rw [hl]; exact sign_short hno
  obtain ⟨R, hR⟩ : ∃ R, R = s.data.toList.take (signLen s.data.toList) := ⟨_, rfl⟩
  rw [← hR] at hend ⊢
  have HS := Lib.hid hend
  clear hR hend hno hl hsz hne n0 n1 n2
  obtain ⟨W0, hW0, z0, z1, z2, hB⟩ := cells_two w
  have HW := Lib.hid hW0
  have HB := Lib.hid hB
  clear hW0 hB
  go_enter Tryd.func45, Tryd.ntmps45
  go_wp2_with fail
  go_loopg [4] 5 (fun gk cv wr => ∃ i : Nat, i ≤ 3 ∧ 3 < i + gk ∧ cv = .int .i64 (i : Int) ∧ Drawn W0 wr)
  case atStart => exact ⟨0, by omega, by omega, rfl, by rw [HW.out]; exact Drawn.base _ 0⟩
  case round =>
    obtain ⟨i, hi, hgk, rfl, k, rfl⟩ := hrel
    have hi' : i = 0 ∨ i = 1 ∨ i = 2 ∨ i = 3 := by omega
    rcases hi' with rfl | rfl | rfl | rfl
    · go_wp2_with fail
      go_big_quiet (fail)
      go_wp2_with fail
      go_roundg (3 - 0)
      case measure => omega
      case rel => exact ⟨1, by omega, by omega, rfl, by repeat (first | exact Drawn.base _ _ | apply Drawn.more)⟩
    · go_wp2_with fail
      go_big_quiet (fail)
      go_wp2_with fail
      go_roundg (3 - 1)
      case measure => omega
      case rel => exact ⟨2, by omega, by omega, rfl, by repeat (first | exact Drawn.base _ _ | apply Drawn.more)⟩
    · go_wp2_with fail
      go_big_quiet (fail)
      go_wp2_with fail
      go_roundg (3 - 2)
      case measure => omega
      case rel => exact ⟨3, by omega, by omega, rfl, by repeat (first | exact Drawn.base _ _ | apply Drawn.more)⟩
    · clear hi hgk
      go_wp2_with fail
      generalize hO : (⟨#[124, 44, 40, 41, 58, 61, 60, 62]⟩ : ByteArray) = O
      have hOs : O.size = 8 := by rw [← hO]; rfl
      have hOl : O.data.toList = ones := by rw [← hO]; rfl
      clear hO
      go_loopg [6] 9 (fun gk cv wr => ∃ i : Nat, i ≤ 8 ∧ 8 < i + gk ∧ cv = .int .i64 (i : Int) ∧ ones.contains c = (ones.drop i).contains c ∧ Drawn W0 wr)
      case atStart => exact ⟨0, by omega, by omega, rfl, rfl, by repeat (first | exact Drawn.base _ _ | apply Drawn.more)⟩
      case round =>
        obtain ⟨i, hi, hgk, rfl, hcn, k, rfl⟩ := hrel
        match hd : O.data.toList.drop i with
        | [] =>
          have he := at_end hd
          rw [hOl] at hd
          have hend : ones.contains c = false := by rw [hcn, hd]; rfl
          have HD := Lib.hid (show R = [] by rw [HS.out, hend]; rfl)
          clear hend hcn hd hOl
          have k1 : ¬ ((i : Int) < 8) := by omega
          have k2 : decide ((i : Int) < 8) = false := decide_eq_false k1
          have k3 : decide (i < 8) = false := decide_eq_false (by omega)
          go_wp2_with fail
          exact bodyPost_ret (results_tmp rfl _ _ _) rfl ⟨by rw [HD.out]; rfl, drawn_below HB.out (by repeat (first | exact Drawn.base _ _ | apply Drawn.more))⟩
        | x :: t =>
          obtain ⟨hlt, hx, hr⟩ := byte_at hd
          rw [hOl] at hd hr
          have k0 : i < 8 := by omega
          have k1 : ((i : Int) < 8) := by omega
          have k2 : decide ((i : Int) < 8) = true := decide_eq_true k1
          have k3 : decide (i < 8) = true := decide_eq_true k0
          have a7 : IntKind.i64.wrap ((i : Int) + 1) = (i : Int) + 1 := IntWalk.i64_in _ (by omega)
          by_cases hcx : c = x
          · have hend : ones.contains c = true := by rw [hcn, hd, hcx]; simp
            have HD := Lib.hid (show R = [c] by rw [HS.out, hend]; rfl)
            have g1 : ((c.toNat : Int) == (x.toNat : Int)) = true := by rw [hcx]; exact beq_self_eq_true _
            clear hend hcn hd hOl hcx hr
            go_wp2_with fail
            go_big_quiet (fail)
            go_wp2_with fail
            exact bodyPost_ret (results_tmp rfl _ _ _) rfl ⟨by rw [HD.out]; rfl, drawn_below HB.out (by repeat (first | exact Drawn.base _ _ | apply Drawn.more))⟩
          · have hnx : ones.contains c = (ones.drop (i + 1)).contains c := by
              rw [hcn, hd, hr, List.contains_cons]
              simp [hcx]
            have HN := Lib.hid hnx
            have g1 : ((c.toNat : Int) == (x.toNat : Int)) = false := by
              rw [beq_eq_false_iff_ne]
              intro e
              exact hcx (UInt8.toNat_inj.1 (by omega))
            clear hnx hcn hd hOl hcx hr
            go_wp2_with fail
            go_big_quiet (fail)
            go_wp2_with fail
            go_roundg (8 - i)
            case measure => omega
            case rel => exact ⟨i + 1, by omega, by omega, by go_num, HN.out, by repeat (first | exact Drawn.base _ _ | apply Drawn.more)⟩


set_option maxRecDepth 100000 in
theorem rsign_one (s : ByteArray) (c : UInt8) (hl : s.data.toList = [c]) (_ : s.size ≤ 140737488351232) (w : World) :
    Calls Tryd.prog 45 #[.string s] w fun e w' => e = .returned (.string ⟨(s.data.toList.take (signLen s.data.toList)).toArray⟩) ∧ Below w.heap.size w w' := by
  have hno : ¬ ((([] : Bytes).head?.map (·.toNat) = some 61) ∧ (c.toNat = 33 ∨ c.toNat = 60 ∨ c.toNat = 62)) := by simp
  have hsz : s.size = 1 := by rw [← size_list, hl]; rfl
  have hg2 : ¬ ((2 : Int) ≤ s.size) := by omega
  have hg3 : decide ((2 : Int) ≤ (s.size : Int)) = false := decide_eq_false hg2
  have hg4 : decide (2 ≤ s.size) = false := decide_eq_false (by omega)
  obtain ⟨h0, hc0, _⟩ := byte_at (i := 0) (by rw [List.drop_zero]; exact hl)
  have e1 : s.extract 0 1 = ⟨#[c]⟩ := by rw [cut_text, hl]; rfl
  have hp : (0 : Int) < s.size := by omega
  have hp1 : (1 : Int) ≤ s.size := by omega
  have hend : s.data.toList.take (signLen s.data.toList) = if ones.contains c then [c] else [] := by rw [hl]; exact sign_short hno
  obtain ⟨R, hR⟩ : ∃ R, R = s.data.toList.take (signLen s.data.toList) := ⟨_, rfl⟩
  rw [← hR] at hend ⊢
  have HS := Lib.hid hend
  clear hR hend hno hl hsz
  obtain ⟨W0, hW0, z0, z1, z2, hB⟩ := cells_two w
  have HW := Lib.hid hW0
  have HB := Lib.hid hB
  clear hW0 hB
  go_enter Tryd.func45, Tryd.ntmps45
  go_wp2_with fail
  go_loopg [4] 5 (fun gk cv wr => ∃ i : Nat, i ≤ 3 ∧ 3 < i + gk ∧ cv = .int .i64 (i : Int) ∧ Drawn W0 wr)
  case atStart => exact ⟨0, by omega, by omega, rfl, by rw [HW.out]; exact Drawn.base _ 0⟩
  case round =>
    obtain ⟨i, hi, hgk, rfl, k, rfl⟩ := hrel
    have hi' : i = 0 ∨ i = 1 ∨ i = 2 ∨ i = 3 := by omega
    rcases hi' with rfl | rfl | rfl | rfl
    · go_wp2_with fail
      go_big_quiet (fail)
      go_wp2_with fail
      go_roundg (3 - 0)
      case measure => omega
      case rel => exact ⟨1, by omega, by omega, rfl, by repeat (first | exact Drawn.base _ _ | apply Drawn.more)⟩
    · go_wp2_with fail
      go_big_quiet (fail)
      go_wp2_with fail
      go_roundg (3 - 1)
      case measure => omega
      case rel => exact ⟨2, by omega, by omega, rfl, by repeat (first | exact Drawn.base _ _ | apply Drawn.more)⟩
    · go_wp2_with fail
      go_big_quiet (fail)
      go_wp2_with fail
      go_roundg (3 - 2)
      case measure => omega
      case rel => exact ⟨3, by omega, by omega, rfl, by repeat (first | exact Drawn.base _ _ | apply Drawn.more)⟩
    · clear hi hgk
      go_wp2_with fail
      generalize hO : (⟨#[124, 44, 40, 41, 58, 61, 60, 62]⟩ : ByteArray) = O
      have hOs : O.size = 8 := by rw [← hO]; rfl
      have hOl : O.data.toList = ones := by rw [← hO]; rfl
      clear hO
      go_loopg [6] 9 (fun gk cv wr => ∃ i : Nat, i ≤ 8 ∧ 8 < i + gk ∧ cv = .int .i64 (i : Int) ∧ ones.contains c = (ones.drop i).contains c ∧ Drawn W0 wr)
      case atStart => exact ⟨0, by omega, by omega, rfl, rfl, by repeat (first | exact Drawn.base _ _ | apply Drawn.more)⟩
      case round =>
        obtain ⟨i, hi, hgk, rfl, hcn, k, rfl⟩ := hrel
        match hd : O.data.toList.drop i with
        | [] =>
          have he := at_end hd
          rw [hOl] at hd
          have hend : ones.contains c = false := by rw [hcn, hd]; rfl
          have HD := Lib.hid (show R = [] by rw [HS.out, hend]; rfl)
          clear hend hcn hd hOl
          have k1 : ¬ ((i : Int) < 8) := by omega
          have k2 : decide ((i : Int) < 8) = false := decide_eq_false k1
          have k3 : decide (i < 8) = false := decide_eq_false (by omega)
          go_wp2_with fail
          exact bodyPost_ret (results_tmp rfl _ _ _) rfl ⟨by rw [HD.out]; rfl, drawn_below HB.out (by repeat (first | exact Drawn.base _ _ | apply Drawn.more))⟩
        | x :: t =>
          obtain ⟨hlt, hx, hr⟩ := byte_at hd
          rw [hOl] at hd hr
          have k0 : i < 8 := by omega
          have k1 : ((i : Int) < 8) := by omega
          have k2 : decide ((i : Int) < 8) = true := decide_eq_true k1
          have k3 : decide (i < 8) = true := decide_eq_true k0
          have a7 : IntKind.i64.wrap ((i : Int) + 1) = (i : Int) + 1 := IntWalk.i64_in _ (by omega)
          by_cases hcx : c = x
          · have hend : ones.contains c = true := by rw [hcn, hd, hcx]; simp
            have HD := Lib.hid (show R = [c] by rw [HS.out, hend]; rfl)
            have g1 : ((c.toNat : Int) == (x.toNat : Int)) = true := by rw [hcx]; exact beq_self_eq_true _
            clear hend hcn hd hOl hcx hr
            go_wp2_with fail
            go_big_quiet (fail)
            go_wp2_with fail
            exact bodyPost_ret (results_tmp rfl _ _ _) rfl ⟨by rw [HD.out]; rfl, drawn_below HB.out (by repeat (first | exact Drawn.base _ _ | apply Drawn.more))⟩
          · have hnx : ones.contains c = (ones.drop (i + 1)).contains c := by
              rw [hcn, hd, hr, List.contains_cons]
              simp [hcx]
            have HN := Lib.hid hnx
            have g1 : ((c.toNat : Int) == (x.toNat : Int)) = false := by
              rw [beq_eq_false_iff_ne]
              intro e
              exact hcx (UInt8.toNat_inj.1 (by omega))
            clear hnx hcn hd hOl hcx hr
            go_wp2_with fail
            go_big_quiet (fail)
            go_wp2_with fail
            go_roundg (8 - i)
            case measure => omega
            case rel => exact ⟨i + 1, by omega, by omega, by go_num, HN.out, by repeat (first | exact Drawn.base _ _ | apply Drawn.more)⟩


theorem rsign_any (s : ByteArray) (c : UInt8) (r : List UInt8) (hl : s.data.toList = c :: r) (hs : s.size ≤ 140737488351232) (w : World) :
    Calls Tryd.prog 45 #[.string s] w fun e w' => e = .returned (.string ⟨(s.data.toList.take (signLen s.data.toList)).toArray⟩) ∧ Below w.heap.size w w' := by
  match r, hl with
  | [], hl => exact rsign_one s c hl hs w
  | d :: r, hl =>
    by_cases h : ((d :: r : Bytes).head?.map (·.toNat) = some 61) ∧ (c.toNat = 33 ∨ c.toNat = 60 ∨ c.toNat = 62)
    · have hd : d = 61 := by
        have h1 : d.toNat = 61 := by simpa using h.1
        exact UInt8.toNat_inj.1 h1
      subst hd
      rcases h.2 with h | h | h
      · obtain rfl : c = 33 := UInt8.toNat_inj.1 h
        exact rsign_long0 s r hl hs w
      · obtain rfl : c = 60 := UInt8.toNat_inj.1 h
        exact rsign_long1 s r hl hs w
      · obtain rfl : c = 62 := UInt8.toNat_inj.1 h
        exact rsign_long2 s r hl hs w
    · exact rsign_two s c d r hl h hs w
end Go.Proofs.YtlonkcmkgmbkcaaDoor
