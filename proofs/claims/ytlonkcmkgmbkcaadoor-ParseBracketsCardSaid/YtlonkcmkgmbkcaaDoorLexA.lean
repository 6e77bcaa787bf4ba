/- The walks of the lexers' small functions: letters, digits, inner signs; how many bytes a text begins with that are so. -/
import Derived.Test.YtlonkcmkgmbkcaaDoorMem
import Derived.Test.YtlonkcmkgmbkcaaDoorLexSpec
namespace Go.Proofs.YtlonkcmkgmbkcaaDoor
open Go.RowKit LexS
set_option maxHeartbeats 400000

theorem letter_any (c : UInt8) (w : World) : Calls Tryd.prog 33 #[.int .u8 (c.toNat : Int)] w fun e w' => e = .returned (.bool (letterB c)) ∧ w = w' := by
  unfold letterB
  by_cases h : 97 ≤ c.toNat
  · have h' : (97 : Int) ≤ c.toNat := by omega
    rw [decide_eq_true h, Bool.true_and]
    go_enter Tryd.func33, Tryd.ntmps33
    go_wp2
    go_ret
    exact ⟨by simp; omega, rfl⟩
  · have h' : (c.toNat : Int) < 97 := by omega
    rw [decide_eq_false h, Bool.false_and]
    go_enter Tryd.func33, Tryd.ntmps33
    go_wp2
    go_ret
    exact ⟨by simp, rfl⟩
theorem digit_any (c : UInt8) (w : World) : Calls Tryd.prog 37 #[.int .u8 (c.toNat : Int)] w fun e w' => e = .returned (.bool (digitB c)) ∧ w = w' := by
  unfold digitB
  by_cases h : 48 ≤ c.toNat
  · have h' : (48 : Int) ≤ c.toNat := by omega
    rw [decide_eq_true h, Bool.true_and]
    go_enter Tryd.func37, Tryd.ntmps37
    go_wp2
    go_ret
    exact ⟨by simp; omega, rfl⟩
  · have h' : (c.toNat : Int) < 48 := by omega
    rw [decide_eq_false h, Bool.false_and]
    go_enter Tryd.func37, Tryd.ntmps37
    go_wp2
    go_ret
    exact ⟨by simp, rfl⟩
theorem inner_any (c : UInt8) (w : World) : Calls Tryd.prog 35 #[.int .u8 (c.toNat : Int)] w fun e w' => e = .returned (.bool (innerB c)) ∧ w = w' := by
  have h1 := letter_any c
  have h2 := digit_any c
  unfold innerB
  cases hl : letterB c
  · rw [hl] at h1
    cases hd : digitB c
    · rw [hd] at h2
      by_cases h95 : c.toNat = 95
      · have g : ((c.toNat : Int) == 95) = true := by rw [h95]; rfl
        rw [decide_eq_true h95]
        clear h95
        go_enter Tryd.func35, Tryd.ntmps35
        go_wp2_with fail
        refine (h1 _).mono ?_
        rintro e w1 ⟨rfl, rfl⟩
        go_wp2_with fail
        refine (h2 _).mono ?_
        rintro e w1 ⟨rfl, rfl⟩
        go_wp2_with fail
        go_ret
        exact ⟨rfl, rfl⟩
      · have g : ((c.toNat : Int) == 95) = false := by rw [beq_eq_false_iff_ne]; omega
        rw [decide_eq_false h95]
        clear h95
        go_enter Tryd.func35, Tryd.ntmps35
        go_wp2_with fail
        refine (h1 _).mono ?_
        rintro e w1 ⟨rfl, rfl⟩
        go_wp2_with fail
        refine (h2 _).mono ?_
        rintro e w1 ⟨rfl, rfl⟩
        go_wp2_with fail
        go_ret
        exact ⟨rfl, rfl⟩
    · rw [hd] at h2
      go_enter Tryd.func35, Tryd.ntmps35
      go_wp2_with fail
      refine (h1 _).mono ?_
      rintro e w1 ⟨rfl, rfl⟩
      go_wp2_with fail
      refine (h2 _).mono ?_
      rintro e w1 ⟨rfl, rfl⟩
      go_wp2_with fail
      go_ret
      exact ⟨rfl, rfl⟩
  · rw [hl] at h1
    go_enter Tryd.func35, Tryd.ntmps35
    go_wp2_with fail
    refine (h1 _).mono ?_
    rintro e w1 ⟨rfl, rfl⟩
    go_wp2_with fail
    go_ret
    exact ⟨rfl, rfl⟩
theorem rletter_any (c : UInt8) (w : World) : Calls Tryd.prog 40 #[.int .u8 (c.toNat : Int)] w fun e w' => e = .returned (.bool (letterB c)) ∧ w = w' := by
  unfold letterB
  by_cases h : 97 ≤ c.toNat
  · have h' : (97 : Int) ≤ c.toNat := by omega
    rw [decide_eq_true h, Bool.true_and]
    go_enter Tryd.func40, Tryd.ntmps40
    go_wp2
    go_ret
    exact ⟨by simp; omega, rfl⟩
  · have h' : (c.toNat : Int) < 97 := by omega
    rw [decide_eq_false h, Bool.false_and]
    go_enter Tryd.func40, Tryd.ntmps40
    go_wp2
    go_ret
    exact ⟨by simp, rfl⟩
theorem rdigit_any (c : UInt8) (w : World) : Calls Tryd.prog 43 #[.int .u8 (c.toNat : Int)] w fun e w' => e = .returned (.bool (digitB c)) ∧ w = w' := by
  unfold digitB
  by_cases h : 48 ≤ c.toNat
  · have h' : (48 : Int) ≤ c.toNat := by omega
    rw [decide_eq_true h, Bool.true_and]
    go_enter Tryd.func43, Tryd.ntmps43
    go_wp2
    go_ret
    exact ⟨by simp; omega, rfl⟩
  · have h' : (c.toNat : Int) < 48 := by omega
    rw [decide_eq_false h, Bool.false_and]
    go_enter Tryd.func43, Tryd.ntmps43
    go_wp2
    go_ret
    exact ⟨by simp, rfl⟩
theorem rinner_any (c : UInt8) (w : World) : Calls Tryd.prog 41 #[.int .u8 (c.toNat : Int)] w fun e w' => e = .returned (.bool (innerB c)) ∧ w = w' := by
  have h1 := rletter_any c
  have h2 := rdigit_any c
  unfold innerB
  cases hl : letterB c
  · rw [hl] at h1
    cases hd : digitB c
    · rw [hd] at h2
      by_cases h95 : c.toNat = 95
      · have g : ((c.toNat : Int) == 95) = true := by rw [h95]; rfl
        rw [decide_eq_true h95]
        clear h95
        go_enter Tryd.func41, Tryd.ntmps41
        go_wp2_with fail
        refine (h1 _).mono ?_
        rintro e w1 ⟨rfl, rfl⟩
        go_wp2_with fail
        refine (h2 _).mono ?_
        rintro e w1 ⟨rfl, rfl⟩
        go_wp2_with fail
        go_ret
        exact ⟨rfl, rfl⟩
      · have g : ((c.toNat : Int) == 95) = false := by rw [beq_eq_false_iff_ne]; omega
        rw [decide_eq_false h95]
        clear h95
        go_enter Tryd.func41, Tryd.ntmps41
        go_wp2_with fail
        refine (h1 _).mono ?_
        rintro e w1 ⟨rfl, rfl⟩
        go_wp2_with fail
        refine (h2 _).mono ?_
        rintro e w1 ⟨rfl, rfl⟩
        go_wp2_with fail
        go_ret
        exact ⟨rfl, rfl⟩
    · rw [hd] at h2
      go_enter Tryd.func41, Tryd.ntmps41
      go_wp2_with fail
      refine (h1 _).mono ?_
      rintro e w1 ⟨rfl, rfl⟩
      go_wp2_with fail
      refine (h2 _).mono ?_
      rintro e w1 ⟨rfl, rfl⟩
      go_wp2_with fail
      go_ret
      exact ⟨rfl, rfl⟩
  · rw [hl] at h1
    go_enter Tryd.func41, Tryd.ntmps41
    go_wp2_with fail
    refine (h1 _).mono ?_
    rintro e w1 ⟨rfl, rfl⟩
    go_wp2_with fail
    go_ret
    exact ⟨rfl, rfl⟩

/-- How many bytes have been gone through: all were so. -/
theorem while_step (p : UInt8 → Bool) : ∀ (k : Nat) (l : Bytes), k ≤ l.length → (∀ i, i < k → l[i]?.map p = some true) → while_ p l = k + while_ p (l.drop k) := by
  intro k
  induction k with
  | zero => intro l _ _; simp
  | succ k ih =>
    intro l hl h
    match l with
    | [] => simp at hl
    | c :: r =>
      have h0 := h 0 (by omega)
      simp only [List.getElem?_cons_zero, Option.map_some, Option.some.injEq] at h0
      simp only [while_, h0, if_true, List.drop_succ_cons]
      have := ih r (by simpa using hl) (fun i hi => by have := h (i + 1) (by omega); simpa using this)
      omega
theorem while_digit (s : ByteArray) (hs : s.size ≤ 140737488351232) (w : World) :
    Calls Tryd.prog 34 #[.string s, .func (.func 37) #[] #[]] w fun e w' => e = .returned (.int .i64 (while_ digitB s.data.toList : Nat)) ∧ w = w' := by
  go_enter Tryd.func34, Tryd.ntmps34
  go_wp2
  go_loop [8] (fun c => ∃ k : Nat, k ≤ s.size ∧ c = .int .i64 k ∧ ∀ i, i < k → s.data.toList[i]?.map digitB = some true) (fun c => s.size - (intOf c).toNat)
  case atStart => exact ⟨0, by omega, rfl, fun i hi => by omega⟩
  case round =>
    obtain ⟨k, hk, rfl, hall⟩ := hrel
    have hst := while_step digitB k s.data.toList (by rw [size_list]; exact hk) hall
    match hd : s.data.toList.drop k with
    | [] =>
      have he := at_end hd
      rw [hd] at hst
      have HS := Lib.hid hst
      clear hst hall hd
      go_wp2
      go_ret
      exact ⟨by rw [HS.out]; simp [while_]; omega, rfl⟩
    | c :: r =>
      obtain ⟨hlt, hc, hr⟩ := byte_at hd
      rw [hd] at hst
      have hall' : digitB c = true → ∀ i, i < k + 1 → s.data.toList[i]?.map digitB = some true := fun hb i hi => by
        rcases Nat.lt_or_ge i k with h | h
        · exact hall i h
        · obtain rfl : i = k := by omega
          rw [← hc] at hb
          rw [List.getElem?_eq_getElem (by rw [size_list]; exact hlt)]
          exact congrArg some hb
      have HA := Lib.hid hall'
      have HS := Lib.hid hst
      have hcall := digit_any c
      clear hst hall hd hall' hr
      cases hb : digitB c
      · rw [hb] at hcall
        go_wp2_with fail
        refine (hcall _).mono ?_
        rintro e w1 ⟨rfl, rfl⟩
        go_wp2_with fail
        go_ret
        exact ⟨by rw [HS.out]; simp [while_, hb], rfl⟩
      · rw [hb] at hcall
        go_wp2_with fail
        refine (hcall _).mono ?_
        rintro e w1 ⟨rfl, rfl⟩
        go_wp2_with fail
        exact ⟨⟨k + 1, by omega, rfl, HA.out hb⟩, by simp [intOf]; omega⟩
theorem while_inner (s : ByteArray) (hs : s.size ≤ 140737488351232) (w : World) :
    Calls Tryd.prog 34 #[.string s, .func (.func 35) #[] #[]] w fun e w' => e = .returned (.int .i64 (while_ innerB s.data.toList : Nat)) ∧ w = w' := by
  go_enter Tryd.func34, Tryd.ntmps34
  go_wp2
  go_loop [8] (fun c => ∃ k : Nat, k ≤ s.size ∧ c = .int .i64 k ∧ ∀ i, i < k → s.data.toList[i]?.map innerB = some true) (fun c => s.size - (intOf c).toNat)
  case atStart => exact ⟨0, by omega, rfl, fun i hi => by omega⟩
  case round =>
    obtain ⟨k, hk, rfl, hall⟩ := hrel
    have hst := while_step innerB k s.data.toList (by rw [size_list]; exact hk) hall
    match hd : s.data.toList.drop k with
    | [] =>
      have he := at_end hd
      rw [hd] at hst
      have HS := Lib.hid hst
      clear hst hall hd
      go_wp2
      go_ret
      exact ⟨by rw [HS.out]; simp [while_]; omega, rfl⟩
    | c :: r =>
      obtain ⟨hlt, hc, hr⟩ := byte_at hd
      rw [hd] at hst
      have hall' : innerB c = true → ∀ i, i < k + 1 → s.data.toList[i]?.map innerB = some true := fun hb i hi => by
        rcases Nat.lt_or_ge i k with h | h
        · exact hall i h
        · obtain rfl : i = k := by omega
          rw [← hc] at hb
          rw [List.getElem?_eq_getElem (by rw [size_list]; exact hlt)]
          exact congrArg some hb
      have HA := Lib.hid hall'
      have HS := Lib.hid hst
      have hcall := inner_any c
      clear hst hall hd hall' hr
      cases hb : innerB c
      · rw [hb] at hcall
        go_wp2_with fail
        refine (hcall _).mono ?_
        rintro e w1 ⟨rfl, rfl⟩
        go_wp2_with fail
        go_ret
        exact ⟨by rw [HS.out]; simp [while_, hb], rfl⟩
      · rw [hb] at hcall
        go_wp2_with fail
        refine (hcall _).mono ?_
        rintro e w1 ⟨rfl, rfl⟩
        go_wp2_with fail
        exact ⟨⟨k + 1, by omega, rfl, HA.out hb⟩, by simp [intOf]; omega⟩
end Go.Proofs.YtlonkcmkgmbkcaaDoor
