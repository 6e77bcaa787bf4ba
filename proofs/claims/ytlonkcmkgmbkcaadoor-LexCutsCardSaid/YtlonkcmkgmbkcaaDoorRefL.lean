/- The walk of catchmentref11.Lex: a text is cut as the plain lexer cuts it. -/
import Derived.Test.YtlonkcmkgmbkcaaDoorRefO
import Derived.Test.YtlonkcmkgmbkcaaDoorLexF
namespace Go.Proofs.YtlonkcmkgmbkcaaDoor
open Go.RowKit LexS
set_option maxHeartbeats 4000000

theorem blank_cases (c : UInt8) (h : blankB c = true) : c.toNat = 32 ∨ (c.toNat ≠ 32 ∧ c.toNat = 9) ∨ (c.toNat ≠ 32 ∧ c.toNat ≠ 9 ∧ c.toNat = 10) ∨ (c.toNat ≠ 32 ∧ c.toNat ≠ 9 ∧ c.toNat ≠ 10 ∧ c.toNat = 13) := by
  unfold blankB at h
  simp only [Bool.or_eq_true, decide_eq_true_eq] at h
  omega
theorem blank_not (c : UInt8) (h : blankB c = false) : c.toNat ≠ 32 ∧ c.toNat ≠ 9 ∧ c.toNat ≠ 10 ∧ c.toNat ≠ 13 := by
  unfold blankB at h
  simp only [Bool.or_eq_false_iff, decide_eq_false_iff_not] at h
  omega
theorem eq_byte {c : UInt8} {n : Nat} (h : c.toNat = n) : ((c.toNat : Int) == (n : Int)) = true := by rw [h]; exact beq_self_eq_true _
theorem ne_byte {c : UInt8} {n : Nat} (h : c.toNat ≠ n) : ((c.toNat : Int) == (n : Int)) = false := by rw [beq_eq_false_iff_ne]; omega
theorem new_one (W : World) (x : Tok) : Blk (W.alloc (.cells (tokA x) 32)) W.heap.size 32 (tokA x) := Blk.new W _ _

set_option maxRecDepth 100000 in
theorem rlex_any (s : ByteArray) (hs : s.size ≤ 140737488351232) (w : World) :
    Calls Tryd.prog 14 #[.string s] w (LexRes (lexS s.data.toList) w) := by
  go_enter Tryd.func14, Tryd.ntmps14
  by_cases h2048 : s.size ≤ 2048
  · have b0 : ¬ (2048 : Int) < (s.size : Int) := by omega
    have b1 : decide ((2048 : Int) < (s.size : Int)) = false := decide_eq_false b0
    have b2 : decide (2048 < s.size) = false := decide_eq_false (by omega)
    have hrel0 := LexRel.start (w := w) h2048
    have H0 := Lib.hid hrel0
    clear hrel0 h2048
    go_wp2_with fail
    go_loopw [5, 6] (fun v c wr => ∃ (a : Nat) (acc : List Tok), c = .int .i64 (a : Int) ∧ LexRel s w a acc v wr) (fun _ c _ => s.size - (intOf c).toNat)
    case atStart => exact ⟨0, [], rfl, H0.out⟩
    case round =>
      obtain ⟨a, acc, rfl, hrel⟩ := hrel
      have h1 := hrel.1
      match hd : s.data.toList.drop a with
      | [] =>
        have he := at_end hd
        have HO := Lib.hid (hrel.res hd)
        clear hrel hd H0
        go_wp2_with fail
        exact bodyPost_ret (res_three rfl rfl rfl rfl) rfl HO.out
      | c :: r =>
        obtain ⟨hlt, hc, hr⟩ := byte_at hd
        have q3 : (0 : Int) ≤ (a : Int) := by omega
        have w1 : IntKind.i64.wrap ((a : Int) + 1) = (a : Int) + 1 := IntWalk.i64_in _ (by omega)
        clear hr
        cases hB : blankB c
        · obtain ⟨m32, m9, m10, m13⟩ := blank_not c hB
          have g32 : ((c.toNat : Int) == 32) = false := ne_byte m32
          have g9 : ((c.toNat : Int) == 9) = false := ne_byte m9
          have g10 : ((c.toNat : Int) == 10) = false := ne_byte m10
          have g13 : ((c.toNat : Int) == 13) = false := ne_byte m13
          have hl := list_from s a
          rw [hd] at hl
          have h1any := rone_any (s.extract a s.size) c r hl (by rw [ByteArray.size_extract]; omega)
          rw [hl] at h1any
          have HR := Lib.hid hrel
          have hsz2 : acc.length ≤ 2048 := by have := hrel.2.1; omega
          have hle := oneS_le (c :: r)
          rw [← hd, List.length_drop, size_list, hd] at hle
          have HD := Lib.hid hd
          have HBk := Lib.hid hB
          have HL := Lib.hid hle
          clear hrel hd H0 hl hB m32 m9 m10 m13 hle
          go_wp2_with fail
          refine (h1any _).mono ?_
          rintro e w3 ⟨y, n, rfl, hOne, hb3⟩
          have HO := Lib.hid hOne
          have HB3 := Lib.hid (chain HR.out.2.2.2.2 hb3)
          have HO3 := Lib.hid (own_kept HR.out.2.2.2.1 hb3)
          rw [tokV_eq y]
          have HN0 := Lib.hid (new_one w3 y)
          by_cases hn : n = 0
          · subst hn
            have hend := HR.out.bad HD.out HBk.out HO.out.1.symm
            have HE := Lib.hid hend
            clear hend hb3 h1any hOne
            go_wp2_with fail
            exact bodyPost_ret (res_three rfl rfl rfl rfl) rfl (by rw [HE.out]; exact nil_res (HB3.out.alloc HB3.out.size _))
          · have hn0 : ((n : Int) == 0) = false := by rw [beq_eq_false_iff_ne]; omega
            have hy : (y, n) = oneS (c :: r) := by rw [HO.out.1, HO.out.2 hn]
            have hle : n ≤ s.size - a := by have := HL.out; rw [← hy] at this; exact this
            have HY := Lib.hid hy
            clear hb3 h1any hy hOne
            obtain ⟨i, hi, hz0, hz1, hz2⟩ := info_parts tok_info
            have HN1 := Lib.hid (new_second w3 { y with at_ := a } { y with at_ := a })
            have HN2 := Lib.hid ((HO3.out.alloc (.cells (tokA { y with at_ := a }) 32)).alloc (.cells (tokA { y with at_ := a }) 32))
            have HN3 := Lib.hid (two_base HB3.out { y with at_ := a } { y with at_ := a })
            go_wp2_with (at_builtin; refine wpList_append_own _ rfl _ _ _ rfl w.heap.size 32 i _ 4 40 (by kernel_rfl) hi hz0 hz1 hz2 rfl (by decide) _ acc.length (toksL acc) rfl HN2.out ⟨w3.heap.size + 1, 0, none⟩ 1 1 (tokA { y with at_ := a }).toList rfl rfl HN1.out (by simp [tokA, Value.oneCell']) (by simp only [maxLen]; omega) (by omega) HN3.out.size ?_)
            intro v' w' ho hgr _
            have HF := Lib.hid (HR.out.tok HD.out HBk.out HY.out hn ho (HN3.out.grown hgr HN3.out.size (fun k hk => (HN2.out.lt k hk).1)))
            have w2 : IntKind.i64.wrap ((a : Int) + (n : Int)) = (a : Int) + n := IntWalk.i64_in _ (by omega)
            clear ho hgr
            go_wp2_with fail
            exact ⟨⟨a + n, acc ++ [{ y with at_ := a }], by simp, HF.out⟩, by simp [intOf]; omega⟩
        · have hnx := hrel.blank hd hB
          have HN := Lib.hid hnx
          have hbc := blank_cases c hB
          clear hnx hrel hd H0 hB
          rcases hbc with h | ⟨h0, h⟩ | ⟨h0, h1, h⟩ | ⟨h0, h1, h2, h⟩
          · have g32 : ((c.toNat : Int) == 32) = true := eq_byte h
            clear h
            go_wp2_with fail
            exact ⟨⟨a + 1, acc, rfl, HN.out⟩, by simp [intOf]; omega⟩
          · have g32 : ((c.toNat : Int) == 32) = false := ne_byte h0
            have g9 : ((c.toNat : Int) == 9) = true := eq_byte h
            clear h h0
            go_wp2_with fail
            exact ⟨⟨a + 1, acc, rfl, HN.out⟩, by simp [intOf]; omega⟩
          · have g32 : ((c.toNat : Int) == 32) = false := ne_byte h0
            have g9 : ((c.toNat : Int) == 9) = false := ne_byte h1
            have g10 : ((c.toNat : Int) == 10) = true := eq_byte h
            clear h h0 h1
            go_wp2_with fail
            exact ⟨⟨a + 1, acc, rfl, HN.out⟩, by simp [intOf]; omega⟩
          · have g32 : ((c.toNat : Int) == 32) = false := ne_byte h0
            have g9 : ((c.toNat : Int) == 9) = false := ne_byte h1
            have g10 : ((c.toNat : Int) == 10) = false := ne_byte h2
            have g13 : ((c.toNat : Int) == 13) = true := eq_byte h
            clear h h0 h1 h2
            go_wp2_with fail
            exact ⟨⟨a + 1, acc, rfl, HN.out⟩, by simp [intOf]; omega⟩
  · have b0 : (2048 : Int) < (s.size : Int) := by omega
    have b1 : decide ((2048 : Int) < (s.size : Int)) = true := decide_eq_true b0
    have b2 : decide (2048 < s.size) = true := decide_eq_true (by omega)
    have hend : lexS s.data.toList = ([], 0, 2) := by
      unfold lexS
      rw [if_pos (by rw [size_list]; omega)]
    rw [hend]
    go_wp2_with fail
    exact bodyPost_ret (res_three rfl rfl rfl rfl) rfl (nil_res (Below.refl _ _))
end Go.Proofs.YtlonkcmkgmbkcaaDoor
