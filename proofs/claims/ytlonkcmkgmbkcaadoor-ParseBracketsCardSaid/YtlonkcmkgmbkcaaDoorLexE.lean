/- The walk of lex.one: the token at a text's front is read as the plain lexer reads it. -/
import Derived.Test.YtlonkcmkgmbkcaaDoorLexD
namespace Go.Proofs.YtlonkcmkgmbkcaaDoor
open Go.RowKit LexS
set_option maxHeartbeats 4000000

theorem one_letter (c : UInt8) (r : Bytes) (h : letterB c = true) : oneS (c :: r) = if while_ innerB (c :: r) ≤ 24 then (⟨1, (c :: r).take (while_ innerB (c :: r)), 0, 0⟩, while_ innerB (c :: r)) else (noTok, 0) := by
  unfold oneS
  dsimp only
  rw [if_pos h]
theorem one_text (c : UInt8) (r : Bytes) (h : letterB c = false) (h34 : c.toNat = 34) : oneS (c :: r) = textT (c :: r) := by
  unfold oneS textT
  dsimp only
  rw [if_neg (by simp [h]), if_pos h34]
  cases textS (c :: r) <;> rfl
theorem one_number (c : UInt8) (r : Bytes) (h : letterB c = false) (h34 : c.toNat ≠ 34) (hd : digitB c = true ∨ (c.toNat = 45 ∧ r.head?.map digitB = some true)) : oneS (c :: r) = numberT (c :: r) := by
  unfold oneS numberT
  dsimp only
  rw [if_neg (by simp [h]), if_neg h34, if_pos hd]
  cases numberS (c :: r) <;> rfl
theorem one_sign (c : UInt8) (r : Bytes) (h : letterB c = false) (h34 : c.toNat ≠ 34) (hd : ¬ (digitB c = true ∨ (c.toNat = 45 ∧ r.head?.map digitB = some true))) : oneS (c :: r) = signT (c :: r) := by
  unfold oneS signT
  dsimp only
  rw [if_neg (by simp [h]), if_neg h34, if_neg hd]
theorem letter_no34 {c : UInt8} (h : c.toNat = 34) : letterB c = false := by simp [letterB, h]

set_option maxRecDepth 100000 in
theorem one_any (s : ByteArray) (c : UInt8) (r : List UInt8) (hl : s.data.toList = c :: r) (hs : s.size ≤ 140737488351232) (w : World) (hg : GW w) :
    Calls Tryd.prog 24 #[.string s] w fun e w' => e = .returned (.tuple #[tokV (oneS s.data.toList).1, .int .i64 ((oneS s.data.toList).2 : Int)]) ∧ Below w.heap.size w w' := by
  have hsz : s.size = r.length + 1 := by rw [← size_list, hl]; rfl
  obtain ⟨h0, hc0, _⟩ := byte_at (i := 0) (by rw [List.drop_zero]; exact hl)
  have hp : (0 : Int) < s.size := by omega
  have hlet := letter_any c
  have hdig := digit_any c
  cases hL : letterB c
  · rw [hL] at hlet
    by_cases h34 : c.toNat = 34
    · have g34 : ((c.toNat : Int) == 34) = true := by rw [h34]; rfl
      have hend := one_text c r hL h34
      rw [← hl] at hend
      have ht := text_any s hs (by omega)
      obtain ⟨⟨y, n⟩, hy⟩ : ∃ q, q = textT s.data.toList := ⟨_, rfl⟩
      rw [hend, ← hy]
      rw [← hy] at ht
      dsimp only at ht ⊢
      rw [tokV_eq y] at ht
      clear hy hend hl hsz h34 hdig
      go_enter Tryd.func24, Tryd.ntmps24
      go_wp2_with fail
      refine (hlet _).mono ?_
      rintro e w1 ⟨rfl, rfl⟩
      go_wp2_with fail
      refine (ht _).mono ?_
      rintro e w1 ⟨rfl, h1⟩
      have hk := (KT.new hg).kept h1
      obtain ⟨r0, r1, r2, r3⟩ := blk_tok hk.2.1
      obtain ⟨f0, f1, f2, f3⟩ := free_tok hk.2.1
      have HF := Lib.hid (KT.fin hk y)
      clear hk h1 ht hlet
      go_wp2_with fail
      exact bodyPost_ret (v := .tuple #[tokV y, .int .i64 (n : Int)]) (res_tok Tryd.results24 rfl rfl HF.out.1) rfl ⟨rfl, HF.out.2⟩
    · have g34 : ((c.toNat : Int) == 34) = false := by rw [beq_eq_false_iff_ne]; omega
      cases hD : digitB c
      · rw [hD] at hdig
        by_cases h45 : c.toNat = 45
        · have g45 : ((c.toNat : Int) == 45) = true := by rw [h45]; rfl
          match r, hl, hsz with
          | [], hl, hsz =>
            have hend := one_sign c [] hL h34 (by rw [hD]; simp)
            have q1 : decide (1 < (s.size : Int)) = false := decide_eq_false (by rw [hsz]; simp)
            have q2 : (s.size : Int) ≤ 1 := by rw [hsz]; simp
            rw [← hl] at hend
            have ht := sign_any s c _ hl hs
            obtain ⟨⟨y, n⟩, hy⟩ : ∃ q, q = signT s.data.toList := ⟨_, rfl⟩
            rw [hend, ← hy]
            rw [← hy] at ht
            dsimp only at ht ⊢
            rw [tokV_eq y] at ht
            have hga := fun o => hg.alloc o
            clear hy hend hl hsz h34 hL hD h45
            go_enter Tryd.func24, Tryd.ntmps24
            go_wp2_with fail
            refine (hlet _).mono ?_
            rintro e w1 ⟨rfl, rfl⟩
            go_wp2_with fail
            refine (hdig _).mono ?_
            rintro e w1 ⟨rfl, rfl⟩
            go_wp2_with fail
            refine (ht _ (hga _)).mono ?_
            rintro e w1 ⟨rfl, h1⟩
            have hk := (KT.new hg).kept h1
            obtain ⟨r0, r1, r2, r3⟩ := blk_tok hk.2.1
            obtain ⟨f0, f1, f2, f3⟩ := free_tok hk.2.1
            have HF := Lib.hid (KT.fin hk y)
            clear hk h1 ht hlet hga
            go_wp2_with fail
            exact bodyPost_ret (v := .tuple #[tokV y, .int .i64 (n : Int)]) (res_tok Tryd.results24 rfl rfl HF.out.1) rfl ⟨rfl, HF.out.2⟩
          | d :: r', hl, hsz =>
            obtain ⟨h1, hc1, _⟩ := byte_at (s := s) (i := 1) (c := d) (r := r') (by rw [hl]; rfl)
            have q1 : decide (1 < (s.size : Int)) = true := decide_eq_true (by omega)
            have q2 : 1 < (s.size : Int) := by omega
            have hdig2 := digit_any d
            cases hE : digitB d
            · rw [hE] at hdig2
              have hend := one_sign c (d :: r') hL h34 (by rw [hD]; simp [hE])
              rw [← hl] at hend
              have ht := sign_any s c _ hl hs
              obtain ⟨⟨y, n⟩, hy⟩ : ∃ q, q = signT s.data.toList := ⟨_, rfl⟩
              rw [hend, ← hy]
              rw [← hy] at ht
              dsimp only at ht ⊢
              rw [tokV_eq y] at ht
              have hga := fun o => hg.alloc o
              clear hy hend hl hsz h34 hL hD h45 hE
              go_enter Tryd.func24, Tryd.ntmps24
              go_wp2_with fail
              refine (hlet _).mono ?_
              rintro e w1 ⟨rfl, rfl⟩
              go_wp2_with fail
              refine (hdig _).mono ?_
              rintro e w1 ⟨rfl, rfl⟩
              go_wp2_with fail
              refine (hdig2 _).mono ?_
              rintro e w1 ⟨rfl, rfl⟩
              go_wp2_with fail
              refine (ht _ (hga _)).mono ?_
              rintro e w1 ⟨rfl, h1⟩
              have hk := (KT.new hg).kept h1
              obtain ⟨r0, r1, r2, r3⟩ := blk_tok hk.2.1
              obtain ⟨f0, f1, f2, f3⟩ := free_tok hk.2.1
              have HF := Lib.hid (KT.fin hk y)
              clear hk h1 ht hlet hga
              go_wp2_with fail
              exact bodyPost_ret (v := .tuple #[tokV y, .int .i64 (n : Int)]) (res_tok Tryd.results24 rfl rfl HF.out.1) rfl ⟨rfl, HF.out.2⟩
            · rw [hE] at hdig2
              have hend := one_number c (d :: r') hL h34 (.inr ⟨h45, by simp [hE]⟩)
              rw [← hl] at hend
              have ht := number_any s c _ hl hs
              obtain ⟨⟨y, n⟩, hy⟩ : ∃ q, q = numberT s.data.toList := ⟨_, rfl⟩
              rw [hend, ← hy]
              rw [← hy] at ht
              dsimp only at ht ⊢
              rw [tokV_eq y] at ht
              have hga := fun o => hg.alloc o
              clear hy hend hl hsz h34 hL hD h45 hE
              go_enter Tryd.func24, Tryd.ntmps24
              go_wp2_with fail
              refine (hlet _).mono ?_
              rintro e w1 ⟨rfl, rfl⟩
              go_wp2_with fail
              refine (hdig _).mono ?_
              rintro e w1 ⟨rfl, rfl⟩
              go_wp2_with fail
              refine (hdig2 _).mono ?_
              rintro e w1 ⟨rfl, rfl⟩
              go_wp2_with fail
              refine (ht _ (hga _)).mono ?_
              rintro e w1 ⟨rfl, h1⟩
              have hk := (KT.new hg).kept h1
              obtain ⟨r0, r1, r2, r3⟩ := blk_tok hk.2.1
              obtain ⟨f0, f1, f2, f3⟩ := free_tok hk.2.1
              have HF := Lib.hid (KT.fin hk y)
              clear hk h1 ht hlet hga
              go_wp2_with fail
              exact bodyPost_ret (v := .tuple #[tokV y, .int .i64 (n : Int)]) (res_tok Tryd.results24 rfl rfl HF.out.1) rfl ⟨rfl, HF.out.2⟩
        · have g45 : ((c.toNat : Int) == 45) = false := by rw [beq_eq_false_iff_ne]; omega
          have hend := one_sign c r hL h34 (by rw [hD]; simp [h45])
          rw [← hl] at hend
          have ht := sign_any s c _ hl hs
          obtain ⟨⟨y, n⟩, hy⟩ : ∃ q, q = signT s.data.toList := ⟨_, rfl⟩
          rw [hend, ← hy]
          rw [← hy] at ht
          dsimp only at ht ⊢
          rw [tokV_eq y] at ht
          have hga := fun o => hg.alloc o
          clear hy hend hl hsz h34 hL hD h45
          go_enter Tryd.func24, Tryd.ntmps24
          go_wp2_with fail
          refine (hlet _).mono ?_
          rintro e w1 ⟨rfl, rfl⟩
          go_wp2_with fail
          refine (hdig _).mono ?_
          rintro e w1 ⟨rfl, rfl⟩
          go_wp2_with fail
          refine (ht _ (hga _)).mono ?_
          rintro e w1 ⟨rfl, h1⟩
          have hk := (KT.new hg).kept h1
          obtain ⟨r0, r1, r2, r3⟩ := blk_tok hk.2.1
          obtain ⟨f0, f1, f2, f3⟩ := free_tok hk.2.1
          have HF := Lib.hid (KT.fin hk y)
          clear hk h1 ht hlet hga
          go_wp2_with fail
          exact bodyPost_ret (v := .tuple #[tokV y, .int .i64 (n : Int)]) (res_tok Tryd.results24 rfl rfl HF.out.1) rfl ⟨rfl, HF.out.2⟩
      · rw [hD] at hdig
        have hend := one_number c r hL h34 (.inl hD)
        rw [← hl] at hend
        have ht := number_any s c _ hl hs
        obtain ⟨⟨y, n⟩, hy⟩ : ∃ q, q = numberT s.data.toList := ⟨_, rfl⟩
        rw [hend, ← hy]
        rw [← hy] at ht
        dsimp only at ht ⊢
        rw [tokV_eq y] at ht
        have hga := fun o => hg.alloc o
        clear hy hend hl hsz h34 hL hD
        go_enter Tryd.func24, Tryd.ntmps24
        go_wp2_with fail
        refine (hlet _).mono ?_
        rintro e w1 ⟨rfl, rfl⟩
        go_wp2_with fail
        refine (hdig _).mono ?_
        rintro e w1 ⟨rfl, rfl⟩
        go_wp2_with fail
        refine (ht _ (hga _)).mono ?_
        rintro e w1 ⟨rfl, h1⟩
        have hk := (KT.new hg).kept h1
        obtain ⟨r0, r1, r2, r3⟩ := blk_tok hk.2.1
        obtain ⟨f0, f1, f2, f3⟩ := free_tok hk.2.1
        have HF := Lib.hid (KT.fin hk y)
        clear hk h1 ht hlet hga
        go_wp2_with fail
        exact bodyPost_ret (v := .tuple #[tokV y, .int .i64 (n : Int)]) (res_tok Tryd.results24 rfl rfl HF.out.1) rfl ⟨rfl, HF.out.2⟩
  · rw [hL] at hlet
    have hend := one_letter c r hL
    rw [← hl] at hend
    have hwi := while_inner s hs
    have hwl := while_le innerB s.data.toList
    rw [size_list] at hwl
    obtain ⟨q, hq⟩ : ∃ q, q = while_ innerB s.data.toList := ⟨_, rfl⟩
    rw [← hq] at hwi hend hwl
    have b0 : (0 : Int) ≤ (q : Int) := by omega
    have b1 : (q : Int) ≤ (s.size : Int) := by omega
    have hcut := cut_text s 0 q
    rw [List.drop_zero] at hcut
    by_cases h24 : q ≤ 24
    · rw [if_pos h24] at hend
      rw [hend]
      have b2 : (q : Int) ≤ 24 := by omega
      have hcut2 : s.extract 0 q = ⟨(s.data.toList.take q).toArray⟩ := hcut
      have HT := new_tok (w := w) ⟨1, s.data.toList.take q, 0, 0⟩
      have HT := Lib.hid HT
      clear hend hl hsz hq hcut hdig
      go_enter Tryd.func24, Tryd.ntmps24
      go_wp2_with fail
      refine (hlet _).mono ?_
      rintro e w1 ⟨rfl, rfl⟩
      go_wp2_with fail
      refine (hwi _).mono ?_
      rintro e w1 ⟨rfl, rfl⟩
      go_wp2_with fail
      exact bodyPost_ret (v := .tuple #[tokV ⟨1, s.data.toList.take q, 0, 0⟩, .int .i64 (q : Int)]) (res_tok Tryd.results24 rfl rfl HT.out.1) rfl ⟨rfl, HT.out.2⟩
    · rw [if_neg h24] at hend
      rw [hend]
      have b2 : 24 < (q : Int) := by omega
      have HT := new_tok (w := w) noTok
      have HT := Lib.hid HT
      clear hend hl hsz hq hcut hdig
      go_enter Tryd.func24, Tryd.ntmps24
      go_wp2_with fail
      refine (hlet _).mono ?_
      rintro e w1 ⟨rfl, rfl⟩
      go_wp2_with fail
      refine (hwi _).mono ?_
      rintro e w1 ⟨rfl, rfl⟩
      go_wp2_with fail
      exact bodyPost_ret (v := .tuple #[tokV noTok, .int .i64 0]) (res_tok Tryd.results24 rfl rfl HT.out.1) rfl ⟨rfl, HT.out.2⟩
end Go.Proofs.YtlonkcmkgmbkcaaDoor
