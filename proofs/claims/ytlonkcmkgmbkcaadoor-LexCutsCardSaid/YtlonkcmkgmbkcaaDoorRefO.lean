/- The walk of catchmentref11.one: the token at a text's front is read as the plain lexer reads it. -/
import Derived.Test.YtlonkcmkgmbkcaaDoorRefU
import Derived.Test.YtlonkcmkgmbkcaaDoorRefT
import Derived.Test.YtlonkcmkgmbkcaaDoorRefS
namespace Go.Proofs.YtlonkcmkgmbkcaaDoor
open Go.RowKit LexS
set_option maxHeartbeats 4000000

/-- What the reference answers: the plain lexer's token, or none. -/
def OneIs (L : Bytes) (y : Tok) (n : Nat) : Prop := n = (oneS L).2 ∧ (n ≠ 0 → y = (oneS L).1)
theorem oneIs_of {L : Bytes} {y : Tok} {n : Nat} (h : oneS L = (y, n)) : OneIs L y n := by unfold OneIs; rw [h]; exact ⟨rfl, fun _ => rfl⟩
theorem oneIs_none {L : Bytes} {z : Tok} {y : Tok} (h : oneS L = (z, 0)) : OneIs L y 0 := by unfold OneIs; rw [h]; exact ⟨rfl, fun h => absurd rfl h⟩
theorem tok_world (w : World) : ∃ W1, W1 = w.alloc (.cells (tokA noTok) 32) ∧ Blk W1 w.heap.size 32 (tokA noTok) ∧ Below w.heap.size w W1 :=
  ⟨_, rfl, Blk.new w _ _, (Below.refl _ _).alloc (Nat.le_refl _) _⟩
theorem while_cons (p : UInt8 → Bool) (c : UInt8) (r : Bytes) : while_ p (c :: r) = if p c then while_ p r + 1 else 0 := rfl
theorem at_drop {L t : Bytes} {k : Nat} {x : UInt8} (h : L.drop k = x :: t) : L[k]? = some x := by rw [← List.head?_drop, h]; rfl
theorem at_drop_nil {L : Bytes} {k : Nat} (h : L.drop k = []) : L[k]? = none := by rw [← List.head?_drop, h]; rfl
theorem cut_first {s : ByteArray} {c : UInt8} {r : Bytes} (hl : s.data.toList = c :: r) {k : Nat} (hk : k ≤ s.size) (h1 : 1 ≤ k) : ∃ h : 0 < (s.extract 0 k).size, (s.extract 0 k)[0]'h = c := by
  have h2 : (s.extract 0 k).data.toList.drop 0 = c :: (r.take (k - 1)) := by
    rw [list_cut, List.drop_zero, List.drop_zero, hl]
    obtain ⟨j, rfl⟩ : ∃ j, k = j + 1 := ⟨k - 1, by omega⟩
    simp
  obtain ⟨a, b, _⟩ := byte_at h2
  exact ⟨a, b⟩
theorem cut_size (s : ByteArray) {k : Nat} (hk : k ≤ s.size) : (s.extract 0 k).size = k := by rw [ByteArray.size_extract]; omega
theorem cut_second {s : ByteArray} {c d : UInt8} {r : Bytes} (hl : s.data.toList = c :: d :: r) {k : Nat} (hk : k ≤ s.size) (h1 : 2 ≤ k) : ∃ h : 0 < ((s.extract 0 k).extract 1 k).size, ((s.extract 0 k).extract 1 k)[0]'h = d := by
  have h2 : ((s.extract 0 k).extract 1 k).data.toList.drop 0 = d :: (r.take (k - 2)) := by
    rw [list_cut, list_cut, List.drop_zero, List.drop_zero, hl]
    obtain ⟨j, rfl⟩ : ∃ j, k = j + 2 := ⟨k - 2, by omega⟩
    simp [List.take_take]
  obtain ⟨a, b, _⟩ := byte_at h2
  exact ⟨a, b⟩
theorem cut_size2 (s : ByteArray) {m : Nat} (hk : m + 1 ≤ s.size) : ((s.extract 0 (m + 1)).extract 1 (m + 1)).size = m := by
  rw [ByteArray.size_extract, ByteArray.size_extract]; omega
theorem cut_D {s : ByteArray} {c : UInt8} {r : Bytes} (hl : s.data.toList = c :: r) {k : Nat} (hk : k ≤ s.size) (h1 : 1 ≤ k) :
    ∃ D, s.extract 0 k = D ∧ D.size = k ∧ D.data.toList = (c :: r).take k ∧ ∃ h : 0 < D.size, D[0]'h = c :=
  ⟨_, rfl, cut_size s hk, by rw [list_cut, List.drop_zero, hl], cut_first hl hk h1⟩
theorem cut_DE {s : ByteArray} {c d : UInt8} {r : Bytes} (hl : s.data.toList = c :: d :: r) {k m : Nat} (hkm : k = m + 1) (hk : k ≤ s.size) (h2 : 1 ≤ m) :
    ∃ D E, s.extract 0 k = D ∧ D.extract 1 k = E ∧ D.size = k ∧ E.size = m ∧ D.data.toList = (c :: d :: r).take k ∧ (∃ h : 0 < D.size, D[0]'h = c) ∧ ∃ h : 0 < E.size, E[0]'h = d := by
  subst hkm
  exact ⟨_, _, rfl, rfl, cut_size s hk, cut_size2 s hk, by rw [list_cut, List.drop_zero, hl], cut_first hl hk (by omega), cut_second hl hk (by omega)⟩


set_option maxRecDepth 100000 in
theorem rone_word (s : ByteArray) (c : UInt8) (r : List UInt8) (hl : s.data.toList = c :: r) (hs : s.size ≤ 140737488351232) (hL : letterB c = true) (w : World) :
    Calls Tryd.prog 25 #[.string s] w fun e w' => ∃ y n, e = .returned (.tuple #[tokV y, .int .i64 (n : Nat)]) ∧ OneIs s.data.toList y n ∧ Below w.heap.size w w' := by
  have hsz : s.size = r.length + 1 := by rw [← size_list, hl]; rfl
  obtain ⟨h0, hc0, _⟩ := byte_at (i := 0) (by rw [List.drop_zero]; exact hl)
  have hp : (0 : Int) < s.size := by omega
  have hlet := rletter_any c
  rw [hL] at hlet
  have hend := one_letter c r hL
  rw [← hl] at hend
  go_enter Tryd.func25, Tryd.ntmps25
  go_wp2_with fail
  refine (hlet _).mono ?_
  rintro e w1 ⟨rfl, rfl⟩
  go_wp2_with fail
  obtain ⟨W1, hW1, hr1, hb1⟩ := tok_world w
  obtain ⟨r0, r1, r2, r3⟩ := blk_tok hr1
  obtain ⟨f0, f1, f2, f3⟩ := free_tok hr1
  have HW1 := Lib.hid hW1
  have HR1 := Lib.hid hr1
  have HB1 := Lib.hid hb1
  clear hW1 hr1 hb1
  go_loopg [4] (s.size + 1) (fun gk cv wr => ∃ k : Nat, k ≤ s.size ∧ s.size < k + gk ∧ cv = .int .i64 (k : Int) ∧ while_ innerB s.data.toList = k + while_ innerB (s.data.toList.drop k) ∧ wr = W1)
  case atStart => exact ⟨0, by omega, by omega, rfl, by simp, HW1.out.symm⟩
  case round =>
    obtain ⟨k, hk, hgk, rfl, hw, rfl⟩ := hrel
    match hd : s.data.toList.drop k with
    | [] =>
      have he := at_end hd
      rw [hd] at hw
      have hk2 : while_ innerB s.data.toList = k := hw
      rw [hk2] at hend
      have k1 : ¬ ((k : Int) < (s.size : Int)) := by omega
      have k2 : decide ((k : Int) < (s.size : Int)) = false := decide_eq_false k1
      have k3 : decide (k < s.size) = false := decide_eq_false (by omega)
      clear hd hw hk2 hl hsz hgk
      have b1 : (k : Int) ≤ (s.size : Int) := by omega
      have b3 : (0 : Int) ≤ (k : Int) := by omega
      have hcut := cut_text s 0 k
      rw [List.drop_zero] at hcut
      by_cases h24 : k ≤ 24
      · rw [if_pos h24] at hend
        have b2 : (k : Int) ≤ 24 := by omega
        have b4 : decide ((k : Int) ≤ 24) = true := decide_eq_true b2
        have hcut2 : s.extract 0 k = ⟨(s.data.toList.take k).toArray⟩ := hcut
        have HT := tok_stores HR1.out HB1.out ⟨1, s.data.toList.take k, 0, 0⟩
        have HF := Lib.hid HT
        have HE := Lib.hid (oneIs_of hend)
        clear hend hcut HT
        go_wp2_with fail
        exact bodyPost_ret (v := .tuple #[tokV ⟨1, s.data.toList.take k, 0, 0⟩, .int .i64 (k : Int)]) (res_tok Tryd.results25 rfl rfl HF.out.1) rfl ⟨_, _, rfl, HE.out, HF.out.2⟩
      · rw [if_neg h24] at hend
        have b2 : ¬ (k : Int) ≤ 24 := by omega
        have b4 : decide ((k : Int) ≤ 24) = false := decide_eq_false b2
        have b5 : (24 : Int) < (k : Int) := by omega
        have HT := tok_stores HR1.out HB1.out noTok
        have HF := Lib.hid HT
        have HE := Lib.hid (oneIs_of hend)
        clear hend hcut HT
        go_wp2_with fail
        exact bodyPost_ret (v := .tuple #[tokV noTok, .int .i64 0]) (res_tok Tryd.results25 rfl rfl HF.out.1) rfl ⟨_, _, rfl, HE.out, HF.out.2⟩
    | x :: t =>
      obtain ⟨hlt, hx, hr⟩ := byte_at hd
      have hin := rinner_any x
      rw [hd, while_cons _ x t] at hw
      have k1 : ((k : Int) < (s.size : Int)) := by omega
      have k2 : decide ((k : Int) < (s.size : Int)) = true := decide_eq_true k1
      have k3 : decide (k < s.size) = true := decide_eq_true hlt
      cases hI : innerB x
      · rw [hI] at hin hw
        have hk2 : while_ innerB s.data.toList = k := by simpa using hw
        rw [hk2] at hend
        clear hd hw hk2 hl hsz hr hgk
        go_wp2_with fail
        refine (hin _).mono ?_
        rintro e w1 ⟨rfl, rfl⟩
        have b1 : (k : Int) ≤ (s.size : Int) := by omega
        have b3 : (0 : Int) ≤ (k : Int) := by omega
        have hcut := cut_text s 0 k
        rw [List.drop_zero] at hcut
        by_cases h24 : k ≤ 24
        · rw [if_pos h24] at hend
          have b2 : (k : Int) ≤ 24 := by omega
          have b4 : decide ((k : Int) ≤ 24) = true := decide_eq_true b2
          have hcut2 : s.extract 0 k = ⟨(s.data.toList.take k).toArray⟩ := hcut
          have HT := tok_stores HR1.out HB1.out ⟨1, s.data.toList.take k, 0, 0⟩
          have HF := Lib.hid HT
          have HE := Lib.hid (oneIs_of hend)
          clear hend hcut HT
          go_wp2_with fail
          exact bodyPost_ret (v := .tuple #[tokV ⟨1, s.data.toList.take k, 0, 0⟩, .int .i64 (k : Int)]) (res_tok Tryd.results25 rfl rfl HF.out.1) rfl ⟨_, _, rfl, HE.out, HF.out.2⟩
        · rw [if_neg h24] at hend
          have b2 : ¬ (k : Int) ≤ 24 := by omega
          have b4 : decide ((k : Int) ≤ 24) = false := decide_eq_false b2
          have b5 : (24 : Int) < (k : Int) := by omega
          have HT := tok_stores HR1.out HB1.out noTok
          have HF := Lib.hid HT
          have HE := Lib.hid (oneIs_of hend)
          clear hend hcut HT
          go_wp2_with fail
          exact bodyPost_ret (v := .tuple #[tokV noTok, .int .i64 0]) (res_tok Tryd.results25 rfl rfl HF.out.1) rfl ⟨_, _, rfl, HE.out, HF.out.2⟩
      · rw [hI] at hin hw
        have HW := Lib.hid (show while_ innerB s.data.toList = k + 1 + while_ innerB (s.data.toList.drop (k + 1)) by rw [hw, hr]; simp; omega)
        have a7 : IntKind.i64.wrap ((k : Int) + 1) = (k : Int) + 1 := IntWalk.i64_in _ (by omega)
        clear hd hw hl hr hend hsz
        go_wp2_with fail
        refine (hin _).mono ?_
        rintro e w1 ⟨rfl, rfl⟩
        go_wp2_with fail
        go_roundg (s.size - k)
        case measure => omega
        case rel => exact ⟨k + 1, by omega, by omega, by go_num, HW.out, rfl⟩

set_option maxRecDepth 100000 in
theorem rone_text (s : ByteArray) (c : UInt8) (r : List UInt8) (hl : s.data.toList = c :: r) (hs : s.size ≤ 140737488351232) (h34 : c.toNat = 34) (w : World) :
    Calls Tryd.prog 25 #[.string s] w fun e w' => ∃ y n, e = .returned (.tuple #[tokV y, .int .i64 (n : Nat)]) ∧ OneIs s.data.toList y n ∧ Below w.heap.size w w' := by
  have hsz : s.size = r.length + 1 := by rw [← size_list, hl]; rfl
  obtain ⟨h0, hc0, _⟩ := byte_at (i := 0) (by rw [List.drop_zero]; exact hl)
  have hp : (0 : Int) < s.size := by omega
  have hL := letter_no34 h34
  have hlet := rletter_any c
  rw [hL] at hlet
  have g34 : ((c.toNat : Int) == 34) = true := by rw [h34]; rfl
  have hend := one_text c r hL h34
  rw [textT_eq, ← hl] at hend
  have ht := rtext_any s hs (by omega) _ rfl
  obtain ⟨o, ho⟩ : ∃ o, o = textFrom [] 1 (s.data.toList.drop 1) := ⟨_, rfl⟩
  rw [← ho] at hend ht
  clear ho hl hsz h34 hL
  match o, ht, hend with
  | none, ht, hend =>
    change ∀ w, Calls _ _ _ w fun e w' => e = .returned (.tuple #[.string ⟨#[]⟩, .int .i64 0, .bool false]) ∧ _ at ht
    have HE := Lib.hid (oneIs_of hend)
    clear hend
    go_enter Tryd.func25, Tryd.ntmps25
    go_wp2_with fail
    refine (hlet _).mono ?_
    rintro e w1 ⟨rfl, rfl⟩
    go_wp2_with fail
    refine (ht _).mono ?_
    rintro e w1 ⟨rfl, h1⟩
    have hr := (Blk.new w 32 (tokA noTok)).kept h1
    have hb := chain ((Below.refl _ _).alloc (Nat.le_refl _) _) h1
    have HF := Lib.hid (tok_stores hr hb noTok)
    obtain ⟨r0, r1, r2, r3⟩ := blk_tok hr
    obtain ⟨f0, f1, f2, f3⟩ := free_tok hr
    clear h1 ht hlet hr hb
    go_wp2_with fail
    exact bodyPost_ret (v := .tuple #[tokV noTok, .int .i64 0]) (res_tok Tryd.results25 rfl rfl HF.out.1) rfl ⟨_, _, rfl, HE.out, HF.out.2⟩
  | some (t, n), ht, hend =>
    change ∀ w, Calls _ _ _ w fun e w' => e = .returned (.tuple #[.string ⟨t.toArray⟩, .int .i64 (n : Int), .bool (decide (t.length ≤ 64))]) ∧ _ at ht
    dsimp only [textO] at hend
    by_cases h64 : t.length ≤ 64
    · rw [decide_eq_true h64] at ht
      rw [if_pos h64] at hend
      have HE := Lib.hid (oneIs_of hend)
      clear hend h64
      go_enter Tryd.func25, Tryd.ntmps25
      go_wp2_with fail
      refine (hlet _).mono ?_
      rintro e w1 ⟨rfl, rfl⟩
      go_wp2_with fail
      refine (ht _).mono ?_
      rintro e w1 ⟨rfl, h1⟩
      have hr := (Blk.new w 32 (tokA noTok)).kept h1
      have hb := chain ((Below.refl _ _).alloc (Nat.le_refl _) _) h1
      have HF := Lib.hid (tok_stores hr hb ⟨3, t, 0, 0⟩)
      obtain ⟨r0, r1, r2, r3⟩ := blk_tok hr
      obtain ⟨f0, f1, f2, f3⟩ := free_tok hr
      clear h1 ht hlet hr hb
      go_wp2_with fail
      exact bodyPost_ret (v := .tuple #[tokV ⟨3, t, 0, 0⟩, .int .i64 (n : Int)]) (res_tok Tryd.results25 rfl rfl HF.out.1) rfl ⟨_, _, rfl, HE.out, HF.out.2⟩
    · rw [decide_eq_false h64] at ht
      rw [if_neg h64] at hend
      have HE := Lib.hid (oneIs_of hend)
      clear hend h64
      go_enter Tryd.func25, Tryd.ntmps25
      go_wp2_with fail
      refine (hlet _).mono ?_
      rintro e w1 ⟨rfl, rfl⟩
      go_wp2_with fail
      refine (ht _).mono ?_
      rintro e w1 ⟨rfl, h1⟩
      have hr := (Blk.new w 32 (tokA noTok)).kept h1
      have hb := chain ((Below.refl _ _).alloc (Nat.le_refl _) _) h1
      have HF := Lib.hid (tok_stores hr hb noTok)
      obtain ⟨r0, r1, r2, r3⟩ := blk_tok hr
      obtain ⟨f0, f1, f2, f3⟩ := free_tok hr
      clear h1 ht hlet hr hb
      go_wp2_with fail
      exact bodyPost_ret (v := .tuple #[tokV noTok, .int .i64 0]) (res_tok Tryd.results25 rfl rfl HF.out.1) rfl ⟨_, _, rfl, HE.out, HF.out.2⟩

set_option maxRecDepth 100000 in
theorem rone_plain (s : ByteArray) (c : UInt8) (r : List UInt8) (hl : s.data.toList = c :: r) (hs : s.size ≤ 140737488351232) (hDig : digitB c = true) (w : World) :
    Calls Tryd.prog 25 #[.string s] w fun e w' => ∃ y n, e = .returned (.tuple #[tokV y, .int .i64 (n : Nat)]) ∧ OneIs s.data.toList y n ∧ Below w.heap.size w w' := by
  have hsz : s.size = r.length + 1 := by rw [← size_list, hl]; rfl
  obtain ⟨h0, hc0, _⟩ := byte_at (i := 0) (by rw [List.drop_zero]; exact hl)
  have hp : (0 : Int) < s.size := by omega
  have hDc : 48 ≤ c.toNat ∧ c.toNat ≤ 57 := by simpa [digitB] using hDig
  have hL : letterB c = false := by simp [letterB]; omega
  have hNot45 : c.toNat ≠ 45 := by omega
  have hlet := rletter_any c
  rw [hL] at hlet
  have hdg := rdigit_any c
  rw [hDig] at hdg
  have g34 : ((c.toNat : Int) == 34) = false := by rw [beq_eq_false_iff_ne]; omega
  have g45 : ((c.toNat : Int) == 45) = false := by rw [beq_eq_false_iff_ne]; omega
  have hOne := one_number c r hL (by omega) (.inl hDig)
  have hnl := numLen_digit r hDig
  clear hDc
  go_enter Tryd.func25, Tryd.ntmps25
  go_wp2_with fail
  refine (hlet _).mono ?_
  rintro e w1 ⟨rfl, rfl⟩
  go_wp2_with fail
  refine (hdg _).mono ?_
  rintro e w1 ⟨rfl, rfl⟩
  go_wp2_with fail
  obtain ⟨W1, hW1, hr1, hb1⟩ := tok_world w
  obtain ⟨r0, r1, r2, r3⟩ := blk_tok hr1
  obtain ⟨f0, f1, f2, f3⟩ := free_tok hr1
  have HW1 := Lib.hid hW1
  have HR1 := Lib.hid hr1
  have HB1 := Lib.hid hb1
  clear hW1 hr1 hb1
  go_loopg [4] (s.size + 1) (fun gk cv wr => ∃ k : Nat, 1 ≤ k ∧ k ≤ s.size ∧ s.size < k + gk ∧ cv = .int .i64 (k : Int) ∧ 1 + while_ digitB r = k + while_ digitB (s.data.toList.drop k) ∧ wr = W1)
  case atStart => exact ⟨1, by omega, by omega, by omega, rfl, by rw [hl]; rfl, HW1.out.symm⟩
  case round =>
    obtain ⟨k, hk1, hk, hgk, rfl, hw, rfl⟩ := hrel
    match hd : s.data.toList.drop k with
    | [] =>
      have he := at_end hd
      rw [hd] at hw
      have k1 : ¬ ((k : Int) < (s.size : Int)) := by omega
      have k2 : decide ((k : Int) < (s.size : Int)) = false := decide_eq_false k1
      have k3 : decide (k < s.size) = false := decide_eq_false (by omega)
      have hkq : k = 1 + while_ digitB r := by rw [hw]; rfl
      have hkn : k = numLen s.data.toList := by rw [hl, hnl, hkq]
      have b1 : (k : Int) ≤ (s.size : Int) := by omega
      have b3 : (0 : Int) ≤ (k : Int) := by omega
      obtain ⟨D, hD, hDs, hDt, hz3, hz4⟩ := cut_D hl hk hk1
      have hDz : D.size ≤ 140737488351232 := by rw [hDs]; omega
      have p3 : (0 : Int) < (k : Int) := by omega
      clear hdg hlet hnl hw hgk
      have hDl : D.data.toList = c :: r.take (while_ digitB r) := by rw [hDt, hkq, Nat.add_comm, List.take_succ_cons]
      have hDA : AllD (c :: r.take (while_ digitB r)) := by have := plain_digits r hDig; rwa [numLen_digit r hDig, Nat.add_comm, List.take_succ_cons] at this
      have hTk : (c :: r).take (numLen (c :: r)) = c :: r.take (while_ digitB r) := by rw [numLen_digit r hDig, Nat.add_comm, List.take_succ_cons]
      by_cases h48 : c.toNat = 48
      · have g48 : ((c.toNat : Int) == 48) = true := by rw [h48]; rfl
        by_cases hq0 : while_ digitB r = 0
        · have h480 : c.toNat ≠ 48 ∨ while_ digitB r = 0 := .inr hq0
          have hk1 : k = 1 := by omega
          have m1 : ¬ (1 : Int) < (k : Int) := by omega
          have m2 : decide ((1 : Int) < (k : Int)) = false := decide_eq_false m1
          have m3 : decide (1 < k) = false := decide_eq_false (by omega)
          have n1 : ¬ (19 : Int) < (k : Int) := by omega
          have n2 : decide ((19 : Int) < (k : Int)) = false := decide_eq_false n1
          have n3 : decide (19 < k) = false := decide_eq_false (by omega)
          have hnum := rnum_plain D c _ hDl hNot45 hDz hDA
          rw [← hTk] at hnum
          have HL := Lib.hid (fun x ok (h : RNum false _ x ok) => plain_end hDig h480 (by rw [← hl, ← hkn, at_drop_nil hd]; simp) (x := x) (ok := ok) h)
          have HK := Lib.hid hkn
          have HO := Lib.hid hOne
          have HS := Lib.hid hl
          clear hDl hDt hDA hTk h48 hq0 h480 hk1 hl hsz hkq hkn hd hOne hDig hNot45 hL
          go_wp2_with fail
          refine (hnum _).mono ?_
          rintro e w1 ⟨rfl, xv, ok, rfl, hRN⟩
          have hfin := HL.out xv ok hRN
          clear hnum hRN
          cases ok
          · have HE := Lib.hid (show OneIs s.data.toList noTok 0 by rw [HS.out]; exact oneIs_of (HO.out.trans hfin))
            clear hfin
            have HF := Lib.hid (tok_stores HR1.out HB1.out noTok)
            go_wp2_with fail
            exact bodyPost_ret (v := .tuple #[tokV noTok, .int .i64 0]) (res_tok Tryd.results25 rfl rfl HF.out.1) rfl ⟨_, _, rfl, HE.out, HF.out.2⟩
          · have HE := Lib.hid (show OneIs s.data.toList ⟨2, [], xv, 0⟩ k by rw [HS.out, HK.out]; rw [HS.out]; exact oneIs_of (HO.out.trans hfin))
            have HF := Lib.hid (tok_stores HR1.out HB1.out ⟨2, [], xv, 0⟩)
            clear hfin
            go_wp2_with fail
            exact bodyPost_ret (v := .tuple #[tokV ⟨2, [], xv, 0⟩, .int .i64 (k : Int)]) (res_tok Tryd.results25 rfl rfl HF.out.1) rfl ⟨_, _, rfl, HE.out, HF.out.2⟩
        · have HE := Lib.hid (show OneIs s.data.toList noTok 0 by rw [hl]; exact oneIs_of (hOne.trans (plain_nought hDig h48 hq0)))
          have m1 : (1 : Int) < (k : Int) := by omega
          have m2 : decide ((1 : Int) < (k : Int)) = true := decide_eq_true m1
          have m3 : decide (1 < k) = true := decide_eq_true (by omega)
          clear hDl hDt hDA hTk h48 hq0 hl hsz hkq hkn hd hOne hDig hNot45 hL
          have HF := Lib.hid (tok_stores HR1.out HB1.out noTok)
          go_wp2_with fail
          exact bodyPost_ret (v := .tuple #[tokV noTok, .int .i64 0]) (res_tok Tryd.results25 rfl rfl HF.out.1) rfl ⟨_, _, rfl, HE.out, HF.out.2⟩
      · have g48 : ((c.toNat : Int) == 48) = false := by rw [beq_eq_false_iff_ne]; omega
        have h480 : c.toNat ≠ 48 ∨ while_ digitB r = 0 := .inl h48
        by_cases hq19 : 19 ≤ while_ digitB r
        · have HE := Lib.hid (show OneIs s.data.toList noTok 0 by rw [hl]; exact oneIs_of (hOne.trans (plain_long hDig h48 hq19)))
          have n1 : (19 : Int) < (k : Int) := by omega
          have n2 : decide ((19 : Int) < (k : Int)) = true := decide_eq_true n1
          have n3 : decide (19 < k) = true := decide_eq_true (by omega)
          clear hDl hDt hDA hTk h48 h480 hq19 hl hsz hkq hkn hd hOne hDig hNot45 hL
          have HF := Lib.hid (tok_stores HR1.out HB1.out noTok)
          go_wp2_with fail
          exact bodyPost_ret (v := .tuple #[tokV noTok, .int .i64 0]) (res_tok Tryd.results25 rfl rfl HF.out.1) rfl ⟨_, _, rfl, HE.out, HF.out.2⟩
        · skip
          have n1 : ¬ (19 : Int) < (k : Int) := by omega
          have n2 : decide ((19 : Int) < (k : Int)) = false := decide_eq_false n1
          have n3 : decide (19 < k) = false := decide_eq_false (by omega)
          have hnum := rnum_plain D c _ hDl hNot45 hDz hDA
          rw [← hTk] at hnum
          have HL := Lib.hid (fun x ok (h : RNum false _ x ok) => plain_end hDig h480 (by rw [← hl, ← hkn, at_drop_nil hd]; simp) (x := x) (ok := ok) h)
          have HK := Lib.hid hkn
          have HO := Lib.hid hOne
          have HS := Lib.hid hl
          clear hDl hDt hDA hTk h48 hq19 h480 hl hsz hkq hkn hd hOne hDig hNot45 hL
          go_wp2_with fail
          refine (hnum _).mono ?_
          rintro e w1 ⟨rfl, xv, ok, rfl, hRN⟩
          have hfin := HL.out xv ok hRN
          clear hnum hRN
          cases ok
          · have HE := Lib.hid (show OneIs s.data.toList noTok 0 by rw [HS.out]; exact oneIs_of (HO.out.trans hfin))
            clear hfin
            have HF := Lib.hid (tok_stores HR1.out HB1.out noTok)
            go_wp2_with fail
            exact bodyPost_ret (v := .tuple #[tokV noTok, .int .i64 0]) (res_tok Tryd.results25 rfl rfl HF.out.1) rfl ⟨_, _, rfl, HE.out, HF.out.2⟩
          · have HE := Lib.hid (show OneIs s.data.toList ⟨2, [], xv, 0⟩ k by rw [HS.out, HK.out]; rw [HS.out]; exact oneIs_of (HO.out.trans hfin))
            have HF := Lib.hid (tok_stores HR1.out HB1.out ⟨2, [], xv, 0⟩)
            clear hfin
            go_wp2_with fail
            exact bodyPost_ret (v := .tuple #[tokV ⟨2, [], xv, 0⟩, .int .i64 (k : Int)]) (res_tok Tryd.results25 rfl rfl HF.out.1) rfl ⟨_, _, rfl, HE.out, HF.out.2⟩
    | x :: t =>
      obtain ⟨hlt, hx, hr⟩ := byte_at hd
      have hin2 := rinner_any x
      have hdg2 := rdigit_any x
      rw [hd, while_cons _ x t] at hw
      have k1 : ((k : Int) < (s.size : Int)) := by omega
      have k2 : decide ((k : Int) < (s.size : Int)) = true := decide_eq_true k1
      have k3 : decide (k < s.size) = true := decide_eq_true hlt
      cases hX : digitB x
      · rw [hX] at hdg2 hw
        have hkq : k = 1 + while_ digitB r := by rw [hw]; simp
        have hkn : k = numLen s.data.toList := by rw [hl, hnl, hkq]
        have b1 : (k : Int) ≤ (s.size : Int) := by omega
        have b3 : (0 : Int) ≤ (k : Int) := by omega
        obtain ⟨D, hD, hDs, hDt, hz3, hz4⟩ := cut_D hl hk hk1
        have hDz : D.size ≤ 140737488351232 := by rw [hDs]; omega
        have p3 : (0 : Int) < (k : Int) := by omega
        clear hdg hlet hnl hw hgk
        have hDl : D.data.toList = c :: r.take (while_ digitB r) := by rw [hDt, hkq, Nat.add_comm, List.take_succ_cons]
        have hDA : AllD (c :: r.take (while_ digitB r)) := by have := plain_digits r hDig; rwa [numLen_digit r hDig, Nat.add_comm, List.take_succ_cons] at this
        have hTk : (c :: r).take (numLen (c :: r)) = c :: r.take (while_ digitB r) := by rw [numLen_digit r hDig, Nat.add_comm, List.take_succ_cons]
        by_cases h48 : c.toNat = 48
        · have g48 : ((c.toNat : Int) == 48) = true := by rw [h48]; rfl
          by_cases hq0 : while_ digitB r = 0
          · have h480 : c.toNat ≠ 48 ∨ while_ digitB r = 0 := .inr hq0
            have hk1 : k = 1 := by omega
            have m1 : ¬ (1 : Int) < (k : Int) := by omega
            have m2 : decide ((1 : Int) < (k : Int)) = false := decide_eq_false m1
            have m3 : decide (1 < k) = false := decide_eq_false (by omega)
            have n1 : ¬ (19 : Int) < (k : Int) := by omega
            have n2 : decide ((19 : Int) < (k : Int)) = false := decide_eq_false n1
            have n3 : decide (19 < k) = false := decide_eq_false (by omega)
            cases hI : innerB x
            · rw [hI] at hin2
              have hnum := rnum_plain D c _ hDl hNot45 hDz hDA
              rw [← hTk] at hnum
              have HL := Lib.hid (fun x ok (h : RNum false _ x ok) => plain_end hDig h480 (by rw [← hl, ← hkn, at_drop hd, Option.map_some, hI]; simp) (x := x) (ok := ok) h)
              have HK := Lib.hid hkn
              have HO := Lib.hid hOne
              have HS := Lib.hid hl
              clear hDl hDt hDA hTk h48 hq0 h480 hk1 hl hsz hkq hkn hd hOne hDig hNot45 hL
              go_wp2_with fail
              refine (hdg2 _).mono ?_
              rintro e w1 ⟨rfl, rfl⟩
              go_wp2_with fail
              refine (hin2 _).mono ?_
              rintro e w1 ⟨rfl, rfl⟩
              go_wp2_with fail
              refine (hnum _).mono ?_
              rintro e w1 ⟨rfl, xv, ok, rfl, hRN⟩
              have hfin := HL.out xv ok hRN
              clear hnum hRN
              cases ok
              · have HE := Lib.hid (show OneIs s.data.toList noTok 0 by rw [HS.out]; exact oneIs_of (HO.out.trans hfin))
                clear hfin
                have HF := Lib.hid (tok_stores HR1.out HB1.out noTok)
                go_wp2_with fail
                exact bodyPost_ret (v := .tuple #[tokV noTok, .int .i64 0]) (res_tok Tryd.results25 rfl rfl HF.out.1) rfl ⟨_, _, rfl, HE.out, HF.out.2⟩
              · have HE := Lib.hid (show OneIs s.data.toList ⟨2, [], xv, 0⟩ k by rw [HS.out, HK.out]; rw [HS.out]; exact oneIs_of (HO.out.trans hfin))
                have HF := Lib.hid (tok_stores HR1.out HB1.out ⟨2, [], xv, 0⟩)
                clear hfin
                go_wp2_with fail
                exact bodyPost_ret (v := .tuple #[tokV ⟨2, [], xv, 0⟩, .int .i64 (k : Int)]) (res_tok Tryd.results25 rfl rfl HF.out.1) rfl ⟨_, _, rfl, HE.out, HF.out.2⟩
            · rw [hI] at hin2
              have HE := Lib.hid (show OneIs s.data.toList noTok 0 by rw [hl]; exact oneIs_of ((hOne).trans (numT_inner (by rw [← hl, ← hkn, at_drop hd, Option.map_some, hI]))))
              clear hDl hDt hDA hTk h48 hq0 h480 hk1 hl hsz hkq hkn hd hOne hDig hNot45 hL
              go_wp2_with fail
              refine (hdg2 _).mono ?_
              rintro e w1 ⟨rfl, rfl⟩
              go_wp2_with fail
              refine (hin2 _).mono ?_
              rintro e w1 ⟨rfl, rfl⟩
              have HF := Lib.hid (tok_stores HR1.out HB1.out noTok)
              go_wp2_with fail
              exact bodyPost_ret (v := .tuple #[tokV noTok, .int .i64 0]) (res_tok Tryd.results25 rfl rfl HF.out.1) rfl ⟨_, _, rfl, HE.out, HF.out.2⟩
          · have HE := Lib.hid (show OneIs s.data.toList noTok 0 by rw [hl]; exact oneIs_of (hOne.trans (plain_nought hDig h48 hq0)))
            have m1 : (1 : Int) < (k : Int) := by omega
            have m2 : decide ((1 : Int) < (k : Int)) = true := decide_eq_true m1
            have m3 : decide (1 < k) = true := decide_eq_true (by omega)
            clear hDl hDt hDA hTk h48 hq0 hl hsz hkq hkn hd hOne hDig hNot45 hL
            go_wp2_with fail
            refine (hdg2 _).mono ?_
            rintro e w1 ⟨rfl, rfl⟩
            have HF := Lib.hid (tok_stores HR1.out HB1.out noTok)
            go_wp2_with fail
            exact bodyPost_ret (v := .tuple #[tokV noTok, .int .i64 0]) (res_tok Tryd.results25 rfl rfl HF.out.1) rfl ⟨_, _, rfl, HE.out, HF.out.2⟩
        · have g48 : ((c.toNat : Int) == 48) = false := by rw [beq_eq_false_iff_ne]; omega
          have h480 : c.toNat ≠ 48 ∨ while_ digitB r = 0 := .inl h48
          by_cases hq19 : 19 ≤ while_ digitB r
          · have HE := Lib.hid (show OneIs s.data.toList noTok 0 by rw [hl]; exact oneIs_of (hOne.trans (plain_long hDig h48 hq19)))
            have n1 : (19 : Int) < (k : Int) := by omega
            have n2 : decide ((19 : Int) < (k : Int)) = true := decide_eq_true n1
            have n3 : decide (19 < k) = true := decide_eq_true (by omega)
            clear hDl hDt hDA hTk h48 h480 hq19 hl hsz hkq hkn hd hOne hDig hNot45 hL
            go_wp2_with fail
            refine (hdg2 _).mono ?_
            rintro e w1 ⟨rfl, rfl⟩
            have HF := Lib.hid (tok_stores HR1.out HB1.out noTok)
            go_wp2_with fail
            exact bodyPost_ret (v := .tuple #[tokV noTok, .int .i64 0]) (res_tok Tryd.results25 rfl rfl HF.out.1) rfl ⟨_, _, rfl, HE.out, HF.out.2⟩
          · skip
            have n1 : ¬ (19 : Int) < (k : Int) := by omega
            have n2 : decide ((19 : Int) < (k : Int)) = false := decide_eq_false n1
            have n3 : decide (19 < k) = false := decide_eq_false (by omega)
            cases hI : innerB x
            · rw [hI] at hin2
              have hnum := rnum_plain D c _ hDl hNot45 hDz hDA
              rw [← hTk] at hnum
              have HL := Lib.hid (fun x ok (h : RNum false _ x ok) => plain_end hDig h480 (by rw [← hl, ← hkn, at_drop hd, Option.map_some, hI]; simp) (x := x) (ok := ok) h)
              have HK := Lib.hid hkn
              have HO := Lib.hid hOne
              have HS := Lib.hid hl
              clear hDl hDt hDA hTk h48 hq19 h480 hl hsz hkq hkn hd hOne hDig hNot45 hL
              go_wp2_with fail
              refine (hdg2 _).mono ?_
              rintro e w1 ⟨rfl, rfl⟩
              go_wp2_with fail
              refine (hin2 _).mono ?_
              rintro e w1 ⟨rfl, rfl⟩
              go_wp2_with fail
              refine (hnum _).mono ?_
              rintro e w1 ⟨rfl, xv, ok, rfl, hRN⟩
              have hfin := HL.out xv ok hRN
              clear hnum hRN
              cases ok
              · have HE := Lib.hid (show OneIs s.data.toList noTok 0 by rw [HS.out]; exact oneIs_of (HO.out.trans hfin))
                clear hfin
                have HF := Lib.hid (tok_stores HR1.out HB1.out noTok)
                go_wp2_with fail
                exact bodyPost_ret (v := .tuple #[tokV noTok, .int .i64 0]) (res_tok Tryd.results25 rfl rfl HF.out.1) rfl ⟨_, _, rfl, HE.out, HF.out.2⟩
              · have HE := Lib.hid (show OneIs s.data.toList ⟨2, [], xv, 0⟩ k by rw [HS.out, HK.out]; rw [HS.out]; exact oneIs_of (HO.out.trans hfin))
                have HF := Lib.hid (tok_stores HR1.out HB1.out ⟨2, [], xv, 0⟩)
                clear hfin
                go_wp2_with fail
                exact bodyPost_ret (v := .tuple #[tokV ⟨2, [], xv, 0⟩, .int .i64 (k : Int)]) (res_tok Tryd.results25 rfl rfl HF.out.1) rfl ⟨_, _, rfl, HE.out, HF.out.2⟩
            · rw [hI] at hin2
              have HE := Lib.hid (show OneIs s.data.toList noTok 0 by rw [hl]; exact oneIs_of ((hOne).trans (numT_inner (by rw [← hl, ← hkn, at_drop hd, Option.map_some, hI]))))
              clear hDl hDt hDA hTk h48 hq19 h480 hl hsz hkq hkn hd hOne hDig hNot45 hL
              go_wp2_with fail
              refine (hdg2 _).mono ?_
              rintro e w1 ⟨rfl, rfl⟩
              go_wp2_with fail
              refine (hin2 _).mono ?_
              rintro e w1 ⟨rfl, rfl⟩
              have HF := Lib.hid (tok_stores HR1.out HB1.out noTok)
              go_wp2_with fail
              exact bodyPost_ret (v := .tuple #[tokV noTok, .int .i64 0]) (res_tok Tryd.results25 rfl rfl HF.out.1) rfl ⟨_, _, rfl, HE.out, HF.out.2⟩
      · rw [hX] at hdg2 hw
        have HW := Lib.hid (show 1 + while_ digitB r = k + 1 + while_ digitB (s.data.toList.drop (k + 1)) by rw [hw, hr]; simp; omega)
        have a7 : IntKind.i64.wrap ((k : Int) + 1) = (k : Int) + 1 := IntWalk.i64_in _ (by omega)
        clear hd hw hl hr hOne hnl hin2
        go_wp2_with fail
        refine (hdg2 _).mono ?_
        rintro e w1 ⟨rfl, rfl⟩
        go_wp2_with fail
        go_roundg (s.size - k)
        case measure => omega
        case rel => exact ⟨k + 1, by omega, by omega, by omega, by go_num, HW.out, rfl⟩

set_option maxRecDepth 100000 in
theorem rone_minus (s : ByteArray) (c d : UInt8) (r : List UInt8) (hl : s.data.toList = c :: d :: r) (hs : s.size ≤ 140737488351232) (hMinus : c.toNat = 45) (hDig : digitB d = true) (w : World) :
    Calls Tryd.prog 25 #[.string s] w fun e w' => ∃ y n, e = .returned (.tuple #[tokV y, .int .i64 (n : Nat)]) ∧ OneIs s.data.toList y n ∧ Below w.heap.size w w' := by
  have hsz : s.size = r.length + 2 := by rw [← size_list, hl]; rfl
  obtain ⟨h0, hc0, _⟩ := byte_at (i := 0) (by rw [List.drop_zero]; exact hl)
  have hp : (0 : Int) < s.size := by omega
  have hL : letterB c = false := by simp [letterB, hMinus]
  have hCd : digitB c = false := by simp [digitB, hMinus]
  obtain ⟨h1, hc1, _⟩ := byte_at (s := s) (i := 1) (c := d) (r := r) (by rw [hl]; rfl)
  have hlet := rletter_any c
  rw [hL] at hlet
  have hdg := rdigit_any c
  rw [hCd] at hdg
  have hdg1 := rdigit_any d
  rw [hDig] at hdg1
  have g34 : ((c.toNat : Int) == 34) = false := by rw [beq_eq_false_iff_ne]; omega
  have g45 : ((c.toNat : Int) == 45) = true := by rw [hMinus]; rfl
  have q1 : decide (1 < (s.size : Int)) = true := decide_eq_true (by omega)
  have q2 : 1 < (s.size : Int) := by omega
  have q3 : decide (1 < s.size) = true := decide_eq_true (by omega)
  have hOne := one_number c (d :: r) hL (by omega) (.inr ⟨hMinus, by simp [hDig]⟩)
  have hnl := numLen_minus (c := c) (d :: r) hMinus
  have hwd : while_ digitB (d :: r) = while_ digitB r + 1 := by rw [while_cons, if_pos hDig]
  have HM := Lib.hid hMinus
  clear hCd hMinus
  go_enter Tryd.func25, Tryd.ntmps25
  go_wp2_with fail
  refine (hlet _).mono ?_
  rintro e w1 ⟨rfl, rfl⟩
  go_wp2_with fail
  refine (hdg _).mono ?_
  rintro e w1 ⟨rfl, rfl⟩
  go_wp2_with fail
  refine (hdg1 _).mono ?_
  rintro e w1 ⟨rfl, rfl⟩
  go_wp2_with fail
  obtain ⟨W1, hW1, hr1, hb1⟩ := tok_world w
  obtain ⟨r0, r1, r2, r3⟩ := blk_tok hr1
  obtain ⟨f0, f1, f2, f3⟩ := free_tok hr1
  have HW1 := Lib.hid hW1
  have HR1 := Lib.hid hr1
  have HB1 := Lib.hid hb1
  clear hW1 hr1 hb1
  go_loopg [4] (s.size + 1) (fun gk cv wr => ∃ k : Nat, 1 ≤ k ∧ k ≤ s.size ∧ s.size < k + gk ∧ cv = .int .i64 (k : Int) ∧ 1 + while_ digitB (d :: r) = k + while_ digitB (s.data.toList.drop k) ∧ wr = W1)
  case atStart => exact ⟨1, by omega, by omega, by omega, rfl, by rw [hl]; rfl, HW1.out.symm⟩
  case round =>
    obtain ⟨k, hk1, hk, hgk, rfl, hw, rfl⟩ := hrel
    match hd : s.data.toList.drop k with
    | [] =>
      have he := at_end hd
      rw [hd] at hw
      have k1 : ¬ ((k : Int) < (s.size : Int)) := by omega
      have k2 : decide ((k : Int) < (s.size : Int)) = false := decide_eq_false k1
      have k3 : decide (k < s.size) = false := decide_eq_false (by omega)
      have hkq : k = 1 + while_ digitB (d :: r) := by rw [hw]; rfl
      have hkn : k = numLen s.data.toList := by rw [hl, hnl, hkq]
      have b1 : (k : Int) ≤ (s.size : Int) := by omega
      have b3 : (0 : Int) ≤ (k : Int) := by omega
      have hMinus := HM.out
      obtain ⟨m, hkm⟩ : ∃ m, k = m + 1 := ⟨k - 1, by omega⟩
      obtain ⟨D, E, hD, hE, hDs, hEs, hDt, ⟨hz3, hz4⟩, hz1, hz2⟩ := cut_DE hl hkm hk (by omega)
      have hDz : D.size ≤ 140737488351232 := by rw [hDs]; omega
      have hm0 : 1 ≤ m := by omega
      have p1 : (1 : Int) ≤ (k : Int) := by omega
      have p2 : 1 ≤ k := by omega
      have p3 : (0 : Int) < (k : Int) := by omega
      have p4 : (0 : Int) < (m : Int) := by omega
      clear hdg hdg1 hlet hnl hwd hw hgk
      have hDl : D.data.toList = c :: (d :: r).take (while_ digitB (d :: r)) := by rw [hDt, hkq, Nat.add_comm, List.take_succ_cons]
      have hDA : AllD ((d :: r).take (while_ digitB (d :: r))) := (minus_digits (d :: r) hMinus).2
      have hWd : while_ digitB (d :: r) = while_ digitB r + 1 := by rw [while_cons, if_pos hDig]
      by_cases h48 : d.toNat = 48
      · have g48 : ((d.toNat : Int) == 48) = true := by rw [h48]; rfl
        have HE := Lib.hid (show OneIs s.data.toList noTok 0 by rw [hl]; exact oneIs_of (hOne.trans (minus_nought hMinus hDig h48)))
        by_cases hm1 : 1 < m
        · skip
          have m1 : (1 : Int) < (m : Int) := by omega
          have m2 : decide ((1 : Int) < (m : Int)) = true := decide_eq_true m1
          have m3 : decide (1 < m) = true := decide_eq_true (by omega)
          clear hDl hDt hDA hWd hkm h48 hl hsz hkq hkn hd hOne hDig hMinus hL
          have HF := Lib.hid (tok_stores HR1.out HB1.out noTok)
          go_wp2_with fail
          exact bodyPost_ret (v := .tuple #[tokV noTok, .int .i64 0]) (res_tok Tryd.results25 rfl rfl HF.out.1) rfl ⟨_, _, rfl, HE.out, HF.out.2⟩
        · skip
          have m1 : ¬ (1 : Int) < (m : Int) := by omega
          have m2 : decide ((1 : Int) < (m : Int)) = false := decide_eq_false m1
          have m3 : decide (1 < m) = false := decide_eq_false (by omega)
          clear hDl hDt hDA hWd hkm h48 hl hsz hkq hkn hd hOne hDig hMinus hL
          have HF := Lib.hid (tok_stores HR1.out HB1.out noTok)
          go_wp2_with fail
          exact bodyPost_ret (v := .tuple #[tokV noTok, .int .i64 0]) (res_tok Tryd.results25 rfl rfl HF.out.1) rfl ⟨_, _, rfl, HE.out, HF.out.2⟩
      · have g48 : ((d.toNat : Int) == 48) = false := by rw [beq_eq_false_iff_ne]; omega
        by_cases hq19 : 19 ≤ while_ digitB r
        · have HE := Lib.hid (show OneIs s.data.toList noTok 0 by rw [hl]; exact oneIs_of (hOne.trans (minus_long hMinus hDig h48 hq19)))
          have n1 : (19 : Int) < (m : Int) := by omega
          have n2 : decide ((19 : Int) < (m : Int)) = true := decide_eq_true n1
          have n3 : decide (19 < m) = true := decide_eq_true (by omega)
          clear hDl hDt hDA hWd hkm h48 hq19 hl hsz hkq hkn hd hOne hDig hMinus hL
          have HF := Lib.hid (tok_stores HR1.out HB1.out noTok)
          go_wp2_with fail
          exact bodyPost_ret (v := .tuple #[tokV noTok, .int .i64 0]) (res_tok Tryd.results25 rfl rfl HF.out.1) rfl ⟨_, _, rfl, HE.out, HF.out.2⟩
        · skip
          have n1 : ¬ (19 : Int) < (m : Int) := by omega
          have n2 : decide ((19 : Int) < (m : Int)) = false := decide_eq_false n1
          have n3 : decide (19 < m) = false := decide_eq_false (by omega)
          have hnum := rnum_neg D c _ hDl hMinus hDz hDA
          have HL := Lib.hid (fun x ok (h : RNum true _ x ok) => minus_end hMinus hDig h48 (by rw [← hl, ← hkn, at_drop_nil hd]; simp) (x := x) (ok := ok) h)
          have HK := Lib.hid hkn
          have HO := Lib.hid hOne
          have HS := Lib.hid hl
          clear hDl hDt hDA hWd hkm h48 hq19 hl hsz hkq hkn hd hOne hDig hMinus hL
          go_wp2_with fail
          refine (hnum _).mono ?_
          rintro e w1 ⟨rfl, xv, ok, rfl, hRN⟩
          have hfin := HL.out xv ok hRN
          clear hnum hRN
          cases ok
          · have HE := Lib.hid (show OneIs s.data.toList noTok 0 by rw [HS.out]; exact oneIs_of (HO.out.trans hfin))
            clear hfin
            have HF := Lib.hid (tok_stores HR1.out HB1.out noTok)
            go_wp2_with fail
            exact bodyPost_ret (v := .tuple #[tokV noTok, .int .i64 0]) (res_tok Tryd.results25 rfl rfl HF.out.1) rfl ⟨_, _, rfl, HE.out, HF.out.2⟩
          · have HE := Lib.hid (show OneIs s.data.toList ⟨2, [], xv, 0⟩ k by rw [HS.out, HK.out]; rw [HS.out]; exact oneIs_of (HO.out.trans hfin))
            have HF := Lib.hid (tok_stores HR1.out HB1.out ⟨2, [], xv, 0⟩)
            clear hfin
            go_wp2_with fail
            exact bodyPost_ret (v := .tuple #[tokV ⟨2, [], xv, 0⟩, .int .i64 (k : Int)]) (res_tok Tryd.results25 rfl rfl HF.out.1) rfl ⟨_, _, rfl, HE.out, HF.out.2⟩
    | x :: t =>
      obtain ⟨hlt, hx, hr⟩ := byte_at hd
      have hin2 := rinner_any x
      have hdg2 := rdigit_any x
      rw [hd, while_cons _ x t] at hw
      have k1 : ((k : Int) < (s.size : Int)) := by omega
      have k2 : decide ((k : Int) < (s.size : Int)) = true := decide_eq_true k1
      have k3 : decide (k < s.size) = true := decide_eq_true hlt
      cases hX : digitB x
      · rw [hX] at hdg2 hw
        have hkq : k = 1 + while_ digitB (d :: r) := by rw [hw]; simp
        have hkn : k = numLen s.data.toList := by rw [hl, hnl, hkq]
        have b1 : (k : Int) ≤ (s.size : Int) := by omega
        have b3 : (0 : Int) ≤ (k : Int) := by omega
        have hMinus := HM.out
        obtain ⟨m, hkm⟩ : ∃ m, k = m + 1 := ⟨k - 1, by omega⟩
        obtain ⟨D, E, hD, hE, hDs, hEs, hDt, ⟨hz3, hz4⟩, hz1, hz2⟩ := cut_DE hl hkm hk (by omega)
        have hDz : D.size ≤ 140737488351232 := by rw [hDs]; omega
        have hm0 : 1 ≤ m := by omega
        have p1 : (1 : Int) ≤ (k : Int) := by omega
        have p2 : 1 ≤ k := by omega
        have p3 : (0 : Int) < (k : Int) := by omega
        have p4 : (0 : Int) < (m : Int) := by omega
        clear hdg hdg1 hlet hnl hwd hw hgk
        have hDl : D.data.toList = c :: (d :: r).take (while_ digitB (d :: r)) := by rw [hDt, hkq, Nat.add_comm, List.take_succ_cons]
        have hDA : AllD ((d :: r).take (while_ digitB (d :: r))) := (minus_digits (d :: r) hMinus).2
        have hWd : while_ digitB (d :: r) = while_ digitB r + 1 := by rw [while_cons, if_pos hDig]
        by_cases h48 : d.toNat = 48
        · have g48 : ((d.toNat : Int) == 48) = true := by rw [h48]; rfl
          have HE := Lib.hid (show OneIs s.data.toList noTok 0 by rw [hl]; exact oneIs_of (hOne.trans (minus_nought hMinus hDig h48)))
          by_cases hm1 : 1 < m
          · skip
            have m1 : (1 : Int) < (m : Int) := by omega
            have m2 : decide ((1 : Int) < (m : Int)) = true := decide_eq_true m1
            have m3 : decide (1 < m) = true := decide_eq_true (by omega)
            clear hDl hDt hDA hWd hkm h48 hl hsz hkq hkn hd hOne hDig hMinus hL
            go_wp2_with fail
            refine (hdg2 _).mono ?_
            rintro e w1 ⟨rfl, rfl⟩
            have HF := Lib.hid (tok_stores HR1.out HB1.out noTok)
            go_wp2_with fail
            exact bodyPost_ret (v := .tuple #[tokV noTok, .int .i64 0]) (res_tok Tryd.results25 rfl rfl HF.out.1) rfl ⟨_, _, rfl, HE.out, HF.out.2⟩
          · skip
            have m1 : ¬ (1 : Int) < (m : Int) := by omega
            have m2 : decide ((1 : Int) < (m : Int)) = false := decide_eq_false m1
            have m3 : decide (1 < m) = false := decide_eq_false (by omega)
            clear hDl hDt hDA hWd hkm h48 hl hsz hkq hkn hd hOne hDig hMinus hL
            go_wp2_with fail
            refine (hdg2 _).mono ?_
            rintro e w1 ⟨rfl, rfl⟩
            have HF := Lib.hid (tok_stores HR1.out HB1.out noTok)
            go_wp2_with fail
            exact bodyPost_ret (v := .tuple #[tokV noTok, .int .i64 0]) (res_tok Tryd.results25 rfl rfl HF.out.1) rfl ⟨_, _, rfl, HE.out, HF.out.2⟩
        · have g48 : ((d.toNat : Int) == 48) = false := by rw [beq_eq_false_iff_ne]; omega
          by_cases hq19 : 19 ≤ while_ digitB r
          · have HE := Lib.hid (show OneIs s.data.toList noTok 0 by rw [hl]; exact oneIs_of (hOne.trans (minus_long hMinus hDig h48 hq19)))
            have n1 : (19 : Int) < (m : Int) := by omega
            have n2 : decide ((19 : Int) < (m : Int)) = true := decide_eq_true n1
            have n3 : decide (19 < m) = true := decide_eq_true (by omega)
            clear hDl hDt hDA hWd hkm h48 hq19 hl hsz hkq hkn hd hOne hDig hMinus hL
            go_wp2_with fail
            refine (hdg2 _).mono ?_
            rintro e w1 ⟨rfl, rfl⟩
            have HF := Lib.hid (tok_stores HR1.out HB1.out noTok)
            go_wp2_with fail
            exact bodyPost_ret (v := .tuple #[tokV noTok, .int .i64 0]) (res_tok Tryd.results25 rfl rfl HF.out.1) rfl ⟨_, _, rfl, HE.out, HF.out.2⟩
          · skip
            have n1 : ¬ (19 : Int) < (m : Int) := by omega
            have n2 : decide ((19 : Int) < (m : Int)) = false := decide_eq_false n1
            have n3 : decide (19 < m) = false := decide_eq_false (by omega)
            cases hI : innerB x
            · rw [hI] at hin2
              have hnum := rnum_neg D c _ hDl hMinus hDz hDA
              have HL := Lib.hid (fun x ok (h : RNum true _ x ok) => minus_end hMinus hDig h48 (by rw [← hl, ← hkn, at_drop hd, Option.map_some, hI]; simp) (x := x) (ok := ok) h)
              have HK := Lib.hid hkn
              have HO := Lib.hid hOne
              have HS := Lib.hid hl
              clear hDl hDt hDA hWd hkm h48 hq19 hl hsz hkq hkn hd hOne hDig hMinus hL
              go_wp2_with fail
              refine (hdg2 _).mono ?_
              rintro e w1 ⟨rfl, rfl⟩
              go_wp2_with fail
              refine (hin2 _).mono ?_
              rintro e w1 ⟨rfl, rfl⟩
              go_wp2_with fail
              refine (hnum _).mono ?_
              rintro e w1 ⟨rfl, xv, ok, rfl, hRN⟩
              have hfin := HL.out xv ok hRN
              clear hnum hRN
              cases ok
              · have HE := Lib.hid (show OneIs s.data.toList noTok 0 by rw [HS.out]; exact oneIs_of (HO.out.trans hfin))
                clear hfin
                have HF := Lib.hid (tok_stores HR1.out HB1.out noTok)
                go_wp2_with fail
                exact bodyPost_ret (v := .tuple #[tokV noTok, .int .i64 0]) (res_tok Tryd.results25 rfl rfl HF.out.1) rfl ⟨_, _, rfl, HE.out, HF.out.2⟩
              · have HE := Lib.hid (show OneIs s.data.toList ⟨2, [], xv, 0⟩ k by rw [HS.out, HK.out]; rw [HS.out]; exact oneIs_of (HO.out.trans hfin))
                have HF := Lib.hid (tok_stores HR1.out HB1.out ⟨2, [], xv, 0⟩)
                clear hfin
                go_wp2_with fail
                exact bodyPost_ret (v := .tuple #[tokV ⟨2, [], xv, 0⟩, .int .i64 (k : Int)]) (res_tok Tryd.results25 rfl rfl HF.out.1) rfl ⟨_, _, rfl, HE.out, HF.out.2⟩
            · rw [hI] at hin2
              have HE := Lib.hid (show OneIs s.data.toList noTok 0 by rw [hl]; exact oneIs_of ((hOne).trans (numT_inner (by rw [← hl, ← hkn, at_drop hd, Option.map_some, hI]))))
              clear hDl hDt hDA hWd hkm h48 hq19 hl hsz hkq hkn hd hOne hDig hMinus hL
              go_wp2_with fail
              refine (hdg2 _).mono ?_
              rintro e w1 ⟨rfl, rfl⟩
              go_wp2_with fail
              refine (hin2 _).mono ?_
              rintro e w1 ⟨rfl, rfl⟩
              have HF := Lib.hid (tok_stores HR1.out HB1.out noTok)
              go_wp2_with fail
              exact bodyPost_ret (v := .tuple #[tokV noTok, .int .i64 0]) (res_tok Tryd.results25 rfl rfl HF.out.1) rfl ⟨_, _, rfl, HE.out, HF.out.2⟩
      · rw [hX] at hdg2 hw
        have HW := Lib.hid (show 1 + while_ digitB (d :: r) = k + 1 + while_ digitB (s.data.toList.drop (k + 1)) by rw [hw, hr]; simp; omega)
        have a7 : IntKind.i64.wrap ((k : Int) + 1) = (k : Int) + 1 := IntWalk.i64_in _ (by omega)
        clear hd hw hl hr hOne hnl hin2
        go_wp2_with fail
        refine (hdg2 _).mono ?_
        rintro e w1 ⟨rfl, rfl⟩
        go_wp2_with fail
        go_roundg (s.size - k)
        case measure => omega
        case rel => exact ⟨k + 1, by omega, by omega, by omega, by go_num, HW.out, rfl⟩

set_option maxRecDepth 100000 in
theorem rone_sign (s : ByteArray) (c : UInt8) (r : List UInt8) (hl : s.data.toList = c :: r) (hs : s.size ≤ 140737488351232) (hL : letterB c = false) (h34 : c.toNat ≠ 34) (hND : ¬ (digitB c = true ∨ (c.toNat = 45 ∧ r.head?.map digitB = some true))) (w : World) :
    Calls Tryd.prog 25 #[.string s] w fun e w' => ∃ y n, e = .returned (.tuple #[tokV y, .int .i64 (n : Nat)]) ∧ OneIs s.data.toList y n ∧ Below w.heap.size w w' := by
  have hsz : s.size = r.length + 1 := by rw [← size_list, hl]; rfl
  obtain ⟨h0, hc0, _⟩ := byte_at (i := 0) (by rw [List.drop_zero]; exact hl)
  have hp : (0 : Int) < s.size := by omega
  have hlet := rletter_any c
  rw [hL] at hlet
  have g34 : ((c.toNat : Int) == 34) = false := by rw [beq_eq_false_iff_ne]; omega
  have hend := one_sign c r hL h34 hND
  rw [← hl] at hend
  have HE : Hid (OneIs s.data.toList ⟨4, s.data.toList.take (signLen s.data.toList), 0, 0⟩ (signLen s.data.toList)) := by
    refine Lib.hid ?_
    unfold signT at hend
    by_cases h : signLen s.data.toList = 0
    · rw [if_pos h] at hend
      rw [h]
      exact oneIs_none hend
    · rw [if_neg h] at hend
      exact oneIs_of hend
  have hsg := rsign_any s c r hl hs
  obtain ⟨n, hn⟩ : ∃ n, n = signLen s.data.toList := ⟨_, rfl⟩
  obtain ⟨R, hR⟩ : ∃ R, R = s.data.toList.take n := ⟨_, rfl⟩
  have hTs : (⟨R.toArray⟩ : ByteArray).size = n := by
    have := (signLen_le s.data.toList).1
    rw [size_list] at this
    rw [hR]
    show (List.take n s.data.toList).toArray.size = _
    rw [List.size_toArray, List.length_take, size_list]
    omega
  rw [← hn, ← hR] at hsg HE
  clear hR hn
  have hdg := rdigit_any c
  have hCd : digitB c = false := by cases h : digitB c <;> simp_all
  rw [hCd] at hdg
  by_cases h45 : c.toNat = 45
  · have g45 : ((c.toNat : Int) == 45) = true := by rw [h45]; rfl
    match r, hl, hsz, hND with
    | [], hl, hsz, hND =>
      have q1 : decide (1 < (s.size : Int)) = false := decide_eq_false (by rw [hsz]; simp)
      have q2 : ¬ (1 < (s.size : Int)) := by rw [hsz]; simp
      have q3 : decide (1 < s.size) = false := decide_eq_false (by rw [hsz]; simp)
      clear hend hND hsz hL h34 hCd h45 hl
      go_enter Tryd.func25, Tryd.ntmps25
      go_wp2_with fail
      refine (hlet _).mono ?_
      rintro e w1 ⟨rfl, rfl⟩
      go_wp2_with fail
      refine (hdg _).mono ?_
      rintro e w1 ⟨rfl, rfl⟩
      go_wp2_with fail
      refine (hsg _).mono ?_
      rintro e w1 ⟨rfl, h1⟩
      have hr := (Blk.new w 32 (tokA noTok)).kept h1
      have hb := chain ((Below.refl _ _).alloc (Nat.le_refl _) _) h1
      have HF := Lib.hid (tok_stores hr hb ⟨4, R, 0, 0⟩)
      obtain ⟨r0, r1, r2, r3⟩ := blk_tok hr
      obtain ⟨f0, f1, f2, f3⟩ := free_tok hr
      clear h1 hsg hlet hr hb
      go_wp2_with fail
      exact bodyPost_ret (v := .tuple #[tokV ⟨4, R, 0, 0⟩, .int .i64 (n : Nat)]) (res_tok Tryd.results25 rfl rfl HF.out.1) rfl ⟨_, _, rfl, HE.out, HF.out.2⟩
    | d :: r', hl, hsz, hND =>
      obtain ⟨h1, hc1, _⟩ := byte_at (s := s) (i := 1) (c := d) (r := r') (by rw [hl]; rfl)
      have hE : digitB d = false := by
        cases h : digitB d
        · rfl
        · exact absurd (.inr ⟨h45, by simp [h]⟩) hND
      have hdg2 := rdigit_any d
      rw [hE] at hdg2
      have q1 : decide (1 < (s.size : Int)) = true := decide_eq_true (by omega)
      have q2 : 1 < (s.size : Int) := by omega
      have q3 : decide (1 < s.size) = true := decide_eq_true (by omega)
      clear hend hND hsz hL h34 hCd h45 hl hE
      go_enter Tryd.func25, Tryd.ntmps25
      go_wp2_with fail
      refine (hlet _).mono ?_
      rintro e w1 ⟨rfl, rfl⟩
      go_wp2_with fail
      refine (hdg _).mono ?_
      rintro e w1 ⟨rfl, rfl⟩
      go_wp2_with fail
      refine (hdg2 _).mono ?_
      rintro e w1 ⟨rfl, rfl⟩
      go_wp2_with fail
      refine (hsg _).mono ?_
      rintro e w1 ⟨rfl, h1⟩
      have hr := (Blk.new w 32 (tokA noTok)).kept h1
      have hb := chain ((Below.refl _ _).alloc (Nat.le_refl _) _) h1
      have HF := Lib.hid (tok_stores hr hb ⟨4, R, 0, 0⟩)
      obtain ⟨r0, r1, r2, r3⟩ := blk_tok hr
      obtain ⟨f0, f1, f2, f3⟩ := free_tok hr
      clear h1 hsg hlet hr hb
      go_wp2_with fail
      exact bodyPost_ret (v := .tuple #[tokV ⟨4, R, 0, 0⟩, .int .i64 (n : Nat)]) (res_tok Tryd.results25 rfl rfl HF.out.1) rfl ⟨_, _, rfl, HE.out, HF.out.2⟩
  · have g45 : ((c.toNat : Int) == 45) = false := by rw [beq_eq_false_iff_ne]; omega
    clear hend hND hsz hL h34 hCd h45 hl
    go_enter Tryd.func25, Tryd.ntmps25
    go_wp2_with fail
    refine (hlet _).mono ?_
    rintro e w1 ⟨rfl, rfl⟩
    go_wp2_with fail
    refine (hdg _).mono ?_
    rintro e w1 ⟨rfl, rfl⟩
    go_wp2_with fail
    refine (hsg _).mono ?_
    rintro e w1 ⟨rfl, h1⟩
    have hr := (Blk.new w 32 (tokA noTok)).kept h1
    have hb := chain ((Below.refl _ _).alloc (Nat.le_refl _) _) h1
    have HF := Lib.hid (tok_stores hr hb ⟨4, R, 0, 0⟩)
    obtain ⟨r0, r1, r2, r3⟩ := blk_tok hr
    obtain ⟨f0, f1, f2, f3⟩ := free_tok hr
    clear h1 hsg hlet hr hb
    go_wp2_with fail
    exact bodyPost_ret (v := .tuple #[tokV ⟨4, R, 0, 0⟩, .int .i64 (n : Nat)]) (res_tok Tryd.results25 rfl rfl HF.out.1) rfl ⟨_, _, rfl, HE.out, HF.out.2⟩

theorem rone_any (s : ByteArray) (c : UInt8) (r : List UInt8) (hl : s.data.toList = c :: r) (hs : s.size ≤ 140737488351232) (w : World) :
    Calls Tryd.prog 25 #[.string s] w fun e w' => ∃ y n, e = .returned (.tuple #[tokV y, .int .i64 (n : Nat)]) ∧ OneIs s.data.toList y n ∧ Below w.heap.size w w' := by
  by_cases hL : letterB c = true
  · exact rone_word s c r hl hs hL w
  · by_cases h34 : c.toNat = 34
    · exact rone_text s c r hl hs h34 w
    · by_cases hD : digitB c = true
      · exact rone_plain s c r hl hs hD w
      · by_cases hM : c.toNat = 45 ∧ r.head?.map digitB = some true
        · match r, hl, hM with
          | [], hl, hM => exact absurd hM.2 (by simp)
          | d :: r', hl, hM => exact rone_minus s c d r' hl hs hM.1 (by simpa using hM.2) w
        · exact rone_sign s c r hl hs (by simpa using hL) h34 (fun h => h.elim hD hM) w
end Go.Proofs.YtlonkcmkgmbkcaaDoor
