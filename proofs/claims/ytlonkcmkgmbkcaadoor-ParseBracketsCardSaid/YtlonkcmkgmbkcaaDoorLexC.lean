/- What the lexer leans on in memory; the walk of lex.sign. -/
import Derived.Test.YtlonkcmkgmbkcaaDoorLexB
import Derived.WalkSmall
namespace Go.Proofs.YtlonkcmkgmbkcaaDoor
open Go.RowKit LexS
set_option maxHeartbeats 1000000

/-- The library's variables that the lexer comes to, as they are laid. -/
structure GW (W : World) : Prop where
  mx : ∃ m : Int, W.cell? ⟨0, 0, none⟩ = some (.int .i64 m)
  syn : ∃ ev : Value, W.cell? ⟨3, 0, none⟩ = some ev ∧ (ev = .nilIface ∨ ∃ te pe, ev = .iface te pe)
  rng : ∃ ev : Value, W.cell? ⟨4, 0, none⟩ = some ev ∧ (ev = .nilIface ∨ ∃ te pe, ev = .iface te pe)
  tab : Lib.TabIs Tryd.prog W "internal/strconv.uint64pow10" .u64 Lib.pow10Tab
  big : 5 < W.heap.size
theorem GW.kept {W W1 : World} (h : GW W) (hb : Below W.heap.size W W1) : GW W1 where
  mx := by obtain ⟨m, hm⟩ := h.mx; exact ⟨m, keepc hb hm⟩
  syn := by obtain ⟨ev, hm, hi⟩ := h.syn; exact ⟨ev, keepc hb hm, hi⟩
  rng := by obtain ⟨ev, hm, hi⟩ := h.rng; exact ⟨ev, keepc hb hm, hi⟩
  tab := var?_below hb (g := 5) (by kernel_rfl) h.big h.tab
  big := Nat.lt_of_lt_of_le h.big hb.size
theorem GW.alloc {W : World} (h : GW W) (o : Obj) : GW (W.alloc o) := h.kept ((Below.refl _ _).alloc (Nat.le_refl _) _)
theorem GW.drewN {W : World} (h : GW W) (n : Nat) : GW (W.drewN n) := h.kept (below_drewN (Below.refl _ _) n)

theorem byte_all (p : UInt8 → Prop) (h : ∀ n, n < 256 → p (UInt8.ofNat n)) (c : UInt8) : p c := by
  have := h c.toNat c.toNat_lt
  rwa [UInt8.ofNat_toNat] at this
theorem contains_long (c : UInt8) : Lib.contains [33, 61, 32, 60, 61, 32, 62, 61] [c, 61] = decide (c.toNat = 33 ∨ c.toNat = 60 ∨ c.toNat = 62) :=
  byte_all (fun c => Lib.contains [33, 61, 32, 60, 61, 32, 62, 61] [c, 61] = decide (c.toNat = 33 ∨ c.toNat = 60 ∨ c.toNat = 62)) (by decide +kernel) c
theorem contains_short (c : UInt8) : decide (0 ≤ Lib.indexByte [124, 44, 40, 41, 58, 61, 60, 62] c) = decide (c.toNat = 124 ∨ c.toNat = 44 ∨ c.toNat = 40 ∨ c.toNat = 41 ∨ c.toNat = 58 ∨ c.toNat = 61 ∨ c.toNat = 60 ∨ c.toNat = 62) :=
  byte_all (fun c => decide (0 ≤ Lib.indexByte [124, 44, 40, 41, 58, 61, 60, 62] c) = decide (c.toNat = 124 ∨ c.toNat = 44 ∨ c.toNat = 40 ∨ c.toNat = 41 ∨ c.toNat = 58 ∨ c.toNat = 61 ∨ c.toNat = 60 ∨ c.toNat = 62)) (by decide +kernel) c
theorem contains_blank (c : UInt8) : decide (0 ≤ Lib.indexByte [32, 9, 10, 13] c) = blankB c :=
  byte_all (fun c => decide (0 ≤ Lib.indexByte [32, 9, 10, 13] c) = blankB c) (by decide +kernel) c
theorem text_of {s : ByteArray} {l : List UInt8} (h : s.data.toList = l) : s = ⟨l.toArray⟩ := by rw [← h]
theorem cut_text (s : ByteArray) (a b : Nat) : s.extract a b = ⟨((s.data.toList.take b).drop a).toArray⟩ := text_of (list_cut s a b)

def signT (l : Bytes) : Tok × Nat := if signLen l = 0 then (noTok, 0) else (⟨4, l.take (signLen l), 0, 0⟩, signLen l)

theorem tok_stores {w : World} {wr : World} (hr : Blk wr w.heap.size 32 (tokA noTok)) (hb : Below w.heap.size w wr) (y : Tok) :
    Blk ((((wr.setCell ⟨w.heap.size, 0, none⟩ (.int .i64 (y.kind : Int))).setCell ⟨w.heap.size, 1, none⟩ (.string ⟨y.s.toArray⟩)).setCell ⟨w.heap.size, 2, none⟩ (.int .i64 y.n)).setCell ⟨w.heap.size, 3, none⟩ (.int .i64 (y.at_ : Int))) w.heap.size 32 (tokA y) ∧
    Below w.heap.size w ((((wr.setCell ⟨w.heap.size, 0, none⟩ (.int .i64 (y.kind : Int))).setCell ⟨w.heap.size, 1, none⟩ (.string ⟨y.s.toArray⟩)).setCell ⟨w.heap.size, 2, none⟩ (.int .i64 y.n)).setCell ⟨w.heap.size, 3, none⟩ (.int .i64 (y.at_ : Int))) :=
  ⟨put_tok hr, (((hb.setCell (Nat.le_refl _) _).setCell (Nat.le_refl _) _).setCell (Nat.le_refl _) _).setCell (Nat.le_refl _) _⟩

/-- Where the world is written out: the token's block holds what was stored. -/
theorem new_tok {w : World} (y : Tok) : Blk (w.alloc (.cells (tokA y) 32)) w.heap.size 32 (tokA y) ∧ Below w.heap.size w (w.alloc (.cells (tokA y) 32)) :=
  ⟨Blk.new w _ _, (Below.refl _ _).alloc (Nat.le_refl _) _⟩

set_option maxRecDepth 100000 in
theorem sign_any (s : ByteArray) (c : UInt8) (r : List UInt8) (hl : s.data.toList = c :: r) (hs : s.size ≤ 140737488351232) (w : World) (hg : GW w) :
    Calls Tryd.prog 39 #[.string s] w fun e w' => e = .returned (.tuple #[tokV (signT s.data.toList).1, .int .i64 ((signT s.data.toList).2 : Int)]) ∧ Below w.heap.size w w' := by
  have hsz : s.size = r.length + 1 := by rw [← size_list, hl]; rfl
  obtain ⟨h0, hc0, _⟩ := byte_at (i := 0) (by rw [List.drop_zero]; exact hl)
  have e1 : s.extract 0 1 = ⟨#[c]⟩ := by rw [cut_text, hl]; rfl
  have hone := Tryd.strings_Contains_one ⟨#[124, 44, 40, 41, 58, 61, 60, 62]⟩ c
  have hsh := contains_short c
  change decide (0 ≤ Lib.indexByte (⟨#[124, 44, 40, 41, 58, 61, 60, 62]⟩ : ByteArray).data.toList c) = _ at hsh
  rw [hsh] at hone
  clear hsh
  obtain ⟨m, hm⟩ := hg.mx
  have hm' : ∀ o, (w.alloc o).cell? ⟨0, 0, none⟩ = some (.int .i64 m) := fun o => keepc ((Below.refl _ _).alloc (Nat.le_refl _) _) hm
  have HM := Lib.hid hm'
  clear hm hm' hg
  match r with
  | [] =>
    have hno : ¬ ((([] : List UInt8).head?.map (·.toNat) = some 61) ∧ (c.toNat = 33 ∨ c.toNat = 60 ∨ c.toNat = 62)) := by simp
    have hq : (s.size : Int) = 1 := by rw [hsz]; rfl
    have hq2 : decide (1 < (s.size : Int)) = false := by rw [hq]; rfl
    have hq1 : (0 : Int) < s.size := by omega
    have hq3 : (1 : Int) ≤ s.size := by omega
    have hq4 : (s.size : Int) ≤ 1 := by omega
    clear hq hsz
    by_cases hc1_ : c.toNat = 124 ∨ c.toNat = 44 ∨ c.toNat = 40 ∨ c.toNat = 41 ∨ c.toNat = 58 ∨ c.toNat = 61 ∨ c.toNat = 60 ∨ c.toNat = 62
    · rw [decide_eq_true hc1_] at hone
      have hend : signT s.data.toList = (⟨4, [c], 0, 0⟩, 1) := by
        have : signLen s.data.toList = 1 := by rw [hl]; simp only [signLen]; rw [if_neg hno, if_pos hc1_]
        unfold signT
        rw [this, hl]
        rfl
      have HD := Lib.hid hend
      clear hend hno hl hc1_
      go_enter Tryd.func39, Tryd.ntmps39
      go_wp2_with fail
      refine (hone _).mono ?_
      rintro e w1 ⟨rfl, rfl⟩
      go_wp2_with fail
      have HT := new_tok (w := w) ⟨4, [c], 0, 0⟩
      exact bodyPost_ret (v := .tuple #[tokV ⟨4, [c], 0, 0⟩, .int .i64 1]) (res_tok Tryd.results39 rfl rfl HT.1) rfl ⟨by rw [HD.out]; rfl, HT.2⟩
    · rw [decide_eq_false hc1_] at hone
      have hend : signT s.data.toList = (noTok, 0) := by
        have : signLen s.data.toList = 0 := by rw [hl]; simp only [signLen]; rw [if_neg hno, if_neg hc1_]
        unfold signT
        rw [this]
        rfl
      have HD := Lib.hid hend
      clear hend hno hl hc1_
      go_enter Tryd.func39, Tryd.ntmps39
      go_wp2_with fail
      refine (hone _).mono ?_
      rintro e w1 ⟨rfl, rfl⟩
      go_wp2_with fail
      have HT := new_tok (w := w) noTok
      exact bodyPost_ret (v := .tuple #[tokV noTok, .int .i64 0]) (res_tok Tryd.results39 rfl rfl HT.1) rfl ⟨by rw [HD.out]; rfl, HT.2⟩
  | d :: r' =>
    obtain ⟨h1, hc1, _⟩ := byte_at (s := s) (i := 1) (c := d) (r := r') (by rw [hl]; rfl)
    have hg1 : (1 : Int) < s.size := by omega
    have hg2 : (2 : Int) ≤ s.size := by omega
    by_cases hd : d.toNat = 61
    · have hd' : d = 61 := by rw [← UInt8.ofNat_toNat (x := d), hd]; rfl
      subst hd'
      have e2 : s.extract 0 2 = ⟨#[c, 61]⟩ := by rw [cut_text, hl]; rfl
      have htwo := Tryd.strings_Contains ⟨#[33, 61, 32, 60, 61, 32, 62, 61]⟩ ⟨#[c, 61]⟩ m
      have hlg := contains_long c
      change Lib.contains (⟨#[33, 61, 32, 60, 61, 32, 62, 61]⟩ : ByteArray).data.toList (⟨#[c, 61]⟩ : ByteArray).data.toList = _ at hlg
      rw [hlg] at htwo
      clear hlg hd
      by_cases hc : c.toNat = 33 ∨ c.toNat = 60 ∨ c.toNat = 62
      · rw [decide_eq_true hc] at htwo
        have hend : signT s.data.toList = (⟨4, [c, 61], 0, 0⟩, 2) := by
          rw [hl]
          have : signLen (c :: 61 :: r') = 2 := by simp [signLen, hc]
          unfold signT
          rw [this]
          rfl
        have HD := Lib.hid hend
        clear hend hc hl hone
        go_enter Tryd.func39, Tryd.ntmps39
        go_wp2_with fail
        refine (htwo _ (by decide) (HM.out _)).mono ?_
        rintro e w1 ⟨rfl, rfl⟩
        go_wp2_with fail
        have HT := new_tok (w := w) ⟨4, [c, 61], 0, 0⟩
        exact bodyPost_ret (v := .tuple #[tokV ⟨4, [c, 61], 0, 0⟩, .int .i64 2]) (res_tok Tryd.results39 rfl rfl HT.1) rfl ⟨by rw [HD.out]; rfl, HT.2⟩
      · rw [decide_eq_false hc] at htwo
        have hno : ¬ (((61 :: r' : List UInt8).head?.map (·.toNat) = some 61) ∧ (c.toNat = 33 ∨ c.toNat = 60 ∨ c.toNat = 62)) := fun h => hc h.2
        clear hc
        by_cases hc1_ : c.toNat = 124 ∨ c.toNat = 44 ∨ c.toNat = 40 ∨ c.toNat = 41 ∨ c.toNat = 58 ∨ c.toNat = 61 ∨ c.toNat = 60 ∨ c.toNat = 62
        · rw [decide_eq_true hc1_] at hone
          have hend : signT s.data.toList = (⟨4, [c], 0, 0⟩, 1) := by
            have : signLen s.data.toList = 1 := by rw [hl]; simp only [signLen]; rw [if_neg hno, if_pos hc1_]
            unfold signT
            rw [this, hl]
            rfl
          have HD := Lib.hid hend
          clear hend hno hl hc1_
          go_enter Tryd.func39, Tryd.ntmps39
          go_wp2_with fail
          refine (htwo _ (by decide) (HM.out _)).mono ?_
          rintro e w1 ⟨rfl, rfl⟩
          go_wp2_with fail
          refine (hone _).mono ?_
          rintro e w1 ⟨rfl, rfl⟩
          go_wp2_with fail
          have HT := new_tok (w := w) ⟨4, [c], 0, 0⟩
          exact bodyPost_ret (v := .tuple #[tokV ⟨4, [c], 0, 0⟩, .int .i64 1]) (res_tok Tryd.results39 rfl rfl HT.1) rfl ⟨by rw [HD.out]; rfl, HT.2⟩
        · rw [decide_eq_false hc1_] at hone
          have hend : signT s.data.toList = (noTok, 0) := by
            have : signLen s.data.toList = 0 := by rw [hl]; simp only [signLen]; rw [if_neg hno, if_neg hc1_]
            unfold signT
            rw [this]
            rfl
          have HD := Lib.hid hend
          clear hend hno hl hc1_
          go_enter Tryd.func39, Tryd.ntmps39
          go_wp2_with fail
          refine (htwo _ (by decide) (HM.out _)).mono ?_
          rintro e w1 ⟨rfl, rfl⟩
          go_wp2_with fail
          refine (hone _).mono ?_
          rintro e w1 ⟨rfl, rfl⟩
          go_wp2_with fail
          have HT := new_tok (w := w) noTok
          exact bodyPost_ret (v := .tuple #[tokV noTok, .int .i64 0]) (res_tok Tryd.results39 rfl rfl HT.1) rfl ⟨by rw [HD.out]; rfl, HT.2⟩
    · have hno : ¬ (((d :: r' : List UInt8).head?.map (·.toNat) = some 61) ∧ (c.toNat = 33 ∨ c.toNat = 60 ∨ c.toNat = 62)) := by simp [hd]
      have hd' : ((d.toNat : Int) == 61) = false := by rw [beq_eq_false_iff_ne]; omega
      clear hd
      by_cases hc1_ : c.toNat = 124 ∨ c.toNat = 44 ∨ c.toNat = 40 ∨ c.toNat = 41 ∨ c.toNat = 58 ∨ c.toNat = 61 ∨ c.toNat = 60 ∨ c.toNat = 62
      · rw [decide_eq_true hc1_] at hone
        have hend : signT s.data.toList = (⟨4, [c], 0, 0⟩, 1) := by
          have : signLen s.data.toList = 1 := by rw [hl]; simp only [signLen]; rw [if_neg hno, if_pos hc1_]
          unfold signT
          rw [this, hl]
          rfl
        have HD := Lib.hid hend
        clear hend hno hl hc1_
        go_enter Tryd.func39, Tryd.ntmps39
        go_wp2_with fail
        refine (hone _).mono ?_
        rintro e w1 ⟨rfl, rfl⟩
        go_wp2_with fail
        have HT := new_tok (w := w) ⟨4, [c], 0, 0⟩
        exact bodyPost_ret (v := .tuple #[tokV ⟨4, [c], 0, 0⟩, .int .i64 1]) (res_tok Tryd.results39 rfl rfl HT.1) rfl ⟨by rw [HD.out]; rfl, HT.2⟩
      · rw [decide_eq_false hc1_] at hone
        have hend : signT s.data.toList = (noTok, 0) := by
          have : signLen s.data.toList = 0 := by rw [hl]; simp only [signLen]; rw [if_neg hno, if_neg hc1_]
          unfold signT
          rw [this]
          rfl
        have HD := Lib.hid hend
        clear hend hno hl hc1_
        go_enter Tryd.func39, Tryd.ntmps39
        go_wp2_with fail
        refine (hone _).mono ?_
        rintro e w1 ⟨rfl, rfl⟩
        go_wp2_with fail
        have HT := new_tok (w := w) noTok
        exact bodyPost_ret (v := .tuple #[tokV noTok, .int .i64 0]) (res_tok Tryd.results39 rfl rfl HT.1) rfl ⟨by rw [HD.out]; rfl, HT.2⟩
end Go.Proofs.YtlonkcmkgmbkcaaDoor
