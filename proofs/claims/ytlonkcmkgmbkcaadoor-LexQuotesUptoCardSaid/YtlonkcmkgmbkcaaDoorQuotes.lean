/- LexQuotes: the walks of both Quotes and of the statement. -/
import Derived.Test.YtlonkcmkgmbkcaaDoorQuotesP
import Derived.Test.YtlonkcmkgmbkcaaDoorRefT
import Derived.Test.YtlonkcmkgmbkcaaDoorLexG
import Derived.Lib.ReplaceLaws
namespace Go.Proofs.YtlonkcmkgmbkcaaDoor
open Go.RowKit LexS
set_option maxHeartbeats 4000000

theorem cat3 (a b c : Bytes) : (⟨a.toArray⟩ ++ ⟨b.toArray⟩ ++ ⟨c.toArray⟩ : ByteArray) = ⟨(a ++ b ++ c).toArray⟩ := by rw [ByteArray.mk_append_mk, ByteArray.mk_append_mk]
theorem text_size (l : Bytes) : (⟨l.toArray⟩ : ByteArray).size = l.length := by simp [ByteArray.size]
theorem text_list (l : Bytes) : (⟨l.toArray⟩ : ByteArray).data.toList = l := by simp
theorem repl_any (c x : UInt8) (s : ByteArray) (hs : s.size ≤ 4194304) (w : World) (hg : GW w) :
    Calls Tryd.prog 26 #[.string s, .string ⟨#[c]⟩, .string ⟨#[x, c]⟩] w fun e w' => e = .returned (.string ⟨(Lib.replaceAll s.data.toList [c] [x, c]).toArray⟩) ∧ Below w.heap.size w w' := by
  obtain ⟨m, hm⟩ := hg.mx
  have h1 : 1 ≤ (⟨#[c]⟩ : ByteArray).size := Nat.le_refl 1
  have hc := Lib.countB_mul_le ⟨#[c]⟩ h1 s.size s (Nat.le_refl _)
  have e1 : (⟨#[c]⟩ : ByteArray).size = 1 := rfl
  have e2 : (⟨#[x, c]⟩ : ByteArray).size = 2 := rfl
  rw [e1] at hc
  exact Tryd.strings_ReplaceAll s ⟨#[c]⟩ ⟨#[x, c]⟩ m w (by omega) hm h1 (by rw [e2]; omega)

set_option maxRecDepth 100000 in
theorem quote_any (s : ByteArray) (hs : s.size ≤ 1048576) (w : World) (hg : GW w) :
    Calls Tryd.prog 17 #[.string s] w fun e w' => e = .returned (.string ⟨(quoteS s.data.toList).toArray⟩) ∧ Below w.heap.size w w' := by
  have k1 := repl_any 92 92 s (by omega)
  have hr1 := replaceAll_one 92 [92, 92] s.data.toList (by decide)
  have hl1 := repl_len 92 92 s.data.toList
  obtain ⟨l1, hl⟩ : ∃ l1, l1 = Lib.replaceAll s.data.toList [92] [92, 92] := ⟨_, rfl⟩
  rw [size_list, ← hr1, ← hl] at hl1
  obtain ⟨t, ht⟩ : ∃ t : ByteArray, t = ⟨l1.toArray⟩ := ⟨_, rfl⟩
  have htl : t.data.toList = l1 := by rw [ht]
  have hts : t.size = l1.length := by rw [ht]; exact text_size _
  rw [← hl, ← ht] at k1
  have k2 := repl_any 34 92 t (by omega)
  rw [htl] at k2
  have hr2 := replaceAll_one 34 [92, 34] l1 (by decide)
  have hl2 := repl_len 34 92 l1
  have hq := quote_replaced s.data.toList
  rw [← hl] at hq
  obtain ⟨l2, hl'⟩ : ∃ l2, l2 = Lib.replaceAll l1 [34] [92, 34] := ⟨_, rfl⟩
  rw [← hr2, ← hl'] at hl2
  rw [← hl'] at k2 hq
  obtain ⟨u, hu⟩ : ∃ u : ByteArray, u = ⟨l2.toArray⟩ := ⟨_, rfl⟩
  have hus : u.size = l2.length := by rw [hu]; exact text_size _
  have hcat : (⟨#[34]⟩ : ByteArray) ++ u ++ ⟨#[34]⟩ = ⟨(quoteS s.data.toList).toArray⟩ := by
    rw [← hq, hu]
    exact cat3 [34] l2 [34]
  rw [← hu] at k2
  have z1 : (u.size : Int) ≤ 8388608 := by omega
  have z2 : u.size ≤ 8388608 := by omega
  have z3 : (⟨#[34]⟩ ++ u : ByteArray).size = 1 + u.size := ByteArray.size_append
  have HG := Lib.hid hg
  have HC := Lib.hid hcat
  clear hu hus hl' hq hr2 hl2 htl hts ht hl hr1 hl1 hg hcat
  go_enter Tryd.func17, Tryd.ntmps17
  go_wp2_with fail
  refine (k1 _ HG.out).mono ?_
  rintro e w1 ⟨rfl, b1⟩
  have HG1 := Lib.hid (HG.out.kept b1)
  go_wp2_with fail
  refine (k2 _ HG1.out).mono ?_
  rintro e w2 ⟨rfl, b2⟩
  have HB := Lib.hid (chain b1 b2)
  clear b1 b2 k1 k2
  go_wp2_with fail
  exact bodyPost_ret (results_tmp rfl _ _ _) rfl ⟨by rw [← HC.out]; rfl, HB.out⟩

def RQRel (s : ByteArray) (w : World) (i : Nat) (v : Value) (wr : World) : Prop :=
  i ≤ s.size ∧ v ≠ .slice none 0 0 ∧ wr.ownsRow w.heap.size 5 1 v (34 :: (s.data.toList.take i).flatMap esc).length (Lib.byteCells (34 :: (s.data.toList.take i).flatMap esc)) ∧ Below w.heap.size w wr
theorem RQRel.start (s : ByteArray) (w : World) : RQRel s w 0 (.slice (some ⟨w.heap.size, 0, none⟩) 1 1) (w.alloc (.cells #[.int .u8 34] 5)) :=
  ⟨Nat.zero_le _, (by intro h; cases h), ⟨rfl, .inr ⟨w.heap.size, 1, #[.int .u8 34], rfl, Nat.le_refl _, heap_alloc_new w _, Nat.le_refl _, by decide, rfl, rfl⟩⟩, (Below.refl _ _).alloc (Nat.le_refl _) _⟩
theorem take_esc {s : ByteArray} {i : Nat} {c : UInt8} {r : Bytes} (h : s.data.toList.drop i = c :: r) : 34 :: (s.data.toList.take (i + 1)).flatMap esc = (34 :: (s.data.toList.take i).flatMap esc) ++ esc c := by
  have : s.data.toList.take (i + 1) = s.data.toList.take i ++ [c] := by
    rw [List.take_add_one, ← List.head?_drop, h]; rfl
  rw [this, List.flatMap_append]
  simp
theorem esc_bound (s : ByteArray) (i : Nat) (hi : i ≤ s.size) : (34 :: (s.data.toList.take i).flatMap esc).length ≤ 2 * s.size + 1 := by
  have := (esc_len (s.data.toList.take i)).1
  rw [List.length_take, size_list] at this
  rw [List.length_cons]
  omega
theorem byte_cat (acc : Bytes) (c : UInt8) : Lib.byteCells acc ++ [.int .u8 (c.toNat : Int)] = Lib.byteCells (acc ++ [c]) := bcells_app acc c

set_option maxRecDepth 100000 in
theorem rquote_any (s : ByteArray) (hs : s.size ≤ 1048576) (w : World) :
    Calls Tryd.prog 18 #[.string s] w fun e w' => e = .returned (.string ⟨(quoteS s.data.toList).toArray⟩) ∧ Below w.heap.size w w' := by
  go_enter Tryd.func18, Tryd.ntmps18
  have H0 := Lib.hid (RQRel.start s w)
  obtain ⟨i0, hi, hz0, hz1, hz2⟩ := info_parts byte_info
  go_wp2_with fail
  go_loopw [3, 4] (fun v c wr => ∃ i : Nat, c = .int .i64 (i : Int) ∧ RQRel s w i v wr) (fun _ c _ => s.size - (intOf c).toNat)
  case atStart => exact ⟨0, rfl, H0.out⟩
  case round =>
    obtain ⟨i, rfl, his, hvn, hown, hb⟩ := hrel
    have hlen := esc_bound s i his
    match hd : s.data.toList.drop i with
    | [] =>
      have he := at_end hd
      have hfin : (34 :: (s.data.toList.take i).flatMap esc) ++ [34] = quoteS s.data.toList := by
        rw [List.take_of_length_le (by rw [size_list]; exact he)]; rfl
      obtain ⟨acc, hacc⟩ : ∃ acc, acc = 34 :: (s.data.toList.take i).flatMap esc := ⟨_, rfl⟩
      rw [← hacc] at hfin hown hlen
      have HV := Lib.hid hvn
      have HB := Lib.hid hb
      have HQ := Lib.hid hfin
      clear hacc hfin hd hb hvn H0
      go_wp2_with (at_builtin; refine wpList_append_own _ rfl _ _ _ rfl w.heap.size 5 i0 _ 1 1 (by kernel_rfl) hi hz0 hz1 hz2 rfl (by decide) _ acc.length (Lib.byteCells acc) rfl (hown.alloc _) ⟨wr.heap.size, 0, none⟩ 1 1 [.int .u8 34] rfl rfl (one_cell wr _) (by simp [Value.oneCell']) (by simp only [maxLen]; omega) (by omega) (HB.out.alloc HB.out.size _).size ?_)
      intro v' w' ho hgr hnil
      have HF := Lib.hid ((HB.out.alloc HB.out.size _).grown hgr (HB.out.alloc HB.out.size _).size (fun k hk => ((hown.alloc (.cells #[.int .u8 34] 5)).lt k hk).1))
      have ho2 : w'.ownsRow w.heap.size 5 1 v' (acc ++ [34]).length (Lib.byteCells (acc ++ [34])) := by
        rw [← byte_cat, List.length_append]
        exact ho
      have hcv := bytes_text ho2 (fun e => hnil e)
      rw [HQ.out] at hcv
      clear ho hgr hnil ho2
      go_wp2_with fail
      exact bodyPost_ret (results_tmp rfl _ _ _) rfl ⟨rfl, HF.out⟩
    | c :: r =>
      obtain ⟨hlt, hc, hr⟩ := byte_at hd
      have hnx := take_esc hd
      obtain ⟨acc, hacc⟩ : ∃ acc, acc = 34 :: (s.data.toList.take i).flatMap esc := ⟨_, rfl⟩
      rw [← hacc] at hnx hown hlen
      have w1 : IntKind.i64.wrap ((i : Int) + 1) = (i : Int) + 1 := IntWalk.i64_in _ (by omega)
      have HV := Lib.hid hvn
      have HB := Lib.hid hb
      by_cases hq : c.toNat = 34 ∨ c.toNat = 92
      · have he : esc c = [92, c] := by unfold esc; rw [if_pos hq]
        rw [he] at hnx
        have HN := Lib.hid hnx
        rcases hq with h34 | h92
        · have g34 : ((c.toNat : Int) == 34) = true := by rw [h34]; rfl
          clear hacc hd hb hvn H0 hr hnx he h34
          go_wp2_with (at_builtin; refine wpList_append_own _ rfl _ _ _ rfl w.heap.size 5 i0 _ 1 1 (by kernel_rfl) hi hz0 hz1 hz2 rfl (by decide) _ acc.length (Lib.byteCells acc) rfl (hown.alloc _) ⟨wr.heap.size, 0, none⟩ 1 1 [.int .u8 92] rfl rfl (one_cell wr _) (by simp [Value.oneCell']) (by simp only [maxLen]; omega) (by omega) (HB.out.alloc HB.out.size _).size ?_)
          intro v' w' ho hgr hnil
          have HF := Lib.hid ((HB.out.alloc HB.out.size _).grown hgr (HB.out.alloc HB.out.size _).size (fun k hk => ((hown.alloc (.cells #[.int .u8 92] 5)).lt k hk).1))
          have ho1 : w'.ownsRow w.heap.size 5 1 v' (acc ++ [92]).length (Lib.byteCells (acc ++ [92])) := by
            rw [← byte_cat, List.length_append]
            exact ho
          have hlen1 : (acc ++ [92]).length ≤ 2 * s.size + 2 := by rw [List.length_append, List.length_singleton]; omega
          have HN2 : Hid (34 :: (s.data.toList.take (i + 1)).flatMap esc = (acc ++ [92]) ++ [c]) := Lib.hid (by rw [HN.out, List.append_assoc]; rfl)
          clear ho hgr hnil hown
          obtain ⟨acc1, hacc1⟩ : ∃ acc1, acc1 = acc ++ [92] := ⟨_, rfl⟩
          rw [← hacc1] at ho1 hlen1 HN2
          clear hacc1
          go_wp2_with (at_builtin; refine wpList_append_own _ rfl _ _ _ rfl w.heap.size 5 i0 _ 1 1 (by kernel_rfl) hi hz0 hz1 hz2 rfl (by decide) _ acc1.length (Lib.byteCells acc1) rfl (ho1.alloc _) ⟨w'.heap.size, 0, none⟩ 1 1 [.int .u8 (c.toNat : Int)] rfl rfl (one_cell w' _) (by simp [Value.oneCell']) (by simp only [maxLen]; omega) (by omega) (HF.out.alloc HF.out.size _).size ?_)
          intro v2 w2 ho2 hgr2 hnil2
          have HF2 := Lib.hid ((HF.out.alloc HF.out.size _).grown hgr2 (HF.out.alloc HF.out.size _).size (fun k hk => ((ho1.alloc (.cells #[.int .u8 (c.toNat : Int)] 5)).lt k hk).1))
          have HO := Lib.hid (show w2.ownsRow w.heap.size 5 1 v2 (acc1 ++ [c]).length (Lib.byteCells (acc1 ++ [c])) by rw [← byte_cat, List.length_append]; exact ho2)
          have HNil := Lib.hid hnil2
          clear ho2 hgr2 hnil2 ho1
          go_wp2_with fail
          exact ⟨⟨i + 1, by go_num, by omega, fun e => HNil.out e, by rw [HN2.out]; exact HO.out, HF2.out⟩, by simp [intOf]; omega⟩
        · have g34 : ((c.toNat : Int) == 34) = false := by rw [beq_eq_false_iff_ne]; omega
          have g92 : ((c.toNat : Int) == 92) = true := by rw [h92]; rfl
          clear hacc hd hb hvn H0 hr hnx he h92
          go_wp2_with (at_builtin; refine wpList_append_own _ rfl _ _ _ rfl w.heap.size 5 i0 _ 1 1 (by kernel_rfl) hi hz0 hz1 hz2 rfl (by decide) _ acc.length (Lib.byteCells acc) rfl (hown.alloc _) ⟨wr.heap.size, 0, none⟩ 1 1 [.int .u8 92] rfl rfl (one_cell wr _) (by simp [Value.oneCell']) (by simp only [maxLen]; omega) (by omega) (HB.out.alloc HB.out.size _).size ?_)
          intro v' w' ho hgr hnil
          have HF := Lib.hid ((HB.out.alloc HB.out.size _).grown hgr (HB.out.alloc HB.out.size _).size (fun k hk => ((hown.alloc (.cells #[.int .u8 92] 5)).lt k hk).1))
          have ho1 : w'.ownsRow w.heap.size 5 1 v' (acc ++ [92]).length (Lib.byteCells (acc ++ [92])) := by
            rw [← byte_cat, List.length_append]
            exact ho
          have hlen1 : (acc ++ [92]).length ≤ 2 * s.size + 2 := by rw [List.length_append, List.length_singleton]; omega
          have HN2 : Hid (34 :: (s.data.toList.take (i + 1)).flatMap esc = (acc ++ [92]) ++ [c]) := Lib.hid (by rw [HN.out, List.append_assoc]; rfl)
          clear ho hgr hnil hown
          obtain ⟨acc1, hacc1⟩ : ∃ acc1, acc1 = acc ++ [92] := ⟨_, rfl⟩
          rw [← hacc1] at ho1 hlen1 HN2
          clear hacc1
          go_wp2_with (at_builtin; refine wpList_append_own _ rfl _ _ _ rfl w.heap.size 5 i0 _ 1 1 (by kernel_rfl) hi hz0 hz1 hz2 rfl (by decide) _ acc1.length (Lib.byteCells acc1) rfl (ho1.alloc _) ⟨w'.heap.size, 0, none⟩ 1 1 [.int .u8 (c.toNat : Int)] rfl rfl (one_cell w' _) (by simp [Value.oneCell']) (by simp only [maxLen]; omega) (by omega) (HF.out.alloc HF.out.size _).size ?_)
          intro v2 w2 ho2 hgr2 hnil2
          have HF2 := Lib.hid ((HF.out.alloc HF.out.size _).grown hgr2 (HF.out.alloc HF.out.size _).size (fun k hk => ((ho1.alloc (.cells #[.int .u8 (c.toNat : Int)] 5)).lt k hk).1))
          have HO := Lib.hid (show w2.ownsRow w.heap.size 5 1 v2 (acc1 ++ [c]).length (Lib.byteCells (acc1 ++ [c])) by rw [← byte_cat, List.length_append]; exact ho2)
          have HNil := Lib.hid hnil2
          clear ho2 hgr2 hnil2 ho1
          go_wp2_with fail
          exact ⟨⟨i + 1, by go_num, by omega, fun e => HNil.out e, by rw [HN2.out]; exact HO.out, HF2.out⟩, by simp [intOf]; omega⟩
      · have he : esc c = [c] := by unfold esc; rw [if_neg hq]
        rw [he] at hnx
        have HN := Lib.hid hnx
        have g34 : ((c.toNat : Int) == 34) = false := by rw [beq_eq_false_iff_ne]; omega
        have g92 : ((c.toNat : Int) == 92) = false := by rw [beq_eq_false_iff_ne]; omega
        clear hacc hd hb hvn H0 hr hnx he hq
        go_wp2_with (at_builtin; refine wpList_append_own _ rfl _ _ _ rfl w.heap.size 5 i0 _ 1 1 (by kernel_rfl) hi hz0 hz1 hz2 rfl (by decide) _ acc.length (Lib.byteCells acc) rfl (hown.alloc _) ⟨wr.heap.size, 0, none⟩ 1 1 [.int .u8 (c.toNat : Int)] rfl rfl (one_cell wr _) (by simp [Value.oneCell']) (by simp only [maxLen]; omega) (by omega) (HB.out.alloc HB.out.size _).size ?_)
        intro v' w' ho hgr hnil
        have HF := Lib.hid ((HB.out.alloc HB.out.size _).grown hgr (HB.out.alloc HB.out.size _).size (fun k hk => ((hown.alloc (.cells #[.int .u8 (c.toNat : Int)] 5)).lt k hk).1))
        have HO := Lib.hid (show w'.ownsRow w.heap.size 5 1 v' (acc ++ [c]).length (Lib.byteCells (acc ++ [c])) by rw [← byte_cat, List.length_append]; exact ho)
        have HNil := Lib.hid hnil
        clear ho hgr hnil
        go_wp2_with fail
        exact ⟨⟨i + 1, by go_num, by omega, fun e => HNil.out e, by rw [HN.out]; exact HO.out, HF.out⟩, by simp [intOf]; omega⟩

theorem row_one {W : World} {base : Nat} {v : Value} {t : Tok} (h : W.ownsRow base 32 4 v [t].length (toksL [t])) :
    ∃ g cap, v = .slice (some ⟨g, 0, none⟩) 1 cap ∧ W.cell? ⟨g, 0, none⟩ = some (.int .i64 (t.kind : Int)) ∧ W.cell? ⟨g, 1, none⟩ = some (.string ⟨t.s.toArray⟩) := by
  obtain ⟨g, cap, rfl, _, _, _, hc⟩ := row_form h (by simp)
  exact ⟨g, cap, rfl, (hc 0 t rfl).1, (hc 0 t rfl).2.1⟩

set_option maxRecDepth 100000 in
theorem quotes_any (s : ByteArray) (hs : s.size ≤ 1048576) (w : World) (hg : GW w) :
    Calls Tryd.prog 8 #[.string s] w fun e w' => e = .returned (.bool true) ∧ Below w.heap.size w w' := by
  have hsh := shown_any w hg
  have k1 := quote_any s hs
  have k3 := rquote_any s hs
  have hql := quote_len s.data.toList
  obtain ⟨Q, hQ⟩ : ∃ Q : ByteArray, Q = ⟨(quoteS s.data.toList).toArray⟩ := ⟨_, rfl⟩
  rw [← hQ] at k1 k3
  have hQs : Q.size ≤ 2097154 := by rw [hQ, text_size]; rw [size_list] at hql; omega
  have k2 := lex_any Q (by omega)
  have hQl : Q.data.toList = quoteS s.data.toList := by rw [hQ]
  rw [hQl] at k2
  have hsm := lex_quote_small s.data.toList
  have hgr := lex_quote_great s.data.toList
  rw [size_list] at hsm hgr
  have HG0 := Lib.hid hg
  clear hQ hQl hql hg
  go_enter Tryd.func8, Tryd.ntmps8
  go_wp2_with fail
  refine hsh.mono ?_
  rintro e w1 ⟨rfl, b1⟩
  have HG := Lib.hid (HG0.out.kept b1)
  have HB := Lib.hid b1
  clear hsh b1
  go_wp2_with fail
  refine (k1 _ HG.out).mono ?_
  rintro e w2 ⟨rfl, b2⟩
  have HG2 := Lib.hid (HG.out.kept b2)
  have HB2 := Lib.hid (chain HB.out b2)
  clear k1 b2
  go_wp2_with fail
  refine (k2 _ HG2.out).mono ?_
  rintro e w3 ⟨v1, rfl, o1, b3⟩
  have HB3 := Lib.hid (chain HB2.out b3)
  clear k2 b3
  by_cases h64 : 64 < s.size
  · have q1 : (64 : Int) < (s.size : Int) := by omega
    have q2 : decide ((64 : Int) < (s.size : Int)) = true := decide_eq_true q1
    have q3 : decide (64 < s.size) = true := decide_eq_true h64
    have he := hgr h64
    obtain ⟨⟨xs, ax, ex⟩, hx⟩ : ∃ q, q = lexS (quoteS s.data.toList) := ⟨_, rfl⟩
    rw [← hx] at he o1 ⊢
    dsimp only at he o1 ⊢
    have q4 : ((ex : Int) != 0) = true := by rw [bne_iff_ne]; omega
    clear hsm hgr hx he h64 o1
    go_wp2_with fail
    refine (k3 _).mono ?_
    rintro e w4 ⟨rfl, b4⟩
    have HB4 := Lib.hid (chain HB3.out b4)
    clear k3 b4
    go_wp2_with fail
    exact bodyPost_ret (results_tmp rfl _ _ _) rfl ⟨rfl, HB4.out⟩
  · have q1 : ¬ (64 : Int) < (s.size : Int) := by omega
    have q2 : decide ((64 : Int) < (s.size : Int)) = false := decide_eq_false q1
    have q3 : decide (64 < s.size) = false := decide_eq_false h64
    have he := hsm (by omega)
    rw [he] at o1 ⊢
    dsimp only at o1 ⊢
    have HO := Lib.hid o1
    clear hsm hgr he h64 o1
    go_wp2_with fail
    refine (k3 _).mono ?_
    rintro e w4 ⟨rfl, b4⟩
    have HB4 := Lib.hid (chain HB3.out b4)
    obtain ⟨g, cap, rfl, c0, c1⟩ := row_one (own_kept HO.out b4)
    dsimp only at c0 c1
    rw [of_list] at c1
    clear k3 b4
    go_wp2_with fail
    exact bodyPost_ret (results_tmp rfl _ _ _) rfl ⟨rfl, HB4.out⟩
end Go.Proofs.YtlonkcmkgmbkcaaDoor
