/- The walk of catchmentref11.text: a text is read as the plain lexer reads it. -/
import Derived.Test.YtlonkcmkgmbkcaaDoorLexF
import Derived.Laws.IdiomStrings
namespace Go.Proofs.YtlonkcmkgmbkcaaDoor
open Go.RowKit LexS
set_option maxHeartbeats 4000000

def textA (o : Option (Bytes × Nat)) : ByteArray × Nat × Bool := match o with
  | some (t, n) => (⟨t.toArray⟩, n, decide (t.length ≤ 64))
  | none => (⟨#[]⟩, 0, false)
def TextRet (o : Option (Bytes × Nat)) (e : Ending) : Prop := e = .returned (.tuple #[.string (textA o).1, .int .i64 ((textA o).2.1 : Int), .bool (textA o).2.2])
def RTRel (o : Option (Bytes × Nat)) (s : ByteArray) (w : World) (i : Nat) (acc : Bytes) (v : Value) (wr : World) : Prop :=
  1 ≤ i ∧ i ≤ s.size ∧ acc.length ≤ i ∧ o = textFrom acc i (s.data.toList.drop i) ∧
  v ≠ .slice none 0 0 ∧ wr.ownsRow w.heap.size 5 1 v acc.length (Lib.byteCells acc) ∧ Below w.heap.size w wr
theorem byte_info : (Tryd.prog.info? 5).map (fun i => (i.zero, i.size, i.bytes)) = some (some (.int .u8 0), 1, 1) := by kernel_rfl
theorem empty_bytes (w W : World) (h : w.heap.size ≤ W.heap.size) : (W.alloc (.cells #[] 5)).ownsRow w.heap.size 5 1 (.slice (some ⟨W.heap.size, 0, none⟩) 0 0) 0 [] :=
  ⟨rfl, .inr ⟨W.heap.size, 0, #[], rfl, h, heap_alloc_new W _, Nat.le_refl _, Nat.zero_le _, rfl, rfl⟩⟩
theorem bytes_text {W : World} {base : Nat} {v : Value} {acc : Bytes} (h : W.ownsRow base 5 1 v acc.length (Lib.byteCells acc)) (hv : v ≠ .slice none 0 0) :
    (convert 55 9 v).run Tryd.prog W = .ok (.string ⟨acc.toArray⟩) W := by
  rcases h.2 with ⟨h2, _⟩ | ⟨g, cap, cur, rfl, _⟩
  · exact absurd h2 hv
  · refine run_convert_bytes_back (P := Tryd.prog) _ 55 9 5 ⟨g, 0, none⟩ cap acc (by kernel_rfl) (by kernel_rfl) (by kernel_rfl) ?_
    intro j hj
    refine h.cells rfl j _ ?_
    simp [Lib.byteCells, hj]

theorem RTRel.start (s : ByteArray) (h1 : 1 ≤ s.size) (w : World) {o : Option (Bytes × Nat)} (ho : o = textFrom [] 1 (s.data.toList.drop 1)) : RTRel o s w 1 [] (.slice (some ⟨w.heap.size, 0, none⟩) 0 0) (w.alloc (.cells #[] 5)) :=
  ⟨Nat.le_refl _, h1, by simp, ho, (by intro h; cases h), empty_bytes w w (Nat.le_refl _), (Below.refl _ _).alloc (Nat.le_refl _) _⟩
theorem RTRel.next {o : Option (Bytes × Nat)} {s : ByteArray} {w wr wr' : World} {i k : Nat} {acc : Bytes} {v v' : Value} {d : UInt8} {r : Bytes} (h : RTRel o s w i acc v wr) (hik : i + 1 ≤ k) (hk : k ≤ s.size) (hr : s.data.toList.drop k = r)
    (he : textFrom acc i (s.data.toList.drop i) = textFrom (acc ++ [d]) k r) (hv : v' ≠ .slice none 0 0)
    (ho : wr'.ownsRow w.heap.size 5 1 v' (acc.length + 1) (Lib.byteCells acc ++ [.int .u8 (d.toNat : Int)])) (hb : Below w.heap.size w wr') : RTRel o s w k (acc ++ [d]) v' wr' := by
  obtain ⟨h1, h2, h3, h4, _, _, _⟩ := h
  refine ⟨by omega, hk, by simp; omega, by rw [h4, he, hr], hv, ?_, hb⟩
  rw [bcells_app] at ho
  simpa using ho

theorem one_cell (W : World) (x : Value) : ∀ j u, [x][j]? = some u → (W.alloc (.cells #[x] 5)).cell? ((⟨W.heap.size, 0, none⟩ : Addr).add j) = some u := blk_cells (Blk.new W 5 #[x])
set_option maxRecDepth 100000 in
theorem rtext_any (s : ByteArray) (hs : s.size ≤ 140737488351232) (h1 : 1 ≤ s.size) (o : Option (Bytes × Nat)) (ho : o = textFrom [] 1 (s.data.toList.drop 1)) (w : World) :
    Calls Tryd.prog 42 #[.string s] w fun e w' => TextRet o e ∧ Below w.heap.size w w' := by
  go_enter Tryd.func42, Tryd.ntmps42
  have H0 := Lib.hid (RTRel.start s h1 w ho)
  clear ho
  go_wp2_with fail
  go_loopw [5, 6] (fun v c wr => ∃ i acc, c = .int .i64 (i : Nat) ∧ RTRel o s w i acc v wr) (fun _ c _ => s.size - (intOf c).toNat)
  case atStart => exact ⟨1, [], rfl, H0.out⟩
  case round =>
    obtain ⟨i, acc, rfl, hrel⟩ := hrel
    obtain ⟨hi1, his, hacc, heq, hvn, hown, hb⟩ := id hrel
    have HR := Lib.hid hrel
    have HE := Lib.hid heq
    have HB := Lib.hid hb
    have HV := Lib.hid hvn
    clear heq hrel H0 hvn
    match hd : s.data.toList.drop i with
    | [] =>
      have he := at_end hd
      have hend : o = none := by rw [HE.out, hd]; simp [textFrom]
      have HD := Lib.hid hend
      clear hd hend hown hb
      go_wp2_with fail
      exact bodyPost_ret (res_three rfl rfl rfl rfl) rfl ⟨by rw [HD.out]; rfl, HB.out⟩
    | c :: r =>
      obtain ⟨hlt, hc, hr2⟩ := byte_at hd
      have hcons := textFrom_cons acc i c r
      rw [← hd] at hcons
      by_cases h34 : c.toNat = 34
      · rw [if_pos h34, ← HE.out] at hcons
        have g34 : ((c.toNat : Int) == 34) = true := by rw [h34]; rfl
        obtain ⟨g, cap, rfl⟩ : ∃ g cap, u5 = .slice (some ⟨g, 0, none⟩) acc.length cap := by
          rcases hown.2 with ⟨h2, _⟩ | ⟨g, cap, cur, h2, _⟩
          · exact absurd h2 HV.out
          · exact ⟨g, cap, h2⟩
        have hcv := bytes_text hown HV.out
        have hend : o = some (acc, i + 1) := hcons
        have HD := Lib.hid hend
        clear hcons hend hd h34 hr2
        go_wp2_with fail
        exact bodyPost_ret (res_three rfl rfl rfl rfl) rfl ⟨by rw [HD.out]; simp [TextRet, textA]; omega, HB.out⟩
      · rw [if_neg h34] at hcons
        have g34 : ((c.toNat : Int) == 34) = false := by rw [beq_eq_false_iff_ne]; omega
        obtain ⟨i0, hi, hz0, hz1, hz2⟩ := info_parts byte_info
        by_cases h92 : c.toNat = 92
        · rw [if_pos h92] at hcons
          have g92 : ((c.toNat : Int) == 92) = true := by rw [h92]; rfl
          match hr2' : r, hr2, hcons with
          | [], hr2, hcons =>
            have he := at_end hr2
            have hend : o = none := by rw [HE.out, hcons]
            have HD := Lib.hid hend
            clear hcons hend hd h34 hr2 h92 hown hb
            have d1 : decide ((s.size : Int) ≤ (i : Int) + 1) = true := decide_eq_true (by omega)
            have d2 : (s.size : Int) ≤ (i : Int) + 1 := by omega
            go_wp2_with fail
            exact bodyPost_ret (res_three rfl rfl rfl rfl) rfl ⟨by rw [HD.out]; rfl, HB.out⟩
          | d :: r', hr2, hcons =>
            dsimp only at hcons
            obtain ⟨hlt2, hc2, hr3⟩ := byte_at hr2
            have b0 : (0 : Int) ≤ (i : Int) + 1 := by omega
            have b1 : (i : Int) + 1 < s.size := by omega
            have t1 : ((i : Int) + 1).toNat = i + 1 := by omega
            have d1 : decide ((s.size : Int) ≤ (i : Int) + 1) = false := decide_eq_false (by omega)
            have d2 : ¬ ((s.size : Int) ≤ (i : Int) + 1) := by omega
            have w1 : IntKind.i64.wrap ((i : Int) + 1) = (i : Int) + 1 := IntWalk.i64_in _ (by omega)
            by_cases hd34 : d.toNat = 34
            · have q34 : ((d.toNat : Int) != 34) = false := by rw [hd34]; rfl
              rw [if_pos (Or.inl hd34)] at hcons
              have HD := Lib.hid hcons
              have HQ := Lib.hid hr3
              clear hcons hd h34 h92 hr2 hr3 hd34 hb
              go_wp2_with (at_builtin; refine wpList_append_own _ rfl _ _ _ rfl w.heap.size 5 i0 _ 1 1 (by kernel_rfl) hi hz0 hz1 hz2 rfl (by decide) _ acc.length (Lib.byteCells acc) rfl (hown.alloc _) ⟨wr.heap.size, 0, none⟩ 1 1 [.int .u8 (d.toNat : Int)] rfl rfl (one_cell wr _) (by simp [Value.oneCell']) (by simp only [maxLen]; omega) (by omega) (HB.out.alloc HB.out.size _).size ?_)
              intro v' w' ho hgr hnil
              have HF := Lib.hid (HR.out.next (k := i + 2) (by omega) (by omega) HQ.out HD.out (fun e => hnil e) ho ((HB.out.alloc HB.out.size _).grown hgr (HB.out.alloc HB.out.size _).size (fun k hk => ((hown.alloc (.cells #[.int .u8 (d.toNat : Int)] 5)).lt k hk).1)))
              clear ho hgr hnil
              go_wp2_with fail
              exact ⟨⟨i + 2, acc ++ [d], by go_num, HF.out⟩, by simp [intOf]; omega⟩
            · have q34 : ((d.toNat : Int) != 34) = true := by rw [bne_iff_ne]; omega
              by_cases hd92 : d.toNat = 92
              · have q92 : ((d.toNat : Int) != 92) = false := by rw [hd92]; rfl
                rw [if_pos (Or.inr hd92)] at hcons
                have HD := Lib.hid hcons
                have HQ := Lib.hid hr3
                clear hcons hd h34 h92 hr2 hr3 hd34 hd92 hb
                go_wp2_with (at_builtin; refine wpList_append_own _ rfl _ _ _ rfl w.heap.size 5 i0 _ 1 1 (by kernel_rfl) hi hz0 hz1 hz2 rfl (by decide) _ acc.length (Lib.byteCells acc) rfl (hown.alloc _) ⟨wr.heap.size, 0, none⟩ 1 1 [.int .u8 (d.toNat : Int)] rfl rfl (one_cell wr _) (by simp [Value.oneCell']) (by simp only [maxLen]; omega) (by omega) (HB.out.alloc HB.out.size _).size ?_)
                intro v' w' ho hgr hnil
                have HF := Lib.hid (HR.out.next (k := i + 2) (by omega) (by omega) HQ.out HD.out (fun e => hnil e) ho ((HB.out.alloc HB.out.size _).grown hgr (HB.out.alloc HB.out.size _).size (fun k hk => ((hown.alloc (.cells #[.int .u8 (d.toNat : Int)] 5)).lt k hk).1)))
                clear ho hgr hnil
                go_wp2_with fail
                exact ⟨⟨i + 2, acc ++ [d], by go_num, HF.out⟩, by simp [intOf]; omega⟩
              · have q92 : ((d.toNat : Int) != 92) = true := by rw [bne_iff_ne]; omega
                have hend : o = none := by rw [HE.out, hcons, if_neg (by omega)]
                have HD := Lib.hid hend
                clear hcons hend hd h34 hr2 hr3 h92 hd34 hd92 hown hb
                go_wp2_with fail
                exact bodyPost_ret (res_three rfl rfl rfl rfl) rfl ⟨by rw [HD.out]; rfl, HB.out⟩
        · rw [if_neg h92] at hcons
          have g92 : ((c.toNat : Int) == 92) = false := by rw [beq_eq_false_iff_ne]; omega
          have HD := Lib.hid hcons
          have HQ := Lib.hid hr2
          clear hcons hd h34 h92 hr2 hb
          go_wp2_with (at_builtin; refine wpList_append_own _ rfl _ _ _ rfl w.heap.size 5 i0 _ 1 1 (by kernel_rfl) hi hz0 hz1 hz2 rfl (by decide) _ acc.length (Lib.byteCells acc) rfl (hown.alloc _) ⟨wr.heap.size, 0, none⟩ 1 1 [.int .u8 (c.toNat : Int)] rfl rfl (one_cell wr _) (by simp [Value.oneCell']) (by simp only [maxLen]; omega) (by omega) (HB.out.alloc HB.out.size _).size ?_)
          intro v' w' ho hgr hnil
          have HF := Lib.hid (HR.out.next (k := i + 1) (by omega) (by omega) HQ.out HD.out (fun e => hnil e) ho ((HB.out.alloc HB.out.size _).grown hgr (HB.out.alloc HB.out.size _).size (fun k hk => ((hown.alloc (.cells #[.int .u8 (c.toNat : Int)] 5)).lt k hk).1)))
          clear ho hgr hnil
          go_wp2_with fail
          exact ⟨⟨i + 1, acc ++ [c], rfl, HF.out⟩, by simp [intOf]; omega⟩
end Go.Proofs.YtlonkcmkgmbkcaaDoor
