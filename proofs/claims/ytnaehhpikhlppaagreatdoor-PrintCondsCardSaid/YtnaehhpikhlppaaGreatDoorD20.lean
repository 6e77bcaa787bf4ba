/- Several texts of the proof, joined. -/
import Derived.Test.YtnaehhpikhlppaaGreatDoorD19
import Derived.Deep.CutBlock
set_option maxHeartbeats 4000000
set_option linter.unusedVariables false
set_option linter.unusedSimpArgs false
namespace Go.Proofs.YtnaehhpikhlppaaGreatDoor
open Go.RowKit LexS ParS BigFrame
attribute [local go_sem] field_tok1 field_tok2
attribute [local go_sem] World.cell?_alloc_some cell_drewN_new free_drewN_new cell_drew_new free_drew_new

theorem infoStr : (Tryz.prog.info? 9).map (fun i => (i.zero, i.size, i.bytes)) = some (some (.string ⟨#[]⟩), 1, 16) := by kernel_rfl
theorem infoAgg : (Tryz.prog.info? 85).map (fun i => (i.zero, i.size, i.bytes)) = some (some (.agg #[.int .i64 0, .string ⟨#[]⟩]), 2, 24) := by kernel_rfl
theorem Mv.grown {r : Nat} {Wn w1 w2 : World} {row : Option Nat} (h : Mv r Wn w1) (hg : w1.grownBy w2 row) (hr : ∀ k, row = some k → Wn.heap.size ≤ k) : Mv r Wn w2 :=
  ⟨hg.os.trans h.os, hg.tape.trans h.tape, hg.output.trans h.output, Nat.le_trans h.size hg.size, fun i hi h1 h2 => by
    rw [hg.block i (Nat.lt_of_lt_of_le hi h.size) (fun e => by have := hr i e.symm; omega)]
    exact h.block i hi h1 h2, fun k hk => by cases hk⟩
/-- A row that grows in a box of the call's own, beside the reader. -/
structure LK (base r deep : Nat) (tv nv : Value) (T : List Tok) (ns : List Nd) (Wn : World) (bx bl : Nat) (st et : TypeId) (size : Nat) (ts : List Tk) (n : Nat) (xs : List Value) (lv : Value) (W : World) : Prop where
  rs : RS base r tv T deep ts ns nv W
  mv : Mv r Wn W
  lb : Blk W bl st #[lv]
  hl : Wn.heap.size ≤ bl
  xb : Blk W bx 112 #[RP r]
  hx : Wn.heap.size ≤ bx
  row : W.ownsRow Wn.heap.size et size lv n xs
section
variable {base r deep : Nat} {tv nv lv lv' : Value} {T : List Tok} {ns : List Nd} {Wn W W' : World} {bx bl : Nat} {st et : TypeId} {size : Nat} {ts ts1 : List Tk} {n n' : Nat} {xs xs' : List Value}
theorem LK.row_apart (h : LK base r deep tv nv T ns Wn bx bl st et size ts n xs lv W) (h1 : st ≠ et) (h2 : et ≠ 112) : lv.ownBlock ≠ some bl ∧ lv.ownBlock ≠ some bx := by
  refine ⟨fun e => ?_, fun e => ?_⟩
  · obtain ⟨cur, hc⟩ := row_block h.row e
    exact h1 (block_types h.lb hc)
  · obtain ⟨cur, hc⟩ := row_block h.row e
    exact h2 (block_types hc h.xb)
theorem LK.kept (h : LK base r deep tv nv T ns Wn bx bl st et size ts n xs lv W) (hb : Below W.heap.size W W') : LK base r deep tv nv T ns Wn bx bl st et size ts n xs lv W' :=
  ⟨h.rs.kept hb, Stp.trans h.mv (Stp.of hb), h.lb.kept hb, h.hl, h.xb.kept hb, h.hx, own_kept h.row hb⟩
theorem LK.move (h : LK base r deep tv nv T ns Wn bx bl st et size ts n xs lv W) (hr : r < Wn.heap.size) (h1 : RS base r tv T deep ts1 ns nv W') (m : Mv r W W') : LK base r deep tv nv T ns Wn bx bl st et size ts1 n xs lv W' := by
  have e1 := h.hl
  have e2 := h.hx
  refine ⟨h1, Stp.trans h.mv m, m.blk h.lb (by omega), h.hl, m.blk h.xb (by omega), h.hx, row_mv h.row m fun e => ?_⟩
  have := (h.row.lt _ e).1
  omega
/-- Behind the append, and its store. -/
theorem LK.more {w2 : World} {g cap : Nat} (h0 : RS base r tv T deep ts ns nv Wn) (h : LK base r deep tv nv T ns Wn bx bl st et size ts1 n xs lv W) (h1 : st ≠ et) (h2 : et ≠ 112) (ho : w2.ownsRow Wn.heap.size et size (.slice (some ⟨g, 0, none⟩) n' cap) n' xs') (hg : W.grownBy w2 lv.ownBlock) (hne : bl ≠ bx) :
    LK base r deep tv nv T ns Wn bx bl st et size ts1 n' xs' (.slice (some ⟨g, 0, none⟩) n' cap) (w2.setCell ⟨bl, 0, none⟩ (.slice (some ⟨g, 0, none⟩) n' cap)) := by
  obtain ⟨a1, a2⟩ := h.row_apart h1 h2
  have hr := h0.box.lt
  have hl := h.hl
  have hx := h.hx
  have hlv : ∀ k, lv.ownBlock = some k → Wn.heap.size ≤ k := fun k hk => (h.row.lt k hk).1
  have m : Mv r Wn w2 := Mv.grown h.mv hg hlv
  have m2 : Mv r Wn (w2.setCell ⟨bl, 0, none⟩ (.slice (some ⟨g, 0, none⟩) n' cap)) := Mv.far m hl 0 _
  have b1 : Blk w2 bl st #[lv] := (hg.block bl h.lb.lt (Ne.symm a1)).trans h.lb
  have b2 : Blk w2 bx 112 #[RP r] := (hg.block bx h.xb.lt (Ne.symm a2)).trans h.xb
  have b3 : Blk w2 r 147 _ := (hg.block r h.rs.box.lt (fun e => by have := hlv r e.symm; omega)).trans h.rs.box
  have hgl : g ≠ bl := by
    intro e
    obtain ⟨cur, hc⟩ := row_block ho rfl
    rw [e] at hc
    exact h1 (block_types b1 hc)
  refine ⟨h0.again m2 (b3.far (by show r ≠ bl; omega) _) h.rs.suf h.rs.short, m2, b1.put 0 _, hl, b2.far (Ne.symm hne) _, hx, ho.1, ?_⟩
  rcases ho.2 with ⟨h4, _⟩ | ⟨g', cap', cur, h4, h5, h6, h7⟩
  · cases h4
  · refine .inr ⟨g', cap', cur, h4, h5, ?_, h7⟩
    rw [← h6]
    simp only [World.setCell, Array.getElem?_modify]
    injection h4 with h4
    injection h4 with h4
    injection h4 with h4
    rw [if_neg (fun e => hgl (by rw [h4, ← e]))]
end
section
variable {base r deep : Nat} {tv nv lv : Value} {T : List Tok} {ns : List Nd} {Wn W : World} {bx bl : Nat} {ts ts0 ts1 : List Tk} {acc : List Bytes} {t : Tk}
set_option maxRecDepth 100000 in
theorem name1_yes (h0 : RS base r tv T deep ts0 ns nv Wn) (h : LK base r deep tv nv T ns Wn bx bl 39 9 1 ts acc.length (strsL acc) lv W) (hne : bl ≠ bx) (hacc : acc.length ≤ 2000) (ht : ts = t :: ts1) (hk : t.kind = 1) :
    Calls Tryz.prog 172 #[.pointer (some ⟨bl, 0, none⟩), .pointer (some ⟨bx, 0, none⟩)] W fun e W' => e = .returned (.tuple #[]) ∧ ∃ lv', LK base r deep tv nv T ns Wn bx bl 39 9 1 ts1 (acc.length + 1) (strsL (acc ++ [t.s])) lv' W' := by
  have hb : Below W.heap.size W W.drew := (Below.refl _ _).drew
  have hd := h.kept hb
  have c0 : W.cell? ⟨bl, 0, none⟩ = some lv := h.lb.cell 0
  have c1 : W.cell? ⟨bx, 0, none⟩ = some (RP r) := h.xb.cell 0
  have HD := Lib.hid hd
  have HW := Lib.hid (word_yes hd.rs ht hk)
  have hr := h0.box.lt
  have H0 := Lib.hid h0
  obtain ⟨i0, hi0, hz0, hz1, hz2⟩ := info_parts infoStr
  clear h hd hb h0 ht hk
  go_enter Tryz.func172, Tryz.ntmps172
  go_wp2_with fail
  rw [show (#[{ dst := some 2, op := Op.load 39 (Operand.tmp 0), type := 39, pos := "parse.go:90", after := #[], guard := none }, { dst := some 3, op := Op.load 112 (Operand.tmp 1), type := 112, pos := "parse.go:90", after := #[], guard := none }, { dst := some 4, op := Op.call { callee := Callee.value (Operand.func 103), args := #[Operand.tmp 3], argTypes := #[112] }, type := 9, pos := "parse.go:90", after := #[{ on := 1, ground := Ground.data }], guard := none }, { dst := some 5, op := Op.buildSlice 39 1 #[(0, Operand.tmp 4)], type := 39, pos := "parse.go:90", after := #[{ on := 2, ground := Ground.data }], guard := none }, { dst := some 6, op := Op.call { callee := Callee.builtin Go.Builtin.append, args := #[Operand.tmp 2, Operand.tmp 5], argTypes := #[39, 39] }, type := 39, pos := "parse.go:90", after := #[{ on := 0, ground := Ground.data }, { on := 3, ground := Ground.data }, { on := 2, ground := Ground.chain }], guard := none }, { dst := none, op := Op.store 39 (Operand.tmp 0) (Operand.tmp 6), type := 0, pos := "parse.go:90", after := #[{ on := 4, ground := Ground.data }, { on := 4, ground := Ground.chain }, { on := 0, ground := Ground.phase }, { on := 1, ground := Ground.phase }, { on := 2, ground := Ground.phase }, { on := 3, ground := Ground.phase }, { on := 4, ground := Ground.phase }], guard := none }] : Array Oper) = Array.push #[{ dst := some 2, op := Op.load 39 (Operand.tmp 0), type := 39, pos := "parse.go:90", after := #[], guard := none }, { dst := some 3, op := Op.load 112 (Operand.tmp 1), type := 112, pos := "parse.go:90", after := #[], guard := none }, { dst := some 4, op := Op.call { callee := Callee.value (Operand.func 103), args := #[Operand.tmp 3], argTypes := #[112] }, type := 9, pos := "parse.go:90", after := #[{ on := 1, ground := Ground.data }], guard := none }, { dst := some 5, op := Op.buildSlice 39 1 #[(0, Operand.tmp 4)], type := 39, pos := "parse.go:90", after := #[{ on := 2, ground := Ground.data }], guard := none }, { dst := some 6, op := Op.call { callee := Callee.builtin Go.Builtin.append, args := #[Operand.tmp 2, Operand.tmp 5], argTypes := #[39, 39] }, type := 39, pos := "parse.go:90", after := #[{ on := 0, ground := Ground.data }, { on := 3, ground := Ground.data }, { on := 2, ground := Ground.chain }], guard := none }] { dst := none, op := Op.store 39 (Operand.tmp 0) (Operand.tmp 6), type := 0, pos := "parse.go:90", after := #[{ on := 4, ground := Ground.data }, { on := 4, ground := Ground.chain }, { on := 0, ground := Ground.phase }, { on := 1, ground := Ground.phase }, { on := 2, ground := Ground.phase }, { on := 3, ground := Ground.phase }, { on := 4, ground := Ground.phase }], guard := none } from rfl]
  refine wp_region_last (S := fun w' => w'.cell? ⟨bl, 0, none⟩ = some lv ∧ w'.cell? ⟨bx, 0, none⟩ = some (RP r)) (by kernel_rfl) (by kernel_rfl) ⟨c0, c1⟩ (fun hHeld => ?_)
  refine wpAnyH_take (i := 0) (oi := { dst := some 2, op := Op.load 39 (Operand.tmp 0), type := 39, pos := "parse.go:90", after := #[], guard := none }) (v := ?v1) rfl (by kernel_rfl) (by kernel_rfl) (by kernel_rfl) (fun _ _ _ h => h) (Or.inl ⟨by rfl, ?hy1⟩) (by assumption) ?rest1
  case hy1 =>
    intro w hSw
    (try dsimp only at hSw)
    go_simp
    try with_reducible rfl
  try simp only [Act.put, List.setIfInBounds_toArray, List.set_cons_zero, List.set_cons_succ]
  refine wpAnyH_take (i := 1) (oi := { dst := some 3, op := Op.load 112 (Operand.tmp 1), type := 112, pos := "parse.go:90", after := #[], guard := none }) (v := ?v2) rfl (by kernel_rfl) (by kernel_rfl) (by kernel_rfl) (fun _ _ _ h => h) (Or.inl ⟨by rfl, ?hy2⟩) (by assumption) ?rest2
  case hy2 =>
    intro w hSw
    (try dsimp only at hSw)
    go_simp
    try with_reducible rfl
  try simp only [Act.put, List.setIfInBounds_toArray, List.set_cons_zero, List.set_cons_succ]
  refine wpAnyH_ready (rs := [2]) (by kernel_rfl) (by simp) ?_
  refine AllReadyH.cons (o := { dst := some 4, op := Op.call { callee := Callee.value (Operand.func 103), args := #[Operand.tmp 3], argTypes := #[112] }, type := 9, pos := "parse.go:90", after := #[{ on := 1, ground := Ground.data }], guard := none }) rfl (fun K hK => ?_) ?_
  · go_simp
    go_at_call 103
    (with_reducible refine HW.out.mono ?_)
    rintro e w1 ⟨rfl, h1, m1⟩
    have HL := Lib.hid (HD.out.move hr h1 m1)
    have HB := Lib.hid ((Below.refl w1.heap.size w1).alloc (Nat.le_refl _) (.cells #[.string (BA t.s)] 9))
    have HNW := Lib.hid (blk_cells (Blk.new w1 9 #[.string (BA t.s)]))
    have g0 := HL.out.lb.cell 0
    have g1 := HL.out.xb.cell 0
    have HKK := Lib.hid (HL.out.kept HB.out)
    clear h1 m1
    refine hK.out _ _ ?_ (fun hHeld => ?_)
    · exact ⟨g0, g1⟩
    · clear hK K
      try simp only [Act.put, List.setIfInBounds_toArray, List.set_cons_zero, List.set_cons_succ]
      refine wpAnyH_ready (rs := [3]) (by kernel_rfl) (by simp) ?_
      refine AllReadyH.cons (o := { dst := some 5, op := Op.buildSlice 39 1 #[(0, Operand.tmp 4)], type := 39, pos := "parse.go:90", after := #[{ on := 2, ground := Ground.data }], guard := none }) rfl (fun K hK => ?_) ?_
      · go_simp
        refine hK.out _ _ ?_ (fun hHeld => ?_)
        · exact ⟨HKK.out.lb.cell 0, HKK.out.xb.cell 0⟩
        · clear hK K
          try simp only [Act.put, List.setIfInBounds_toArray, List.set_cons_zero, List.set_cons_succ]
          refine wpAnyH_ready (rs := [4]) (by kernel_rfl) (by simp) ?_
          refine AllReadyH.cons (o := { dst := some 6, op := Op.call { callee := Callee.builtin Go.Builtin.append, args := #[Operand.tmp 2, Operand.tmp 5], argTypes := #[39, 39] }, type := 39, pos := "parse.go:90", after := #[{ on := 0, ground := Ground.data }, { on := 3, ground := Ground.data }, { on := 2, ground := Ground.chain }], guard := none }) rfl (fun K hK => ?_) ?_
          · refine step_append_lies _ (by rfl) _ _ _ (by rfl) Wn.heap.size 9 i0 _ 1 16 (by kernel_rfl) hi0 hz0 hz1 hz2 (by rfl) (by decide) _ acc.length (strsL acc) (by rfl) HKK.out.row ⟨w1.heap.size, 0, none⟩ 1 1 [.string (BA t.s)] (by rfl) (by rfl) HNW.out (by simp [Value.oneCell']) (by decide) (by unfold maxLen; omega) (by omega) HKK.out.mv.size _ rfl ?_
            intro g cap w2 ho hg hgH hlt
            have HF := Lib.hid (LK.more H0.out HKK.out (by decide) (by decide) ho hg hne)
            have a1 := HKK.out.row_apart (by decide) (by decide)
            have e0 : w2.cell? ⟨bl, 0, none⟩ = some lv := hg.cell (HKK.out.lb.cell 0) (Ne.symm a1.1)
            have e1 : w2.cell? ⟨bx, 0, none⟩ = some (RP r) := hg.cell (HKK.out.xb.cell 0) (Ne.symm a1.2)
            have f0 : w2.frozen? ⟨bl, 0, none⟩ = false := (World.frozen?_of_block (hg.block bl HKK.out.lb.lt (Ne.symm a1.1))).trans (HKK.out.lb.free 0)
            clear ho hg hgH hlt a1
            refine hK.out _ _ ?_ (fun hHeld => ?_)
            · exact ⟨e0, e1⟩
            · clear hK K
              try simp only [Act.put, List.setIfInBounds_toArray, List.set_cons_zero, List.set_cons_succ]
              refine wpAnyH_done (by kernel_rfl) ?_ _
              refine then_step (fun K hK => ?_)
              go_simp
              refine hK.out _ _ ?_
              clear hK K
              go_wp2_with fail
              exact bodyPost_end (v := .tuple #[]) (results_none rfl _ _ _) rfl ⟨rfl, _, by rw [show strsL (acc ++ [t.s]) = strsL acc ++ [.string (BA t.s)] by simp [strsL]]; exact HF.out⟩
          exact AllReadyH.nil
      exact AllReadyH.nil
  exact AllReadyH.nil
theorem name1_no (h : LK base r deep tv nv T ns Wn bx bl 39 9 1 ts acc.length (strsL acc) lv W) (hk : ∀ t ts1, ts = t :: ts1 → t.kind ≠ 1) :
    Calls Tryz.prog 172 #[.pointer (some ⟨bl, 0, none⟩), .pointer (some ⟨bx, 0, none⟩)] W fun e W' => e = Bad T ts.length false ∧ Mv r Wn W' := by
  have hb : Below W.heap.size W W.drew := (Below.refl _ _).drew
  have hd := h.kept hb
  have c0 : W.cell? ⟨bl, 0, none⟩ = some lv := h.lb.cell 0
  have c1 : W.cell? ⟨bx, 0, none⟩ = some (RP r) := h.xb.cell 0
  have HW := Lib.hid (word_no hd.rs hk)
  have HM := Lib.hid hd.mv
  clear h hd hb hk
  go_enter Tryz.func172, Tryz.ntmps172
  go_wp2_with fail
  rw [show (#[{ dst := some 2, op := Op.load 39 (Operand.tmp 0), type := 39, pos := "parse.go:90", after := #[], guard := none }, { dst := some 3, op := Op.load 112 (Operand.tmp 1), type := 112, pos := "parse.go:90", after := #[], guard := none }, { dst := some 4, op := Op.call { callee := Callee.value (Operand.func 103), args := #[Operand.tmp 3], argTypes := #[112] }, type := 9, pos := "parse.go:90", after := #[{ on := 1, ground := Ground.data }], guard := none }, { dst := some 5, op := Op.buildSlice 39 1 #[(0, Operand.tmp 4)], type := 39, pos := "parse.go:90", after := #[{ on := 2, ground := Ground.data }], guard := none }, { dst := some 6, op := Op.call { callee := Callee.builtin Go.Builtin.append, args := #[Operand.tmp 2, Operand.tmp 5], argTypes := #[39, 39] }, type := 39, pos := "parse.go:90", after := #[{ on := 0, ground := Ground.data }, { on := 3, ground := Ground.data }, { on := 2, ground := Ground.chain }], guard := none }, { dst := none, op := Op.store 39 (Operand.tmp 0) (Operand.tmp 6), type := 0, pos := "parse.go:90", after := #[{ on := 4, ground := Ground.data }, { on := 4, ground := Ground.chain }, { on := 0, ground := Ground.phase }, { on := 1, ground := Ground.phase }, { on := 2, ground := Ground.phase }, { on := 3, ground := Ground.phase }, { on := 4, ground := Ground.phase }], guard := none }] : Array Oper) = Array.push #[{ dst := some 2, op := Op.load 39 (Operand.tmp 0), type := 39, pos := "parse.go:90", after := #[], guard := none }, { dst := some 3, op := Op.load 112 (Operand.tmp 1), type := 112, pos := "parse.go:90", after := #[], guard := none }, { dst := some 4, op := Op.call { callee := Callee.value (Operand.func 103), args := #[Operand.tmp 3], argTypes := #[112] }, type := 9, pos := "parse.go:90", after := #[{ on := 1, ground := Ground.data }], guard := none }, { dst := some 5, op := Op.buildSlice 39 1 #[(0, Operand.tmp 4)], type := 39, pos := "parse.go:90", after := #[{ on := 2, ground := Ground.data }], guard := none }, { dst := some 6, op := Op.call { callee := Callee.builtin Go.Builtin.append, args := #[Operand.tmp 2, Operand.tmp 5], argTypes := #[39, 39] }, type := 39, pos := "parse.go:90", after := #[{ on := 0, ground := Ground.data }, { on := 3, ground := Ground.data }, { on := 2, ground := Ground.chain }], guard := none }] { dst := none, op := Op.store 39 (Operand.tmp 0) (Operand.tmp 6), type := 0, pos := "parse.go:90", after := #[{ on := 4, ground := Ground.data }, { on := 4, ground := Ground.chain }, { on := 0, ground := Ground.phase }, { on := 1, ground := Ground.phase }, { on := 2, ground := Ground.phase }, { on := 3, ground := Ground.phase }, { on := 4, ground := Ground.phase }], guard := none } from rfl]
  refine wp_region_last (S := fun w' => w'.cell? ⟨bl, 0, none⟩ = some lv ∧ w'.cell? ⟨bx, 0, none⟩ = some (RP r)) (by kernel_rfl) (by kernel_rfl) ⟨c0, c1⟩ (fun hHeld => ?_)
  refine wpAnyH_take (i := 0) (oi := { dst := some 2, op := Op.load 39 (Operand.tmp 0), type := 39, pos := "parse.go:90", after := #[], guard := none }) (v := ?v1) rfl (by kernel_rfl) (by kernel_rfl) (by kernel_rfl) (fun _ _ _ h => h) (Or.inl ⟨by rfl, ?hy1⟩) (by assumption) ?rest1
  case hy1 =>
    intro w hSw
    (try dsimp only at hSw)
    go_simp
    try with_reducible rfl
  try simp only [Act.put, List.setIfInBounds_toArray, List.set_cons_zero, List.set_cons_succ]
  refine wpAnyH_take (i := 1) (oi := { dst := some 3, op := Op.load 112 (Operand.tmp 1), type := 112, pos := "parse.go:90", after := #[], guard := none }) (v := ?v2) rfl (by kernel_rfl) (by kernel_rfl) (by kernel_rfl) (fun _ _ _ h => h) (Or.inl ⟨by rfl, ?hy2⟩) (by assumption) ?rest2
  case hy2 =>
    intro w hSw
    (try dsimp only at hSw)
    go_simp
    try with_reducible rfl
  try simp only [Act.put, List.setIfInBounds_toArray, List.set_cons_zero, List.set_cons_succ]
  refine wpAnyH_ready (rs := [2]) (by kernel_rfl) (by simp) ?_
  refine AllReadyH.cons (o := { dst := some 4, op := Op.call { callee := Callee.value (Operand.func 103), args := #[Operand.tmp 3], argTypes := #[112] }, type := 9, pos := "parse.go:90", after := #[{ on := 1, ground := Ground.data }], guard := none }) rfl (fun K hK => ?_) ?_
  · go_simp
    go_at_call 103
    (with_reducible refine HW.out.mono ?_)
    rintro e w1 ⟨rfl, m1⟩
    have HF := Lib.hid (Stp.trans HM.out m1)
    unfold Bad
    exact ⟨rfl, rfl, HF.out⟩
  exact AllReadyH.nil
end
end Go.Proofs.YtnaehhpikhlppaaGreatDoor

namespace Go.Proofs.YtnaehhpikhlppaaGreatDoor
open Go.RowKit LexS ParS BigFrame
attribute [local go_sem] field_tok1 field_tok2
attribute [local go_sem] World.cell?_alloc_some cell_drewN_new free_drewN_new cell_drew_new free_drew_new

section
variable {base r deep : Nat} {tv nv lv : Value} {T : List Tok} {ns : List Nd} {Wn W : World} {bx bl : Nat} {ts ts0 ts1 : List Tk} {acc : List (Nat × Bytes)} {t : Tk} {k : Nat}
theorem agg_zero (h : choice kw_aggs 1 ts = (0, ts1)) : agg ts ns = .error (ts.length, false) := by
  unfold agg
  rw [h]
theorem agg_one (h : choice kw_aggs 1 ts = (1, ts1)) : agg ts ns = .ok ((1, []), ts1, ns) := by
  unfold agg
  rw [h]
theorem agg_two {ts2 : List Tk} (h : choice kw_aggs 1 ts = (k + 2, ts1)) (ht : ts1 = t :: ts2) (hk : t.kind = 1) : agg ts ns = .ok ((k + 2, t.s), ts2, ns) := by
  unfold agg
  rw [h]
  dsimp only
  unfold M.bind
  rw [ht, take_ok hk]
  rfl
theorem agg_bad (h : choice kw_aggs 1 ts = (k + 2, ts1)) (hk : ∀ t ts2, ts1 = t :: ts2 → t.kind ≠ 1) : agg ts ns = .error (ts1.length, false) := by
  unfold agg
  rw [h]
  dsimp only
  unfold M.bind
  rw [take_bad hk]
abbrev AK (base r deep : Nat) (tv nv : Value) (T : List Tok) (ns : List Nd) (Wn : World) (bx bl : Nat) (ts : List Tk) (acc : List (Nat × Bytes)) (lv : Value) (W : World) : Prop := LK base r deep tv nv T ns Wn bx bl 40 85 2 ts acc.length (aggsL acc) lv W
def PostA (base r deep : Nat) (tv nv : Value) (T : List Tok) (ns : List Nd) (Wn : World) (bx bl : Nat) (acc : List (Nat × Bytes)) (x : Except Er ((Nat × Bytes) × List Tk × List Nd)) (e : Ending) (W' : World) : Prop := match x with
  | .error (k, long) => e = Bad T k long ∧ Mv r Wn W'
  | .ok (x, ts1, _) => e = .returned (.tuple #[]) ∧ ∃ lv', AK base r deep tv nv T ns Wn bx bl ts1 (acc ++ [x]) lv' W'
set_option maxRecDepth 100000 in
theorem agg1_any (h0 : RS base r tv T deep ts0 ns nv Wn) (h : AK base r deep tv nv T ns Wn bx bl ts acc lv W) (hne : bl ≠ bx) (hacc : acc.length ≤ 2000) :
    Calls Tryz.prog 173 #[.pointer (some ⟨bx, 0, none⟩), .pointer (some ⟨bl, 0, none⟩)] W (PostA base r deep tv nv T ns Wn bx bl acc (agg ts ns)) := by
  have c1 : W.cell? ⟨bx, 0, none⟩ = some (RP r) := h.xb.cell 0
  have hr := h0.box.lt
  obtain ⟨w1, hw1⟩ : ∃ w1, w1 = W.alloc (.cells #[.string ⟨#[99, 111, 117, 110, 116]⟩, .string ⟨#[115, 117, 109]⟩, .string ⟨#[109, 105, 110]⟩, .string ⟨#[109, 97, 120]⟩, .string ⟨#[109, 101, 97, 110]⟩, .string ⟨#[109, 101, 114, 103, 101]⟩] 9) := ⟨_, rfl⟩
  have hb1 : Below W.heap.size W w1 := by rw [hw1]; exact (Below.refl _ _).alloc (Nat.le_refl _) _
  have hl1 : Blk w1 W.heap.size 9 (strsL kw_aggs).toArray := by rw [hw1]; exact Blk.new W _ _
  have H1 := Lib.hid (h.kept hb1)
  have HC := Lib.hid (choice_any (h.kept hb1).rs hl1 (by decide))
  have HW := Lib.hid hw1
  have H0 := Lib.hid h0
  obtain ⟨i0, hi0, hz0, hz1, hz2⟩ := info_parts infoAgg
  clear h hb1 hl1 h0
  go_enter Tryz.func173, Tryz.ntmps173
  go_wp2_with fail
  rw [show W.alloc (.cells #[.string ⟨#[99, 111, 117, 110, 116]⟩, .string ⟨#[115, 117, 109]⟩, .string ⟨#[109, 105, 110]⟩, .string ⟨#[109, 97, 120]⟩, .string ⟨#[109, 101, 97, 110]⟩, .string ⟨#[109, 101, 114, 103, 101]⟩] 9) = w1 from HW.out.symm]
  clear hw1
  refine HC.out.mono ?_
  rintro e w2 ⟨rfl, h2, m2⟩
  rcases hch : choice kw_aggs 1 ts with ⟨k, ts1⟩
  rw [hch] at h2
  dsimp only at h2
  dsimp only
  have K2 := Lib.hid (H1.out.move hr h2 m2)
  have HCH := Lib.hid hch
  have hbx2 : bx ≠ w2.heap.size := Nat.ne_of_lt K2.out.xb.lt
  have hbl2 : bl ≠ w2.heap.size := Nat.ne_of_lt K2.out.lb.lt
  have hrw2 : r ≠ w2.heap.size := Nat.ne_of_lt h2.box.lt
  obtain ⟨w3, hw3⟩ : ∃ w3, w3 = w2.alloc (.cells #[.int .i64 (k : Int), .string ⟨#[]⟩] 85) := ⟨_, rfl⟩
  have hb3 : Below w2.heap.size w2 w3 := by rw [hw3]; exact (Below.refl _ _).alloc (Nat.le_refl _) _
  have hx3 : Blk w3 w2.heap.size 85 [.int .i64 (k : Int), .string ⟨#[]⟩].toArray := by rw [hw3]; exact Blk.new w2 _ _
  have K3 := Lib.hid (K2.out.kept hb3)
  have X3 := Lib.hid hx3
  have HB3 := Lib.hid hb3
  have HW3 := Lib.hid hw3
  have e0 : w3.cell? ⟨w2.heap.size, 0, none⟩ = some (.int .i64 (k : Int)) := hx3.cell 0
  have e1 : w3.cell? ⟨w2.heap.size, 1, none⟩ = some (.string ⟨#[]⟩) := hx3.cell 1
  have f1 := hx3.free 1
  have g1 : w3.cell? ⟨bx, 0, none⟩ = some (RP r) := K3.out.xb.cell 0
  clear h2 m2 hch hb3 hx3 c1
  go_upto_block 0 with (fail)
  rw [show w2.alloc (.cells #[.int .i64 (k : Int), .string ⟨#[]⟩] 85) = w3 from HW3.out.symm]
  clear hw3
  go_cut [] (fun wx => ∃ (k2 : Nat) (s : Bytes) (ts2 : List Tk), agg ts ns = .ok ((k2, s), ts2, ns) ∧ RS base r tv T deep ts2 ns nv wx ∧ Mv r w2 wx ∧ Blk wx w2.heap.size 85 [.int .i64 (k2 : Int), .string (BA s)].toArray)
  case first =>
    match k, HCH, X3, e0, HW3 with
    | 0, HCH, X3, e0, HW3 =>
      have HE := Lib.hid (agg_zero (ns := ns) HCH.out)
      have hz : ts1 = ts := choice_zero (by decide) HCH.out
      subst hz
      have HF := Lib.hid (fail_any K3.out.rs)
      go_wp2_with fail
      refine HF.out.mono ?_
      rintro e w4 ⟨rfl, rfl⟩
      unfold Bad
      go_wp2_with fail
      exact ⟨rfl, by rw [HE.out]; exact ⟨rfl, K3.out.mv⟩⟩
    | 1, HCH, X3, e0, HW3 =>
      have HE := Lib.hid (agg_one (ns := ns) HCH.out)
      go_wp2_with fail
      go_meet
      exact ⟨1, [], ts1, HE.out, K3.out.rs, Stp.of HB3.out, X3.out⟩
    | k + 2, HCH, X3, e0, HW3 =>
      have q0 : (((k + 2 : Nat) : Int) == 0) = false := by rw [beq_eq_false_iff_ne]; omega
      have q1 : (((k + 2 : Nat) : Int) == 1) = false := by rw [beq_eq_false_iff_ne]; omega
      rcases take_cases 1 ts1 with ⟨t, ts2, ht, hk⟩ | hk
      · have HE := Lib.hid (agg_two (ns := ns) HCH.out ht hk)
        have HN := Lib.hid (word_yes K3.out.rs ht hk)
        clear ht hk
        go_wp2_with fail
        refine HN.out.mono ?_
        rintro e w4 ⟨rfl, h4, m4⟩
        have x4 := m4.blk X3.out hrw2.symm
        have e1 : w4.cell? ⟨w2.heap.size, 1, none⟩ = some (.string ⟨#[]⟩) := x4.cell 1
        have f1 := x4.free 1
        have m5 : Mv r w2 (w4.setCell ⟨w2.heap.size, 1, none⟩ (.string (BA t.s))) := Mv.far (Stp.trans (Stp.of HB3.out) m4) (Nat.le_refl _) 1 _
        have HF := Lib.hid (And.intro (K2.out.rs.again m5 (h4.box.far hrw2 _) h4.suf h4.short) (And.intro m5 (box_put x4 1 (.string (BA t.s)))))
        clear h4 m4 x4 m5
        go_wp2_with fail
        go_meet
        exact ⟨k + 2, t.s, ts2, HE.out, HF.out⟩
      · have HE := Lib.hid (agg_bad (ns := ns) HCH.out hk)
        have HN := Lib.hid (word_no K3.out.rs hk)
        clear hk
        go_wp2_with fail
        refine HN.out.mono ?_
        rintro e w4 ⟨rfl, m4⟩
        have M4 := Lib.hid (Stp.trans K3.out.mv m4)
        clear m4
        unfold Bad
        go_wp2_with fail
        exact ⟨rfl, by rw [HE.out]; exact ⟨rfl, M4.out⟩⟩
  case rest =>
  obtain ⟨k2, s, ts2, hE, h5, m5, x5⟩ := hcut
  have HE := Lib.hid hE
  have K5 := Lib.hid (K2.out.move hr h5 m5)
  have a0 : wc.cell? ⟨bl, 0, none⟩ = some lv := K5.out.lb.cell 0
  have a1 : wc.cell? ⟨w2.heap.size, 0, none⟩ = some (.int .i64 (k2 : Int)) := x5.cell 0
  have a2 : wc.cell? ⟨w2.heap.size, 1, none⟩ = some (.string (BA s)) := x5.cell 1
  obtain ⟨w6, hw6⟩ : ∃ w6, w6 = wc.alloc (.cells #[.int .i64 (k2 : Int), .string (BA s)] 85) := ⟨_, rfl⟩
  have hb6 : Below wc.heap.size wc w6 := by rw [hw6]; exact (Below.refl _ _).alloc (Nat.le_refl _) _
  have HNW := Lib.hid (show ∀ (j : Nat) u, [Value.int .i64 (k2 : Int), .string (BA s)][j]? = some u → w6.cell? ((⟨wc.heap.size, 0, none⟩ : Addr).add j) = some u by
    intro j u hu
    rw [hw6]
    exact blk_cells (Blk.new wc 85 #[.int .i64 (k2 : Int), .string (BA s)]) j u hu)
  have HKK := Lib.hid (K5.out.kept hb6)
  have HX6 := Lib.hid (x5.kept hb6)
  have HW6 := Lib.hid hw6
  have r6 : ∀ (K : World → Prop), K w6 → K (wc.alloc (.cells #[.int .i64 (k2 : Int), .string (BA s)] 85)) := fun K h => by rw [← HW6.out]; exact h
  have R6 := Lib.hid r6
  clear hE h5 m5 x5 hb6 hw6 e0 e1 f1 g1 r6
  rw [show w6 = wc.alloc (.cells #[.int .i64 (k2 : Int), .string (BA s)] 85) from HW6.out] at HNW HKK HX6
  go_wp2_with (at_builtin
               refine wpList_append_lies _ (by rfl) _ _ _ (by rfl) Wn.heap.size 85 i0 _ 2 24 (by kernel_rfl) hi0 hz0 hz1 hz2 (by rfl) (by decide) _ acc.length (aggsL acc) (by rfl) HKK.out.row ⟨wc.heap.size, 0, none⟩ 1 1 [.int .i64 (k2 : Int), .string (BA s)] (by rfl) (by rfl) HNW.out (by simp [Value.oneCell']) (by decide) (by unfold maxLen; omega) (by omega) HKK.out.mv.size _ rfl ?_
               intro g cap w7 ho hg hgH hlt
               have HF := Lib.hid (LK.more H0.out HKK.out (by decide) (by decide) ho hg hne)
               have a9 := HKK.out.row_apart (by decide) (by decide)
               have e0 : w7.cell? ⟨bl, 0, none⟩ = some lv := hg.cell (HKK.out.lb.cell 0) (Ne.symm a9.1)
               have f0 : w7.frozen? ⟨bl, 0, none⟩ = false := (World.frozen?_of_block (hg.block bl HKK.out.lb.lt (Ne.symm a9.1))).trans (HKK.out.lb.free 0)
               clear ho hg hgH hlt a9)
  exact bodyPost_end (v := .tuple #[]) (results_none rfl _ _ _) rfl (by rw [HE.out]; exact ⟨rfl, _, by show LK base r deep tv nv T ns Wn bx bl _ _ 2 ts2 (acc ++ [(k2, s)]).length (aggsL (acc ++ [(k2, s)])) _ _; rw [show aggsL (acc ++ [(k2, s)]) = aggsL acc ++ [.int .i64 (k2 : Int), .string (BA s)] by simp [aggsL], List.length_append]; exact HF.out⟩)
end
end Go.Proofs.YtnaehhpikhlppaaGreatDoor
