/- The walks of package parse's names, aggs, many. -/
import Derived.Test.YtlonkcmkgmbkcaaDoorRdI
namespace Go.Proofs.YtlonkcmkgmbkcaaDoor
open Go.RowKit LexS ParS BigFrame
set_option maxHeartbeats 4000000
set_option linter.unusedVariables false
set_option linter.unusedSimpArgs false
attribute [local go_sem] field_tok1 field_tok2
attribute [local go_sem] World.cell?_alloc_some cell_drewN_new free_drewN_new cell_drew_new free_drew_new

theorem infoStr : (Tryd.prog.info? 9).map (fun i => (i.zero, i.size, i.bytes)) = some (some (.string ⟨#[]⟩), 1, 16) := by kernel_rfl
theorem infoAgg : (Tryd.prog.info? 72).map (fun i => (i.zero, i.size, i.bytes)) = some (some (.agg #[.int .i64 0, .string ⟨#[]⟩]), 2, 24) := by kernel_rfl
theorem Mv.grown {r : Nat} {Wn w1 w2 : World} {row : Option Nat} (h : Mv r Wn w1) (hg : w1.grownBy w2 row) (hr : ∀ k, row = some k → Wn.heap.size ≤ k) : Mv r Wn w2 :=
  ⟨hg.os.trans h.os, hg.tape.trans h.tape, hg.output.trans h.output, Nat.le_trans h.size hg.size, fun i hi h1 h2 => by
    rw [hg.block i (Nat.lt_of_lt_of_le hi h.size) (fun e => by have := hr i e.symm; omega)]
    exact h.block i hi h1 h2, fun k hk => by cases hk⟩
/-- A row that grows in a box of the call's own, beside the reader. -/
structure LK (base r deep : Nat) (tv nv : Value) (T : List Tok) (ns : List Nd) (Wn : World) (bx bl : Nat) (st et : TypeId) (size : Nat) (ts : List Tk) (n : Nat) (xs : List Value) (lv : Value) (W : World) : Prop where
  rs : RS base r tv T deep ts ns nv W
  mv : Mv r Wn W
  lb : Blk W bl st #[lv]
  hl : Wn.heap.size ≤ bl
  xb : Blk W bx 62 #[RP r]
  hx : Wn.heap.size ≤ bx
  row : W.ownsRow Wn.heap.size et size lv n xs
section
variable {base r deep : Nat} {tv nv lv lv' : Value} {T : List Tok} {ns : List Nd} {Wn W W' : World} {bx bl : Nat} {st et : TypeId} {size : Nat} {ts ts1 : List Tk} {n n' : Nat} {xs xs' : List Value}
theorem LK.row_apart (h : LK base r deep tv nv T ns Wn bx bl st et size ts n xs lv W) (h1 : st ≠ et) (h2 : et ≠ 62) : lv.ownBlock ≠ some bl ∧ lv.ownBlock ≠ some bx := by
  refine ⟨fun e => ?_, fun e => ?_⟩
  · obtain ⟨cur, hc⟩ := row_block h.row e
    exact h1 (block_types h.lb hc)
  · obtain ⟨cur, hc⟩ := row_block h.row e
    exact h2 (block_types hc h.xb)
theorem LK.kept (h : LK base r deep tv nv T ns Wn bx bl st et size ts n xs lv W) (hb : Below W.heap.size W W') : LK base r deep tv nv T ns Wn bx bl st et size ts n xs lv W' :=
  ⟨h.rs.kept hb, Stp.trans h.mv (Stp.of hb), h.lb.kept hb, h.hl, h.xb.kept hb, h.hx, own_kept h.row hb⟩
theorem LK.move (h : LK base r deep tv nv T ns Wn bx bl st et size ts n xs lv W) (hr : r < Wn.heap.size) (h1 : RS base r tv T deep ts1 ns nv W') (m : Mv r W W') : LK base r deep tv nv T ns Wn bx bl st et size ts1 n xs lv W' := by
  have e1 := h.hl
  have e2 := h.hx
  refine ⟨h1, Stp.trans h.mv m, m.blk h.lb (by omega), h.hl, m.blk h.xb (by omega), h.hx, row_mv h.row m fun e => ?_⟩
  have := (h.row.lt _ e).1
  omega
/-- Behind the append, and its store. -/
theorem LK.more {w2 : World} {g cap : Nat} (h0 : RS base r tv T deep ts ns nv Wn) (h : LK base r deep tv nv T ns Wn bx bl st et size ts1 n xs lv W) (h1 : st ≠ et) (h2 : et ≠ 62) (ho : w2.ownsRow Wn.heap.size et size (.slice (some ⟨g, 0, none⟩) n' cap) n' xs') (hg : W.grownBy w2 lv.ownBlock) (hne : bl ≠ bx) :
    LK base r deep tv nv T ns Wn bx bl st et size ts1 n' xs' (.slice (some ⟨g, 0, none⟩) n' cap) (w2.setCell ⟨bl, 0, none⟩ (.slice (some ⟨g, 0, none⟩) n' cap)) := by
  obtain ⟨a1, a2⟩ := h.row_apart h1 h2
  have hr := h0.box.lt
  have hl := h.hl
  have hx := h.hx
  have hlv : ∀ k, lv.ownBlock = some k → Wn.heap.size ≤ k := fun k hk => (h.row.lt k hk).1
  have m : Mv r Wn w2 := Mv.grown h.mv hg hlv
  have m2 : Mv r Wn (w2.setCell ⟨bl, 0, none⟩ (.slice (some ⟨g, 0, none⟩) n' cap)) := Mv.far m hl 0 _
  have b1 : Blk w2 bl st #[lv] := (hg.block bl h.lb.lt (Ne.symm a1)).trans h.lb
  have b2 : Blk w2 bx 62 #[RP r] := (hg.block bx h.xb.lt (Ne.symm a2)).trans h.xb
  have b3 : Blk w2 r 76 _ := (hg.block r h.rs.box.lt (fun e => by have := hlv r e.symm; omega)).trans h.rs.box
  have hgl : g ≠ bl := by
    intro e
    obtain ⟨cur, hc⟩ := row_block ho rfl
    rw [e] at hc
    exact h1 (block_types b1 hc)
  refine ⟨h0.again m2 (b3.far (by show r ≠ bl; omega) _) h.rs.suf h.rs.short, m2, b1.put 0 _, hl, b2.far (Ne.symm hne) _, hx, ho.1, ?_⟩
  rcases ho.2 with ⟨h4, _⟩ | ⟨g', cap', cur, h4, h5, h6, h7⟩
  · cases h4
  · refine .inr ⟨g', cap', cur, h4, h5, ?_, h7⟩
    rw [← h6]
    simp only [World.setCell, Array.getElem?_modify]
    injection h4 with h4
    injection h4 with h4
    injection h4 with h4
    rw [if_neg (fun e => hgl (by rw [h4, ← e]))]
end
section
variable {base r deep : Nat} {tv nv lv : Value} {T : List Tok} {ns : List Nd} {Wn W : World} {bx bl : Nat} {ts ts0 ts1 : List Tk} {acc : List Bytes} {t : Tk}
set_option maxRecDepth 100000 in
theorem name1_yes (h0 : RS base r tv T deep ts0 ns nv Wn) (h : LK base r deep tv nv T ns Wn bx bl 34 9 1 ts acc.length (strsL acc) lv W) (hne : bl ≠ bx) (hacc : acc.length ≤ 2000) (ht : ts = t :: ts1) (hk : t.kind = 1) :
    Calls Tryd.prog 102 #[.pointer (some ⟨bl, 0, none⟩), .pointer (some ⟨bx, 0, none⟩)] W fun e W' => e = .returned (.tuple #[]) ∧ ∃ lv', LK base r deep tv nv T ns Wn bx bl 34 9 1 ts1 (acc.length + 1) (strsL (acc ++ [t.s])) lv' W' := by
  have hb : Below W.heap.size W W.drew := (Below.refl _ _).drew
  have hd := h.kept hb
  have c0 : W.cell? ⟨bl, 0, none⟩ = some lv := h.lb.cell 0
  have c1 : W.cell? ⟨bx, 0, none⟩ = some (RP r) := h.xb.cell 0
  have HD := Lib.hid hd
  have HW := Lib.hid (word_yes hd.rs ht hk)
  have hr := h0.box.lt
  have H0 := Lib.hid h0
  obtain ⟨i0, hi0, hz0, hz1, hz2⟩ := info_parts infoStr
  clear h hd hb h0 ht hk
  go_enter Tryd.func102, Tryd.ntmps102
  go_wp2_with fail
  rw [show (#[{ dst := some 2, op := Go.Op.load 34 (Go.Operand.tmp 0), type := 34, pos := "parse.go:90", after := #[], guard := none }, { dst := some 3, op := Go.Op.load 62 (Go.Operand.tmp 1), type := 62, pos := "parse.go:90", after := #[], guard := none }, { dst := some 4, op := Go.Op.call { callee := Go.Callee.value (Go.Operand.func 63), args := #[Go.Operand.tmp 3], argTypes := #[62] }, type := 9, pos := "parse.go:90", after := #[{ on := 1, ground := Go.Ground.data }], guard := none }, { dst := some 5, op := Go.Op.buildSlice 34 1 #[(0, Go.Operand.tmp 4)], type := 34, pos := "parse.go:90", after := #[{ on := 2, ground := Go.Ground.data }], guard := none }, { dst := some 6, op := Go.Op.call { callee := Go.Callee.builtin Go.Builtin.append, args := #[Go.Operand.tmp 2, Go.Operand.tmp 5], argTypes := #[34, 34] }, type := 34, pos := "parse.go:90", after := #[{ on := 0, ground := Go.Ground.data }, { on := 3, ground := Go.Ground.data }, { on := 2, ground := Go.Ground.chain }], guard := none }, { dst := none, op := Go.Op.store 34 (Go.Operand.tmp 0) (Go.Operand.tmp 6), type := 0, pos := "parse.go:90", after := #[{ on := 4, ground := Go.Ground.data }, { on := 4, ground := Go.Ground.chain }, { on := 0, ground := Go.Ground.phase }, { on := 1, ground := Go.Ground.phase }, { on := 2, ground := Go.Ground.phase }, { on := 3, ground := Go.Ground.phase }, { on := 4, ground := Go.Ground.phase }], guard := none }] : Array Oper) = Array.push #[{ dst := some 2, op := Go.Op.load 34 (Go.Operand.tmp 0), type := 34, pos := "parse.go:90", after := #[], guard := none }, { dst := some 3, op := Go.Op.load 62 (Go.Operand.tmp 1), type := 62, pos := "parse.go:90", after := #[], guard := none }, { dst := some 4, op := Go.Op.call { callee := Go.Callee.value (Go.Operand.func 63), args := #[Go.Operand.tmp 3], argTypes := #[62] }, type := 9, pos := "parse.go:90", after := #[{ on := 1, ground := Go.Ground.data }], guard := none }, { dst := some 5, op := Go.Op.buildSlice 34 1 #[(0, Go.Operand.tmp 4)], type := 34, pos := "parse.go:90", after := #[{ on := 2, ground := Go.Ground.data }], guard := none }, { dst := some 6, op := Go.Op.call { callee := Go.Callee.builtin Go.Builtin.append, args := #[Go.Operand.tmp 2, Go.Operand.tmp 5], argTypes := #[34, 34] }, type := 34, pos := "parse.go:90", after := #[{ on := 0, ground := Go.Ground.data }, { on := 3, ground := Go.Ground.data }, { on := 2, ground := Go.Ground.chain }], guard := none }] { dst := none, op := Go.Op.store 34 (Go.Operand.tmp 0) (Go.Operand.tmp 6), type := 0, pos := "parse.go:90", after := #[{ on := 4, ground := Go.Ground.data }, { on := 4, ground := Go.Ground.chain }, { on := 0, ground := Go.Ground.phase }, { on := 1, ground := Go.Ground.phase }, { on := 2, ground := Go.Ground.phase }, { on := 3, ground := Go.Ground.phase }, { on := 4, ground := Go.Ground.phase }], guard := none } from rfl]
  refine wp_region_last (S := fun w' => w'.cell? ⟨bl, 0, none⟩ = some lv ∧ w'.cell? ⟨bx, 0, none⟩ = some (RP r)) (by kernel_rfl) (by kernel_rfl) ⟨c0, c1⟩ (fun hHeld => ?_)
  refine wpAnyH_take (i := 0) (oi := { dst := some 2, op := Go.Op.load 34 (Go.Operand.tmp 0), type := 34, pos := "parse.go:90", after := #[], guard := none }) (v := ?v1) rfl (by kernel_rfl) (by kernel_rfl) (by kernel_rfl) (fun _ _ _ h => h) (Or.inl ⟨by rfl, ?hy1⟩) (by assumption) ?rest1
  case hy1 =>
    intro w hSw
    (try dsimp only at hSw)
    go_simp
    try with_reducible rfl
  try simp only [Act.put, List.setIfInBounds_toArray, List.set_cons_zero, List.set_cons_succ]
  refine wpAnyH_take (i := 1) (oi := { dst := some 3, op := Go.Op.load 62 (Go.Operand.tmp 1), type := 62, pos := "parse.go:90", after := #[], guard := none }) (v := ?v2) rfl (by kernel_rfl) (by kernel_rfl) (by kernel_rfl) (fun _ _ _ h => h) (Or.inl ⟨by rfl, ?hy2⟩) (by assumption) ?rest2
  case hy2 =>
    intro w hSw
    (try dsimp only at hSw)
    go_simp
    try with_reducible rfl
  try simp only [Act.put, List.setIfInBounds_toArray, List.set_cons_zero, List.set_cons_succ]
  refine wpAnyH_ready (rs := [2]) (by kernel_rfl) (by simp) ?_
  refine AllReadyH.cons (o := { dst := some 4, op := Go.Op.call { callee := Go.Callee.value (Go.Operand.func 63), args := #[Go.Operand.tmp 3], argTypes := #[62] }, type := 9, pos := "parse.go:90", after := #[{ on := 1, ground := Go.Ground.data }], guard := none }) rfl (fun K hK => ?_) ?_
  · go_simp
    go_at_call 63
    (with_reducible refine HW.out.mono ?_)
    rintro e w1 ⟨rfl, h1, m1⟩
    have HL := Lib.hid (HD.out.move hr h1 m1)
    have HB := Lib.hid ((Below.refl w1.heap.size w1).alloc (Nat.le_refl _) (.cells #[.string (BA t.s)] 9))
    have HNW := Lib.hid (blk_cells (Blk.new w1 9 #[.string (BA t.s)]))
    have g0 := HL.out.lb.cell 0
    have g1 := HL.out.xb.cell 0
    have HKK := Lib.hid (HL.out.kept HB.out)
    clear h1 m1
    refine hK.out _ _ ?_ (fun hHeld => ?_)
    · exact ⟨g0, g1⟩
    · clear hK K
      try simp only [Act.put, List.setIfInBounds_toArray, List.set_cons_zero, List.set_cons_succ]
      refine wpAnyH_ready (rs := [3]) (by kernel_rfl) (by simp) ?_
      refine AllReadyH.cons (o := { dst := some 5, op := Go.Op.buildSlice 34 1 #[(0, Go.Operand.tmp 4)], type := 34, pos := "parse.go:90", after := #[{ on := 2, ground := Go.Ground.data }], guard := none }) rfl (fun K hK => ?_) ?_
      · go_simp
        refine hK.out _ _ ?_ (fun hHeld => ?_)
        · exact ⟨HKK.out.lb.cell 0, HKK.out.xb.cell 0⟩
        · clear hK K
          try simp only [Act.put, List.setIfInBounds_toArray, List.set_cons_zero, List.set_cons_succ]
          refine wpAnyH_ready (rs := [4]) (by kernel_rfl) (by simp) ?_
          refine AllReadyH.cons (o := { dst := some 6, op := Go.Op.call { callee := Go.Callee.builtin Go.Builtin.append, args := #[Go.Operand.tmp 2, Go.Operand.tmp 5], argTypes := #[34, 34] }, type := 34, pos := "parse.go:90", after := #[{ on := 0, ground := Go.Ground.data }, { on := 3, ground := Go.Ground.data }, { on := 2, ground := Go.Ground.chain }], guard := none }) rfl (fun K hK => ?_) ?_
          · refine step_append_lies _ (by rfl) _ _ _ (by rfl) Wn.heap.size 9 i0 _ 1 16 (by kernel_rfl) hi0 hz0 hz1 hz2 (by rfl) (by decide) _ acc.length (strsL acc) (by rfl) HKK.out.row ⟨w1.heap.size, 0, none⟩ 1 1 [.string (BA t.s)] (by rfl) (by rfl) HNW.out (by simp [Value.oneCell']) (by decide) (by unfold maxLen; omega) (by omega) HKK.out.mv.size _ rfl ?_
            intro g cap w2 ho hg hgH hlt
            have HF := Lib.hid (LK.more H0.out HKK.out (by decide) (by decide) ho hg hne)
            have a1 := HKK.out.row_apart (by decide) (by decide)
            have e0 : w2.cell? ⟨bl, 0, none⟩ = some lv := hg.cell (HKK.out.lb.cell 0) (Ne.symm a1.1)
            have e1 : w2.cell? ⟨bx, 0, none⟩ = some (RP r) := hg.cell (HKK.out.xb.cell 0) (Ne.symm a1.2)
            have f0 : w2.frozen? ⟨bl, 0, none⟩ = false := (World.frozen?_of_block (hg.block bl HKK.out.lb.lt (Ne.symm a1.1))).trans (HKK.out.lb.free 0)
            clear ho hg hgH hlt a1
            refine hK.out _ _ ?_ (fun hHeld => ?_)
            · exact ⟨e0, e1⟩
            · clear hK K
              try simp only [Act.put, List.setIfInBounds_toArray, List.set_cons_zero, List.set_cons_succ]
              refine wpAnyH_done (by kernel_rfl) ?_ _
              refine then_step (fun K hK => ?_)
              go_simp
              refine hK.out _ _ ?_
              clear hK K
              go_wp2_with fail
              exact bodyPost_end (v := .tuple #[]) (results_none rfl _ _ _) rfl ⟨rfl, _, by rw [show strsL (acc ++ [t.s]) = strsL acc ++ [.string (BA t.s)] by simp [strsL]]; exact HF.out⟩
          exact AllReadyH.nil
      exact AllReadyH.nil
  exact AllReadyH.nil
theorem name1_no (h : LK base r deep tv nv T ns Wn bx bl 34 9 1 ts acc.length (strsL acc) lv W) (hk : ∀ t ts1, ts = t :: ts1 → t.kind ≠ 1) :
    Calls Tryd.prog 102 #[.pointer (some ⟨bl, 0, none⟩), .pointer (some ⟨bx, 0, none⟩)] W fun e W' => e = Bad T ts.length false ∧ Mv r Wn W' := by
  have hb : Below W.heap.size W W.drew := (Below.refl _ _).drew
  have hd := h.kept hb
  have c0 : W.cell? ⟨bl, 0, none⟩ = some lv := h.lb.cell 0
  have c1 : W.cell? ⟨bx, 0, none⟩ = some (RP r) := h.xb.cell 0
  have HW := Lib.hid (word_no hd.rs hk)
  have HM := Lib.hid hd.mv
  clear h hd hb hk
  go_enter Tryd.func102, Tryd.ntmps102
  go_wp2_with fail
  rw [show (#[{ dst := some 2, op := Go.Op.load 34 (Go.Operand.tmp 0), type := 34, pos := "parse.go:90", after := #[], guard := none }, { dst := some 3, op := Go.Op.load 62 (Go.Operand.tmp 1), type := 62, pos := "parse.go:90", after := #[], guard := none }, { dst := some 4, op := Go.Op.call { callee := Go.Callee.value (Go.Operand.func 63), args := #[Go.Operand.tmp 3], argTypes := #[62] }, type := 9, pos := "parse.go:90", after := #[{ on := 1, ground := Go.Ground.data }], guard := none }, { dst := some 5, op := Go.Op.buildSlice 34 1 #[(0, Go.Operand.tmp 4)], type := 34, pos := "parse.go:90", after := #[{ on := 2, ground := Go.Ground.data }], guard := none }, { dst := some 6, op := Go.Op.call { callee := Go.Callee.builtin Go.Builtin.append, args := #[Go.Operand.tmp 2, Go.Operand.tmp 5], argTypes := #[34, 34] }, type := 34, pos := "parse.go:90", after := #[{ on := 0, ground := Go.Ground.data }, { on := 3, ground := Go.Ground.data }, { on := 2, ground := Go.Ground.chain }], guard := none }, { dst := none, op := Go.Op.store 34 (Go.Operand.tmp 0) (Go.Operand.tmp 6), type := 0, pos := "parse.go:90", after := #[{ on := 4, ground := Go.Ground.data }, { on := 4, ground := Go.Ground.chain }, { on := 0, ground := Go.Ground.phase }, { on := 1, ground := Go.Ground.phase }, { on := 2, ground := Go.Ground.phase }, { on := 3, ground := Go.Ground.phase }, { on := 4, ground := Go.Ground.phase }], guard := none }] : Array Oper) = Array.push #[{ dst := some 2, op := Go.Op.load 34 (Go.Operand.tmp 0), type := 34, pos := "parse.go:90", after := #[], guard := none }, { dst := some 3, op := Go.Op.load 62 (Go.Operand.tmp 1), type := 62, pos := "parse.go:90", after := #[], guard := none }, { dst := some 4, op := Go.Op.call { callee := Go.Callee.value (Go.Operand.func 63), args := #[Go.Operand.tmp 3], argTypes := #[62] }, type := 9, pos := "parse.go:90", after := #[{ on := 1, ground := Go.Ground.data }], guard := none }, { dst := some 5, op := Go.Op.buildSlice 34 1 #[(0, Go.Operand.tmp 4)], type := 34, pos := "parse.go:90", after := #[{ on := 2, ground := Go.Ground.data }], guard := none }, { dst := some 6, op := Go.Op.call { callee := Go.Callee.builtin Go.Builtin.append, args := #[Go.Operand.tmp 2, Go.Operand.tmp 5], argTypes := #[34, 34] }, type := 34, pos := "parse.go:90", after := #[{ on := 0, ground := Go.Ground.data }, { on := 3, ground := Go.Ground.data }, { on := 2, ground := Go.Ground.chain }], guard := none }] { dst := none, op := Go.Op.store 34 (Go.Operand.tmp 0) (Go.Operand.tmp 6), type := 0, pos := "parse.go:90", after := #[{ on := 4, ground := Go.Ground.data }, { on := 4, ground := Go.Ground.chain }, { on := 0, ground := Go.Ground.phase }, { on := 1, ground := Go.Ground.phase }, { on := 2, ground := Go.Ground.phase }, { on := 3, ground := Go.Ground.phase }, { on := 4, ground := Go.Ground.phase }], guard := none } from rfl]
  refine wp_region_last (S := fun w' => w'.cell? ⟨bl, 0, none⟩ = some lv ∧ w'.cell? ⟨bx, 0, none⟩ = some (RP r)) (by kernel_rfl) (by kernel_rfl) ⟨c0, c1⟩ (fun hHeld => ?_)
  refine wpAnyH_take (i := 0) (oi := { dst := some 2, op := Go.Op.load 34 (Go.Operand.tmp 0), type := 34, pos := "parse.go:90", after := #[], guard := none }) (v := ?v1) rfl (by kernel_rfl) (by kernel_rfl) (by kernel_rfl) (fun _ _ _ h => h) (Or.inl ⟨by rfl, ?hy1⟩) (by assumption) ?rest1
  case hy1 =>
    intro w hSw
    (try dsimp only at hSw)
    go_simp
    try with_reducible rfl
  try simp only [Act.put, List.setIfInBounds_toArray, List.set_cons_zero, List.set_cons_succ]
  refine wpAnyH_take (i := 1) (oi := { dst := some 3, op := Go.Op.load 62 (Go.Operand.tmp 1), type := 62, pos := "parse.go:90", after := #[], guard := none }) (v := ?v2) rfl (by kernel_rfl) (by kernel_rfl) (by kernel_rfl) (fun _ _ _ h => h) (Or.inl ⟨by rfl, ?hy2⟩) (by assumption) ?rest2
  case hy2 =>
    intro w hSw
    (try dsimp only at hSw)
    go_simp
    try with_reducible rfl
  try simp only [Act.put, List.setIfInBounds_toArray, List.set_cons_zero, List.set_cons_succ]
  refine wpAnyH_ready (rs := [2]) (by kernel_rfl) (by simp) ?_
  refine AllReadyH.cons (o := { dst := some 4, op := Go.Op.call { callee := Go.Callee.value (Go.Operand.func 63), args := #[Go.Operand.tmp 3], argTypes := #[62] }, type := 9, pos := "parse.go:90", after := #[{ on := 1, ground := Go.Ground.data }], guard := none }) rfl (fun K hK => ?_) ?_
  · go_simp
    go_at_call 63
    (with_reducible refine HW.out.mono ?_)
    rintro e w1 ⟨rfl, m1⟩
    have HF := Lib.hid (Stp.trans HM.out m1)
    unfold Bad
    exact ⟨rfl, rfl, HF.out⟩
  exact AllReadyH.nil
end
end Go.Proofs.YtlonkcmkgmbkcaaDoor
