/- The walk of plan's take. -/
import Derived.Test.YtjpogmomgmjmbaaN18
/-! The walk of plan's take. -/
namespace Go.Proofs.Ytjpogmomgmjmbaa
open Go.RowKit LexS ParS BigFrame
set_option maxHeartbeats 4000000
set_option linter.unusedVariables false
set_option linter.unusedSimpArgs false
attribute [local go_sem] World.cell?_alloc_some cell_drewN_new free_drewN_new cell_drew_new free_drew_new

theorem undQuery : Try.prog.underlying 25 = some (.struct (Try.prog.fieldsOf 25)) := by kernel_rfl
theorem sizeQuery : (Try.prog.info? 25).map (·.size) = some 1 := by kernel_rfl
theorem made_zero (n : Nat) : madeCells (Value.int .i64 0).cells (n * 1) = (intsL (List.replicate n 0)).toArray := by
  rw [Nat.mul_one]
  apply Array.ext'
  simp only [madeCells, intsL, Array.toList_map, Array.toList_range, List.map_replicate]
  rw [show (fun x => (Value.int .i64 0).cells[x % (Value.int .i64 0).cells.size]!) = fun (_ : Nat) => Value.int .i64 0 from by
    funext x
    show #[Value.int .i64 0][x % 1]! = _
    rw [Nat.mod_one]
    rfl]
  exact List.map_const' .. |>.trans (by simp)
theorem make_ints (w : World) {n : Nat} (h : n ≤ 128) : (Instr.makeSlice 39 (.int .i64 (n : Int)) (.int .i64 (n : Int))).run Try.prog w = .ok (.slice (some ⟨w.heap.size, 0, none⟩) n n) (w.alloc (.cells (intsL (List.replicate n 0)).toArray 3)) := by
  obtain ⟨i, hi, hz, hz1, hz2⟩ := info_parts infoInt
  have := run_make (P := Try.prog) w 39 3 i (.int .i64 0) (by kernel_rfl) hi hz .i64 .i64 n n (by omega) (Int.le_refl _) (by rw [hz2]; omega) (by omega)
  rw [Int.toNat_natCast, hz1, made_zero] at this
  exact this
/-- What take has, once it has looked at some nodes. -/
structure TK (W0 : World) (n : Nat) (now : List Nat) (out : List Nd) (ov : Value) (W : World) : Prop where
  low : Below W0.heap.size W0 W
  qb : Blk W W0.heap.size 25 #[.slice none 0 0]
  nb : Blk W (W0.heap.size + 1) 3 (intsL now).toArray
  nl : now.length = n
  out : NO W (W0.heap.size + 2) ov out
theorem TK.kept {W0 W W' : World} {n : Nat} {now : List Nat} {out : List Nd} {ov : Value} (h : TK W0 n now out ov W) (hb : Below W.heap.size W W') : TK W0 n now out ov W' :=
  ⟨chain h.low hb, h.qb.kept hb, h.nb.kept hb, h.nl, h.out.kept hb⟩
theorem TK.put {W0 W : World} {n i x : Nat} {now : List Nat} {out : List Nd} {ov : Value} (h : TK W0 n now out ov W) : TK W0 n (now.set i x) out ov (W.setCell ⟨W0.heap.size + 1, i, none⟩ (.int .i64 (x : Int))) :=
  ⟨h.low.setCell (p := ⟨W0.heap.size + 1, i, none⟩) (Nat.le_succ _) _, h.qb.far (p := ⟨W0.heap.size + 1, i, none⟩) (by intro e; dsimp only at e; omega) _, by
    have e := h.nb.put i (.int .i64 (x : Int))
    have e2 : (intsL now).toArray.setIfInBounds i (.int .i64 (x : Int)) = (intsL (now.set i x)).toArray := by simp [intsL, List.map_set]
    rw [e2] at e
    exact e, by rw [List.length_set]; exact h.nl, h.out.far h.nb (Nat.lt_succ_self _)⟩
theorem own_low {W W' : World} {b size n B : Nat} {e : TypeId} {v : Value} {xs : List Value} (h : W.ownsRow b e size v n xs) (h4 : ∀ k, v.ownBlock = some k → k < B) (hb : Below B W W') : W'.ownsRow b e size v n xs := by
  refine ⟨h.1, ?_⟩
  rcases h.2 with h2 | ⟨g, cap, cur, rfl, h3, h5⟩
  · exact .inl h2
  · exact .inr ⟨g, cap, cur, rfl, h3, (hb.block g (h4 g rfl)).trans h5.1, h5.2⟩
/-- The row grows by a renamed node. -/
theorem TK.grow {W0 W W' : World} {n : Nat} {now : List Nat} {out : List Nd} {ov v' : Value} {m : NodeM} {ms : List NodeM} (h : TK W0 n now out ov W) (h1 : ms.map (·.node) = out) (h2 : W.ownsRow (W0.heap.size + 2) 43 19 ov out.length (cellsM ms))
    (h3 : ∀ x ∈ ms, MOk W 0 x ∧ W.ownsRow (W0.heap.size + 2) 3 1 x.lv x.node.l.length (intsL x.node.l)) (hm : MOk W 0 m) (hl : W.ownsRow (W0.heap.size + 2) 3 1 m.lv m.node.l.length (intsL m.node.l))
    (hg : W.grownBy W' ov.ownBlock) (ho : W'.ownsRow (W0.heap.size + 2) 43 19 v' (out.length + 1) (cellsM ms ++ m.cells)) : TK W0 n now (out ++ [m.node]) v' W' := by
  have hk : ∀ k, ov.ownBlock = some k → W0.heap.size + 2 ≤ k := fun k hk => (h2.lt k hk).1
  refine ⟨h.low.grown hg h.low.size (fun k e => Nat.le_trans (Nat.le_add_right _ 2) (hk k e)), ?_, ?_, h.nl, NO.grow h1 h2 h3 hm hl hg ho⟩
  · exact (hg.block _ h.qb.lt (fun e => by have := hk _ e.symm; omega)).trans h.qb
  · exact (hg.block _ h.nb.lt (fun e => by have := hk _ e.symm; omega)).trans h.nb
theorem Drawn.below {W W' : World} (h : Drawn W W') : Below W.heap.size W W' := by
  obtain ⟨k, rfl⟩ := h
  exact ⟨rfl, rfl, rfl, Nat.le_refl _, fun _ _ => rfl⟩
theorem take_no {ns : List Nd} {so : Nat → Bool} {made : Nat → Nd} {i : Nat} (h : so i = false) : takeP ns so made (i + 1) = takeP ns so made i := if_neg (by rw [h]; simp)
theorem take_yes {ns : List Nd} {so : Nat → Bool} {made : Nat → Nd} {i : Nat} (h : so i = true) : takeP ns so made (i + 1) = ((takeP ns so made i).1.set i (takeP ns so made i).2.length, (takeP ns so made i).2 ++ [{ made i with l := (made i).l.map fun a => ((takeP ns so made i).1[a]?).getD 0 }]) := if_pos h
theorem take_le (ns : List Nd) (so : Nat → Bool) (made : Nat → Nd) : ∀ i, (takeP ns so made i).2.length ≤ i
  | 0 => Nat.le_refl _
  | i + 1 => by
    cases h : so i with
    | false =>
      rw [take_no h]
      exact Nat.le_succ_of_le (take_le ns so made i)
    | true =>
      rw [take_yes h]
      simp only [List.length_append, List.length_singleton]
      exact Nat.succ_le_succ (take_le ns so made i)
/-- What take answers. -/
def TakeR (W0 : World) (ns : List Nd) (e : Ending) (W : World) : Prop := ∃ v, e = .returned (.agg #[v]) ∧ NO W (W0.heap.size + 2) v ns ∧ Below W0.heap.size W0 W
section
variable {W : World} {sp g cap bb pb : Nat} {ns : List Nd} {by_ part : List Int} {so : Nat → Bool} {made : Nat → Nd} {f1 f2 m1 : Addr}
set_option maxRecDepth 100000 in
theorem take_part (h : SM W sp g cap ns bb pb by_ part)
    (hso : ∀ W1 i, Below W.heap.size W W1 → i < ns.length → Calls Try.prog 19 #[.int .i64 ((i : Nat) : Int), .pointer (some f1), .pointer (some f2)] W1 fun e W2 => e = .returned (.bool (so i)) ∧ Drawn W1 W2)
    (hmade : ∀ W1 i, Below W.heap.size W W1 → i < ns.length → so i = true → Calls Try.prog 17 #[.int .i64 ((i : Nat) : Int), .pointer (some m1)] W1 (NodeR W1 (made i)))
    (hl : ∀ i, i < ns.length → so i = true → (made i).l.length ≤ 2 ∧ ∀ x ∈ (made i).l, x < ns.length) :
    Calls Try.prog 18 #[RP sp, .func (.func 19) #[] #[.pointer (some f1), .pointer (some f2)], .func (.func 17) #[] #[.pointer (some m1)]] W (TakeR W (takeP ns so made ns.length).2) := by
  have c0 : W.cell? ⟨sp, 0, none⟩ = some (.slice (some ⟨g, 0, none⟩) ns.length cap) := h.box.cell 0
  have hs0 := h.small
  have HS := Lib.hid h
  have HSO := Lib.hid hso
  have HMD := Lib.hid hmade
  have HL := Lib.hid hl
  clear h hso hmade hl
  go_enter Try.func18, Try.ntmps18
  have hmk := make_ints (W.alloc (.cells #[.slice none 0 0] 25)) hs0
  have hwz : (W.alloc (.cells #[.slice none 0 0] 25)).heap.size = W.heap.size + 1 := by
    show (W.heap.push _).size = _
    rw [Array.size_push]
  rw [hwz] at hmk
  obtain ⟨W1, hW1⟩ : ∃ W1, W1 = (W.alloc (.cells #[.slice none 0 0] 25)).alloc (.cells (intsL (List.replicate ns.length 0)).toArray 3) := ⟨_, rfl⟩
  rw [← hW1] at hmk
  have hb1 : Below W.heap.size W W1 := by rw [hW1]; exact ((Below.refl _ _).alloc (Nat.le_refl _) _).alloc (by rw [hwz]; exact Nat.le_succ _) _
  have c0b : W1.cell? ⟨sp, 0, none⟩ = some (.slice (some ⟨g, 0, none⟩) ns.length cap) := keepc hb1 c0
  have hk1 : TK W ns.length (List.replicate ns.length 0) [] (.slice none 0 0) W1 := ⟨hb1, by rw [hW1]; exact (Blk.new W _ _).alloc _, by rw [hW1, ← hwz]; exact Blk.new _ _ _, by simp, NO.nil⟩
  have HK1 := Lib.hid hk1
  clear hW1 hwz hb1 hk1
  go_wp2_with fail
  go_loopg [8, 24] (ns.length + 1) (fun gk v c wr => ∃ i : Nat, i ≤ ns.length ∧ ns.length < i + gk ∧ c = .int .i64 (i : Int) ∧ TK W ns.length (takeP ns so made i).1 (takeP ns so made i).2 v wr)
  case atStart => exact ⟨0, Nat.zero_le _, by omega, rfl, HK1.out⟩
  case round =>
    obtain ⟨i, hi, hgk, rfl, htk⟩ := hrel
    have HT := Lib.hid htk
    by_cases hlt : i < ns.length
    · have n1 : (i : Int) < (ns.length : Int) := by omega
      have n3 : decide ((i : Int) < (ns.length : Int)) = true := decide_eq_true n1
      have w1_ : IntKind.i64.wrap ((i : Int) + 1) = (i : Int) + 1 := IntWalk.i64_in _ (by omega)
      have HC1 := Lib.hid (HSO.out wr i htk.low hlt)
      clear htk
      go_wp2_with fail
      refine HC1.out.mono ?_
      rintro e w2 ⟨rfl, hd2⟩
      have HT2 := Lib.hid (HT.out.kept hd2.below)
      cases hs : so i with
      | false =>
        have HN := Lib.hid (take_no (ns := ns) (made := made) hs)
        clear hs hd2
        go_wp2_with fail
        go_roundg (ns.length - i)
        case measure => omega
        case rel => exact ⟨i + 1, by omega, by omega, rfl, by rw [HN.out]; exact HT2.out⟩
      | true =>
        have HY := Lib.hid (take_yes (ns := ns) (made := made) hs)
        have HC2 := Lib.hid (HMD.out w2 i HT2.out.low hlt hs)
        have HLL := Lib.hid (HL.out i hlt hs)
        clear hs hd2
        go_wp2_with fail
        refine HC2.out.mono ?_
        rintro e w3 ⟨m, b, rfl, hm, hk, hb3⟩
        have HT3 := Lib.hid (HT2.out.kept hb3)
        have hth := nd_there w3
        have hone := hk.ones
        obtain ⟨pl, cl, hlv⟩ := row_slice hk.l
        have HK := Lib.hid (And.intro hm hk)
        have HLV := Lib.hid hlv
        clear hm hk hb3 hlv
        go_wp2_with (refine wpList_store_mid (by rfl) 43 (.tmp 10) (.tmp 33) (by rfl) w3.heap.size 0 m.cells.toArray (by rfl) (by rfl) hth sizeNode hone ?_
                     generalize hw4 : World.setCells _ _ _ _ = w4
                     have F4 := Lib.hid (nd_stored (m := m) hw4)
                     have c16 : w4.cell? ⟨w3.heap.size, 16, none⟩ = some (.slice pl m.node.l.length cl) := by
                       rw [← HLV.out]
                       exact F4.out.2.cell 16
                     clear hw4 hth hone)
        have HK4 := Lib.hid (HK.out.2.kept F4.out.1)
        have HT4 := Lib.hid (HT3.out.kept F4.out.1)
        have hcl := clone_row HK4.out.l (by rw [HK.out.1]; exact Nat.le_trans HLL.out.1 (by decide))
        rw [HLV.out] at hcl
        refine hcl.mono ?_
        rintro e w5 ⟨v5, rfl, ho5, hb5⟩
        have hx5 := F4.out.2.kept hb5
        have c16b : w5.cell? ⟨w3.heap.size, 16, none⟩ = some m.lv := hx5.cell 16
        have f16 := hx5.free 16
        obtain ⟨p5, cp5, rfl⟩ := row_slice ho5
        have HX5 := Lib.hid hx5
        have HT5 := Lib.hid (HT4.out.kept hb5)
        have HO5 := Lib.hid ho5
        have HK5 := Lib.hid (HK4.out.kept hb5)
        have hlt4 : w3.heap.size < w4.heap.size := F4.out.2.lt
        have hpos : W.heap.size + 1 < w3.heap.size := HT3.out.nb.lt
        have hsz5 : w4.heap.size ≤ w5.heap.size := hb5.size
        have HLT := Lib.hid (And.intro hlt4 (And.intro hpos hsz5))
        have HB5 := Lib.hid (Below.setCell (chain F4.out.1 hb5) (p := ⟨w3.heap.size, 16, none⟩) (Nat.le_refl _) (.slice p5 m.node.l.length cp5))
        have HX6 := Lib.hid (hx5.put 16 (.slice p5 m.node.l.length cp5))
        have HO6 := Lib.hid (row_far ho5 hx5 (by decide) 16 (.slice p5 m.node.l.length cp5))
        clear hx5 hb5 ho5 hcl c16 hlt4 hpos hsz5
        go_wp2_with fail
        obtain ⟨w6, hw6⟩ : ∃ w6, w6 = w5.setCell ⟨w3.heap.size, 16, none⟩ (.slice p5 m.node.l.length cp5) := ⟨_, rfl⟩
        have HX := Lib.hid (hw6 ▸ HX6.out)
        have HO := Lib.hid (hw6 ▸ HO6.out)
        have HB := Lib.hid (hw6 ▸ HB5.out)
        have HB6 := Lib.hid (show ∀ (e size n : Nat) (v : Value) (xs : List Value), w5.ownsRow b e size v n xs → e ≠ 43 → w6.ownsRow b e size v n xs from fun _ _ _ _ _ r he => hw6 ▸ row_far r HX5.out he 16 _)
        rw [← hw6]
        clear hw6 HX6 HO6 HB5
        go_loopg [41] (m.node.l.length + 1) (fun gi c wr2 => ∃ k : Nat, k ≤ m.node.l.length ∧ m.node.l.length < k + gi ∧ c = .int .i64 (k : Int) ∧ Below w4.heap.size w6 wr2 ∧ wr2.ownsRow w4.heap.size 3 1 (.slice p5 m.node.l.length cp5) m.node.l.length (intsL (ren (takeP ns so made i).1 m.node.l k)))
        case atStart => exact ⟨0, Nat.zero_le _, by omega, rfl, Below.refl _ _, by rw [ren_zero]; exact HO.out⟩
        case round =>
          obtain ⟨k, hk, hgi, rfl, hbw, hrow⟩ := hrel
          have HBW := Lib.hid hbw
          have HRW := Lib.hid hrow
          have HT6 := Lib.hid (HT3.out.kept (HB.out.trans (hbw.mono (Nat.le_of_lt HLT.out.1))))
          have HX2 := Lib.hid (HX.out.below hbw HLT.out.1)
          by_cases hkl : k < m.node.l.length
          · obtain ⟨a, ha⟩ : ∃ a, m.node.l[k]? = some a := ⟨m.node.l[k], List.getElem?_eq_getElem hkl⟩
            have han : a < ns.length := HLL.out.2 a (by rw [← HK.out.1]; exact List.mem_of_getElem? ha)
            obtain ⟨g5, cq5, he5⟩ := row_one HRW.out (Nat.lt_of_le_of_lt (Nat.zero_le k) hkl)
            injection he5 with he5 _ he6
            subst he5 he6
            obtain ⟨x, hx⟩ : ∃ x, ((takeP ns so made i).1)[a]? = some x := ⟨_, List.getElem?_eq_getElem (by rw [HT6.out.nl]; exact han)⟩
            have d1 : wr.cell? ⟨g5, k, none⟩ = some (.int .i64 (a : Int)) := by
              rw [HRW.out.cellAt k (by omega)]
              unfold intsL
              rw [List.getElem?_map, ren_get _ ha]
              rfl
            have d2 : wr.cell? ⟨W.heap.size + 1, a, none⟩ = some (.int .i64 (x : Int)) := by
              rw [HT6.out.nb.cell a]
              simp [intsL, hx]
            have d3 : wr.cell? ⟨w3.heap.size, 16, none⟩ = some (.slice (some ⟨g5, 0, none⟩) m.node.l.length cp5) := HX2.out.cell 16
            have e1 := HRW.out.frozenAt k
            have HS6 := Lib.hid (HRW.out.stored k (.int .i64 (x : Int)))
            have HRN := Lib.hid (show (intsL (ren (takeP ns so made i).1 m.node.l k)).set k (.int .i64 (x : Int)) = intsL (ren (takeP ns so made i).1 m.node.l (k + 1)) by
              rw [← ren_set _ ha, hx]
              simp [intsL, List.map_set])
            have hg5 := (HRW.out.lt g5 rfl).1
            have HG5 := Lib.hid hg5
            have p1 : (k : Int) < (m.node.l.length : Int) := by omega
            have p2 : decide ((k : Int) < (m.node.l.length : Int)) = true := decide_eq_true p1
            have p3 : (0 : Int) ≤ (k : Int) := by omega
            have p4 : (0 : Int) ≤ (a : Int) := by omega
            have p5 : (a : Int) < (ns.length : Int) := by omega
            have w2_ : IntKind.i64.wrap ((k : Int) + 1) = (k : Int) + 1 := IntWalk.i64_in _ (by have := HLL.out.1; rw [← HK.out.1] at this; omega)
            clear hrow hbw ha hx hg5
            go_wp2_with fail
            rw [show (#[{ dst := some 46, op := Go.Op.fieldAddr 43 (Go.Operand.tmp 10) 6, type := 0, pos := "plan.go:90", after := #[], guard := none }, { dst := some 47, op := Go.Op.load 39 (Go.Operand.tmp 46), type := 39, pos := "plan.go:90", after := #[{ on := 0, ground := Go.Ground.data }], guard := none }, { dst := some 48, op := Go.Op.move (Go.Operand.tmp 11), type := 3, pos := "plan.go:90", after := #[], guard := none }, { dst := some 49, op := Go.Op.move (Go.Operand.tmp 7), type := 39, pos := "plan.go:90", after := #[], guard := none }, { dst := some 50, op := Go.Op.move (Go.Operand.tmp 12), type := 3, pos := "plan.go:90", after := #[], guard := none }, { dst := some 51, op := Go.Op.indexAddr 39 (Go.Operand.tmp 49) (Go.Operand.tmp 50), type := 0, pos := "plan.go:90", after := #[{ on := 3, ground := Go.Ground.data }, { on := 4, ground := Go.Ground.data }], guard := none }, { dst := some 52, op := Go.Op.load 3 (Go.Operand.tmp 51), type := 3, pos := "plan.go:90", after := #[{ on := 5, ground := Go.Ground.data }], guard := none }, { dst := some 53, op := Go.Op.indexAddr 39 (Go.Operand.tmp 47) (Go.Operand.tmp 48), type := 0, pos := "plan.go:90", after := #[{ on := 1, ground := Go.Ground.data }, { on := 2, ground := Go.Ground.data }, { on := 0, ground := Go.Ground.phase }, { on := 1, ground := Go.Ground.phase }, { on := 2, ground := Go.Ground.phase }, { on := 3, ground := Go.Ground.phase }, { on := 4, ground := Go.Ground.phase }, { on := 5, ground := Go.Ground.phase }, { on := 6, ground := Go.Ground.phase }], guard := none }, { dst := none, op := Go.Op.store 3 (Go.Operand.tmp 53) (Go.Operand.tmp 52), type := 0, pos := "plan.go:90", after := #[{ on := 7, ground := Go.Ground.data }, { on := 6, ground := Go.Ground.data }, { on := 0, ground := Go.Ground.phase }, { on := 1, ground := Go.Ground.phase }, { on := 2, ground := Go.Ground.phase }, { on := 3, ground := Go.Ground.phase }, { on := 4, ground := Go.Ground.phase }, { on := 5, ground := Go.Ground.phase }, { on := 6, ground := Go.Ground.phase }], guard := none }] : Array Oper) = Array.push #[{ dst := some 46, op := Go.Op.fieldAddr 43 (Go.Operand.tmp 10) 6, type := 0, pos := "plan.go:90", after := #[], guard := none }, { dst := some 47, op := Go.Op.load 39 (Go.Operand.tmp 46), type := 39, pos := "plan.go:90", after := #[{ on := 0, ground := Go.Ground.data }], guard := none }, { dst := some 48, op := Go.Op.move (Go.Operand.tmp 11), type := 3, pos := "plan.go:90", after := #[], guard := none }, { dst := some 49, op := Go.Op.move (Go.Operand.tmp 7), type := 39, pos := "plan.go:90", after := #[], guard := none }, { dst := some 50, op := Go.Op.move (Go.Operand.tmp 12), type := 3, pos := "plan.go:90", after := #[], guard := none }, { dst := some 51, op := Go.Op.indexAddr 39 (Go.Operand.tmp 49) (Go.Operand.tmp 50), type := 0, pos := "plan.go:90", after := #[{ on := 3, ground := Go.Ground.data }, { on := 4, ground := Go.Ground.data }], guard := none }, { dst := some 52, op := Go.Op.load 3 (Go.Operand.tmp 51), type := 3, pos := "plan.go:90", after := #[{ on := 5, ground := Go.Ground.data }], guard := none }, { dst := some 53, op := Go.Op.indexAddr 39 (Go.Operand.tmp 47) (Go.Operand.tmp 48), type := 0, pos := "plan.go:90", after := #[{ on := 1, ground := Go.Ground.data }, { on := 2, ground := Go.Ground.data }, { on := 0, ground := Go.Ground.phase }, { on := 1, ground := Go.Ground.phase }, { on := 2, ground := Go.Ground.phase }, { on := 3, ground := Go.Ground.phase }, { on := 4, ground := Go.Ground.phase }, { on := 5, ground := Go.Ground.phase }, { on := 6, ground := Go.Ground.phase }], guard := none }] { dst := none, op := Go.Op.store 3 (Go.Operand.tmp 53) (Go.Operand.tmp 52), type := 0, pos := "plan.go:90", after := #[{ on := 7, ground := Go.Ground.data }, { on := 6, ground := Go.Ground.data }, { on := 0, ground := Go.Ground.phase }, { on := 1, ground := Go.Ground.phase }, { on := 2, ground := Go.Ground.phase }, { on := 3, ground := Go.Ground.phase }, { on := 4, ground := Go.Ground.phase }, { on := 5, ground := Go.Ground.phase }, { on := 6, ground := Go.Ground.phase }], guard := none } from rfl]
            refine wp_region_last (S := fun w' => w'.cell? ⟨w3.heap.size, 16, none⟩ = some (.slice (some ⟨g5, 0, none⟩) m.node.l.length cp5) ∧ w'.cell? ⟨W.heap.size + 1, a, none⟩ = some (.int .i64 (x : Int))) (by kernel_rfl) (by kernel_rfl) (show wr.drew.cell? _ = _ ∧ wr.drew.cell? _ = _ from ⟨d3, d2⟩) (fun hHeld => ?_)
            refine wpAnyH_take (i := 0) (oi := { dst := some 46, op := Go.Op.fieldAddr 43 (Go.Operand.tmp 10) 6, type := 0, pos := "plan.go:90", after := #[], guard := none }) (v := ?v1) rfl (by kernel_rfl) (by kernel_rfl) (by kernel_rfl) (fun _ _ _ h => h) (Or.inl ⟨by rfl, ?hy1⟩) (by assumption) ?rest1
            case hy1 =>
              intro w hSw
              (try dsimp only at hSw)
              go_simp
              try with_reducible rfl
            try simp only [Act.put, List.setIfInBounds_toArray, List.set_cons_zero, List.set_cons_succ]
            refine wpAnyH_take (i := 1) (oi := { dst := some 47, op := Go.Op.load 39 (Go.Operand.tmp 46), type := 39, pos := "plan.go:90", after := #[{ on := 0, ground := Go.Ground.data }], guard := none }) (v := ?v2) rfl (by kernel_rfl) (by kernel_rfl) (by kernel_rfl) (fun _ _ _ h => h) (Or.inl ⟨by rfl, ?hy2⟩) (by assumption) ?rest2
            case hy2 =>
              intro w hSw
              (try dsimp only at hSw)
              go_simp
              try with_reducible rfl
            try simp only [Act.put, List.setIfInBounds_toArray, List.set_cons_zero, List.set_cons_succ]
            refine wpAnyH_take (i := 2) (oi := { dst := some 48, op := Go.Op.move (Go.Operand.tmp 11), type := 3, pos := "plan.go:90", after := #[], guard := none }) (v := ?v3) rfl (by kernel_rfl) (by kernel_rfl) (by kernel_rfl) (fun _ _ _ h => h) (Or.inl ⟨by rfl, ?hy3⟩) (by assumption) ?rest3
            case hy3 =>
              intro w hSw
              (try dsimp only at hSw)
              go_simp
              try with_reducible rfl
            try simp only [Act.put, List.setIfInBounds_toArray, List.set_cons_zero, List.set_cons_succ]
            refine wpAnyH_take (i := 3) (oi := { dst := some 49, op := Go.Op.move (Go.Operand.tmp 7), type := 39, pos := "plan.go:90", after := #[], guard := none }) (v := ?v4) rfl (by kernel_rfl) (by kernel_rfl) (by kernel_rfl) (fun _ _ _ h => h) (Or.inl ⟨by rfl, ?hy4⟩) (by assumption) ?rest4
            case hy4 =>
              intro w hSw
              (try dsimp only at hSw)
              go_simp
              try with_reducible rfl
            try simp only [Act.put, List.setIfInBounds_toArray, List.set_cons_zero, List.set_cons_succ]
            refine wpAnyH_take (i := 4) (oi := { dst := some 50, op := Go.Op.move (Go.Operand.tmp 12), type := 3, pos := "plan.go:90", after := #[], guard := none }) (v := ?v5) rfl (by kernel_rfl) (by kernel_rfl) (by kernel_rfl) (fun _ _ _ h => h) (Or.inl ⟨by rfl, ?hy5⟩) (by assumption) ?rest5
            case hy5 =>
              intro w hSw
              (try dsimp only at hSw)
              go_simp
              try with_reducible rfl
            try simp only [Act.put, List.setIfInBounds_toArray, List.set_cons_zero, List.set_cons_succ]
            refine wpAnyH_take (i := 5) (oi := { dst := some 51, op := Go.Op.indexAddr 39 (Go.Operand.tmp 49) (Go.Operand.tmp 50), type := 0, pos := "plan.go:90", after := #[{ on := 3, ground := Go.Ground.data }, { on := 4, ground := Go.Ground.data }], guard := none }) (v := ?v6) rfl (by kernel_rfl) (by kernel_rfl) (by kernel_rfl) (fun _ _ _ h => h) (Or.inl ⟨by rfl, ?hy6⟩) (by assumption) ?rest6
            case hy6 =>
              intro w hSw
              (try dsimp only at hSw)
              go_simp
              try with_reducible rfl
            try simp only [Act.put, List.setIfInBounds_toArray, List.set_cons_zero, List.set_cons_succ]
            refine wpAnyH_take (i := 6) (oi := { dst := some 52, op := Go.Op.load 3 (Go.Operand.tmp 51), type := 3, pos := "plan.go:90", after := #[{ on := 5, ground := Go.Ground.data }], guard := none }) (v := ?v7) rfl (by kernel_rfl) (by kernel_rfl) (by kernel_rfl) (fun _ _ _ h => h) (Or.inl ⟨by rfl, ?hy7⟩) (by assumption) ?rest7
            case hy7 =>
              intro w hSw
              (try dsimp only at hSw)
              go_simp
              try with_reducible rfl
            try simp only [Act.put, List.setIfInBounds_toArray, List.set_cons_zero, List.set_cons_succ]
            refine wpAnyH_take (i := 7) (oi := { dst := some 53, op := Go.Op.indexAddr 39 (Go.Operand.tmp 47) (Go.Operand.tmp 48), type := 0, pos := "plan.go:90", after := #[{ on := 1, ground := Go.Ground.data }, { on := 2, ground := Go.Ground.data }, { on := 0, ground := Go.Ground.phase }, { on := 1, ground := Go.Ground.phase }, { on := 2, ground := Go.Ground.phase }, { on := 3, ground := Go.Ground.phase }, { on := 4, ground := Go.Ground.phase }, { on := 5, ground := Go.Ground.phase }, { on := 6, ground := Go.Ground.phase }], guard := none }) (v := ?v8) rfl (by kernel_rfl) (by kernel_rfl) (by kernel_rfl) (fun _ _ _ h => h) (Or.inl ⟨by rfl, ?hy8⟩) (by assumption) ?rest8
            case hy8 =>
              intro w hSw
              (try dsimp only at hSw)
              go_simp
              try with_reducible rfl
            try simp only [Act.put, List.setIfInBounds_toArray, List.set_cons_zero, List.set_cons_succ]
            refine wpAnyH_done (by kernel_rfl) ?_ _
            refine then_step (fun K hK => ?_)
            go_simp
            refine hK.out _ _ ?_
            clear hK K
            go_wp2_with fail
            go_roundg (m.node.l.length - k)
            case measure => omega
            case rel => exact ⟨k + 1, by omega, by omega, rfl, (HBW.out.setCell (p := ⟨g5, k, none⟩) HG5.out _).drew, by rw [← HRN.out]; exact HS6.out.1⟩
          · have hke : k = m.node.l.length := by omega
            subst hke
            have p1 : ¬ (m.node.l.length : Int) < (m.node.l.length : Int) := by omega
            have p2 : decide ((m.node.l.length : Int) < (m.node.l.length : Int)) = false := decide_eq_false p1
            obtain ⟨o8, cp8, rfl⟩ : ∃ o cap, u8 = .slice o (takeP ns so made i).2.length cap := by
              obtain ⟨_, _, ho, _⟩ := HT6.out.out
              exact row_slice ho
            obtain ⟨y, hy⟩ : ∃ y, ((takeP ns so made i).1)[i]? = some y := ⟨_, List.getElem?_eq_getElem (by rw [HT6.out.nl]; exact hlt)⟩
            have d2 : wr.cell? ⟨W.heap.size + 1, i, none⟩ = some (.int .i64 (y : Int)) := by
              rw [HT6.out.nb.cell i]
              simp [intsL, hy]
            have e1 := HT6.out.nb.free i
            have p3 : (0 : Int) ≤ (i : Int) := by omega
            obtain ⟨w7, hw7⟩ : ∃ w7, w7 = wr.setCell ⟨W.heap.size + 1, i, none⟩ (.int .i64 ((takeP ns so made i).2.length : Int)) := ⟨_, rfl⟩
            have HX7 := Lib.hid (show Blk w7 w3.heap.size 43 _ from hw7 ▸ HX2.out.far (p := ⟨W.heap.size + 1, i, none⟩) (by have := HLT.out.2.1; intro e; dsimp only at e; omega) _)
            have HW7 := Lib.hid hw7
            obtain ⟨cs, hcs⟩ : ∃ cs, cs = ({ m with lv := .slice p5 m.node.l.length cp5 } : NodeM).cells := ⟨_, rfl⟩
            have hcl : cs.length = 19 := by rw [hcs]; rfl
            have HXC := Lib.hid (show Blk w7 w3.heap.size 43 cs.toArray by rw [hcs]; exact HX7.out)
            have HCS := Lib.hid (And.intro hcs hcl)
            have hsz : (Try.prog.info? 43).map (·.size) = some cs.length := by rw [hcl]; exact sizeNode
            have HSZ := Lib.hid hsz
            clear hrow hbw hy hw7 hcs hcl hsz
            have hbs := fold_nd cs HCS.out.2
            obtain ⟨i0, hi0, hz0, hz1, hz2⟩ := info_parts infoNode
            have HT7 := Lib.hid (show TK W ns.length ((takeP ns so made i).1.set i (takeP ns so made i).2.length) (takeP ns so made i).2 _ w7 from HW7.out ▸ HT6.out.put)
            obtain ⟨wb, hwb⟩ : ∃ wb, wb = w7.alloc (.cells cs.toArray 43) := ⟨_, rfl⟩
            have hbb : Below w7.heap.size w7 wb := by rw [hwb]; exact (Below.refl _ _).alloc (Nat.le_refl _) _
            have HTB := Lib.hid (HT7.out.kept hbb)
            obtain ⟨mso, ho1, ho2, ho3⟩ := HTB.out.out
            obtain ⟨m2, hm2⟩ : ∃ m2 : NodeM, m2 = ⟨{ m.node with l := ren (takeP ns so made i).1 m.node.l m.node.l.length }, .slice p5 m.node.l.length cp5, m.nv, m.av⟩ := ⟨_, rfl⟩
            have hcm : cs = m2.cells := by rw [hm2]; exact HCS.out.1
            have hl2 : wb.ownsRow (W.heap.size + 2) 3 1 m2.lv m2.node.l.length (intsL m2.node.l) := by
              rw [hm2]
              dsimp only
              rw [ren_len]
              have r7 : w7.ownsRow w4.heap.size 3 1 (.slice p5 m.node.l.length cp5) m.node.l.length (intsL (ren (takeP ns so made i).1 m.node.l m.node.l.length)) := by
                rw [HW7.out]
                exact ownsRow_setCell_below HRW.out (a := ⟨W.heap.size + 1, i, none⟩) (Nat.lt_trans HLT.out.2.1 HLT.out.1) _
              refine own_kept ⟨r7.1, ?_⟩ hbb
              rcases r7.2 with e | ⟨g9, c9, u9, q1, q2, q3⟩
              · exact .inl e
              · exact .inr ⟨g9, c9, u9, q1, by have := HLT.out.1; have := HLT.out.2.1; omega, q3⟩
            have hfar : ∀ {e size n : Nat} {v : Value} {xs : List Value}, e ≠ 43 → e ≠ 3 → w4.ownsRow b e size v n xs → w5.ownsRow b e size v n xs → wb.ownsRow 0 e size v n xs := fun he he2 r4 r5 =>
              own_zero (own_kept (HW7.out ▸ row_far (own_low (HB6.out _ _ _ _ _ r5 he) (fun k hk => (r4.lt k hk).2) HBW.out) HT6.out.nb he2 i _) hbb)
            have hmk : MOk wb 0 m2 := by
              rw [hm2] at hl2 ⊢
              exact ⟨own_zero hl2, hfar (by decide) (by decide) HK4.out.names HK5.out.names, hfar (by decide) (by decide) HK4.out.aggs HK5.out.aggs⟩
            have HMO := Lib.hid (And.intro ho1 (And.intro ho2 ho3))
            have HM2 := Lib.hid (And.intro hmk (And.intro hl2 (And.intro hcm (show m2.node = { made i with l := (made i).l.map fun a => ((takeP ns so made i).1[a]?).getD 0 } by rw [hm2]; dsimp only; rw [ren_all, HK.out.1]))))
            have hone2 : ∀ u ∈ cs, u.oneCell' = true := by rw [hcm]; exact one_cells m2 hmk
            have HN := Lib.hid (show ∀ (j : Nat) u, cs[j]? = some u → wb.cell? ((⟨w7.heap.size, 0, none⟩ : Addr).add j) = some u by
              intro j u hu
              rw [hwb]
              exact blk_cells (Blk.new w7 43 cs.toArray) j u (by simpa using hu))
            have hw7s : w7.heap.size = wr.heap.size := by rw [HW7.out]; simp [World.setCell]
            have hol : (takeP ns so made i).2.length ≤ 128 := by
              exact Nat.le_trans (take_le ns so made i) (by omega)
            have HWB := Lib.hid (show (wr.setCell ⟨W.heap.size + 1, i, none⟩ (.int .i64 ((takeP ns so made i).2.length : Int))).alloc (.cells cs.toArray 43) = wb by rw [hwb, HW7.out])
            have HH := Lib.hid (show W.heap.size + 2 ≤ wb.heap.size from HTB.out.nb.lt)
            rw [hw7s] at HN
            have hcl1 : cs.length = 1 * 19 := HCS.out.2
            clear hwb hbb ho1 ho2 ho3 hm2 hcm hl2 hmk hfar hw7s
            go_wp2_with (first
              | (refine wpList_load_mid (by rfl) 43 (.tmp 10) (by rfl) w3.heap.size 0 (by rfl) cs _ (by rw [← HW7.out]; exact box_range HXC.out) undNode (by rfl) HSZ.out ?_)
              | (rw [HWB.out]
                 at_builtin
                 refine wpList_append_own _ rfl _ _ _ rfl (W.heap.size + 2) 43 i0 _ 19 216 (by kernel_rfl) hi0 hz0 hz1 hz2 rfl (by decide) _ (takeP ns so made i).2.length (cellsM mso) rfl HMO.out.2.1 ⟨wr.heap.size, 0, none⟩ 1 1 cs rfl hcl1 HN.out hone2 (by simp only [maxLen]; omega) (by omega) HH.out ?_
                 intro v' w' ho hgr _
                 have HF := Lib.hid (HTB.out.grow HMO.out.1 HMO.out.2.1 HMO.out.2.2 HM2.out.1 HM2.out.2.1 hgr (by rw [← HM2.out.2.2.1]; exact ho))
                 clear ho hgr))
            go_roundg (ns.length - i)
            case measure => omega
            case rel => exact ⟨i + 1, by omega, by omega, rfl, by rw [HY.out, ← HM2.out.2.2.2]; exact HF.out⟩
    · have n1 : ¬ (i : Int) < (ns.length : Int) := by omega
      have n3 : decide ((i : Int) < (ns.length : Int)) = false := decide_eq_false n1
      have hin : i = ns.length := by omega
      subst hin
      have f0 := htk.qb.free 0
      have c6 : wr.cell? ⟨W.heap.size, 0, none⟩ = some (.slice none 0 0) := htk.qb.cell 0
      have HQ := Lib.hid htk
      obtain ⟨o8, cap8, rfl⟩ : ∃ o cap, u8 = .slice o (takeP ns so made ns.length).2.length cap := by
        obtain ⟨_, _, ho, _⟩ := htk.out
        exact row_slice ho
      clear htk
      go_wp2_with fail
      exact bodyPost_ret (results_cell_row rfl _ _ W.heap.size 25 #[.slice o8 (takeP ns so made ns.length).2.length cap8] (0, 0) _ (by rfl) (HQ.out.qb.put 0 _) undQuery (by rfl) sizeQuery) rfl ⟨_, rfl, by
        obtain ⟨ms, h1, h2, h3⟩ := HQ.out.out
        exact ⟨ms, h1, row_far h2 HQ.out.qb (by decide) 0 _, fun m hm => by
          obtain ⟨k1, k2⟩ := h3 m hm
          exact ⟨⟨row_far k1.l HQ.out.qb (by decide) 0 _, row_far k1.names HQ.out.qb (by decide) 0 _, row_far k1.aggs HQ.out.qb (by decide) 0 _⟩, row_far k2 HQ.out.qb (by decide) 0 _⟩⟩, HQ.out.low.setCell (p := ⟨W.heap.size, 0, none⟩) (Nat.le_refl _) _⟩
set_option maxRecDepth 100000 in
theorem take_rest (h : SM W sp g cap ns bb pb by_ part)
    (hso : ∀ W1 i, Below W.heap.size W W1 → i < ns.length → Calls Try.prog 20 #[.int .i64 ((i : Nat) : Int), .pointer (some f1), .pointer (some f2)] W1 fun e W2 => e = .returned (.bool (so i)) ∧ Drawn W1 W2)
    (hmade : ∀ W1 i, Below W.heap.size W W1 → i < ns.length → so i = true → Calls Try.prog 21 #[.int .i64 ((i : Nat) : Int), .pointer (some m1)] W1 (NodeR W1 (made i)))
    (hl : ∀ i, i < ns.length → so i = true → (made i).l.length ≤ 2 ∧ ∀ x ∈ (made i).l, x < ns.length) :
    Calls Try.prog 18 #[RP sp, .func (.func 20) #[] #[.pointer (some f1), .pointer (some f2)], .func (.func 21) #[] #[.pointer (some m1)]] W (TakeR W (takeP ns so made ns.length).2) := by
  have c0 : W.cell? ⟨sp, 0, none⟩ = some (.slice (some ⟨g, 0, none⟩) ns.length cap) := h.box.cell 0
  have hs0 := h.small
  have HS := Lib.hid h
  have HSO := Lib.hid hso
  have HMD := Lib.hid hmade
  have HL := Lib.hid hl
  clear h hso hmade hl
  go_enter Try.func18, Try.ntmps18
  have hmk := make_ints (W.alloc (.cells #[.slice none 0 0] 25)) hs0
  have hwz : (W.alloc (.cells #[.slice none 0 0] 25)).heap.size = W.heap.size + 1 := by
    show (W.heap.push _).size = _
    rw [Array.size_push]
  rw [hwz] at hmk
  obtain ⟨W1, hW1⟩ : ∃ W1, W1 = (W.alloc (.cells #[.slice none 0 0] 25)).alloc (.cells (intsL (List.replicate ns.length 0)).toArray 3) := ⟨_, rfl⟩
  rw [← hW1] at hmk
  have hb1 : Below W.heap.size W W1 := by rw [hW1]; exact ((Below.refl _ _).alloc (Nat.le_refl _) _).alloc (by rw [hwz]; exact Nat.le_succ _) _
  have c0b : W1.cell? ⟨sp, 0, none⟩ = some (.slice (some ⟨g, 0, none⟩) ns.length cap) := keepc hb1 c0
  have hk1 : TK W ns.length (List.replicate ns.length 0) [] (.slice none 0 0) W1 := ⟨hb1, by rw [hW1]; exact (Blk.new W _ _).alloc _, by rw [hW1, ← hwz]; exact Blk.new _ _ _, by simp, NO.nil⟩
  have HK1 := Lib.hid hk1
  clear hW1 hwz hb1 hk1
  go_wp2_with fail
  go_loopg [8, 24] (ns.length + 1) (fun gk v c wr => ∃ i : Nat, i ≤ ns.length ∧ ns.length < i + gk ∧ c = .int .i64 (i : Int) ∧ TK W ns.length (takeP ns so made i).1 (takeP ns so made i).2 v wr)
  case atStart => exact ⟨0, Nat.zero_le _, by omega, rfl, HK1.out⟩
  case round =>
    obtain ⟨i, hi, hgk, rfl, htk⟩ := hrel
    have HT := Lib.hid htk
    by_cases hlt : i < ns.length
    · have n1 : (i : Int) < (ns.length : Int) := by omega
      have n3 : decide ((i : Int) < (ns.length : Int)) = true := decide_eq_true n1
      have w1_ : IntKind.i64.wrap ((i : Int) + 1) = (i : Int) + 1 := IntWalk.i64_in _ (by omega)
      have HC1 := Lib.hid (HSO.out wr i htk.low hlt)
      clear htk
      go_wp2_with fail
      refine HC1.out.mono ?_
      rintro e w2 ⟨rfl, hd2⟩
      have HT2 := Lib.hid (HT.out.kept hd2.below)
      cases hs : so i with
      | false =>
        have HN := Lib.hid (take_no (ns := ns) (made := made) hs)
        clear hs hd2
        go_wp2_with fail
        go_roundg (ns.length - i)
        case measure => omega
        case rel => exact ⟨i + 1, by omega, by omega, rfl, by rw [HN.out]; exact HT2.out⟩
      | true =>
        have HY := Lib.hid (take_yes (ns := ns) (made := made) hs)
        have HC2 := Lib.hid (HMD.out w2 i HT2.out.low hlt hs)
        have HLL := Lib.hid (HL.out i hlt hs)
        clear hs hd2
        go_wp2_with fail
        refine HC2.out.mono ?_
        rintro e w3 ⟨m, b, rfl, hm, hk, hb3⟩
        have HT3 := Lib.hid (HT2.out.kept hb3)
        have hth := nd_there w3
        have hone := hk.ones
        obtain ⟨pl, cl, hlv⟩ := row_slice hk.l
        have HK := Lib.hid (And.intro hm hk)
        have HLV := Lib.hid hlv
        clear hm hk hb3 hlv
        go_wp2_with (refine wpList_store_mid (by rfl) 43 (.tmp 10) (.tmp 33) (by rfl) w3.heap.size 0 m.cells.toArray (by rfl) (by rfl) hth sizeNode hone ?_
                     generalize hw4 : World.setCells _ _ _ _ = w4
                     have F4 := Lib.hid (nd_stored (m := m) hw4)
                     have c16 : w4.cell? ⟨w3.heap.size, 16, none⟩ = some (.slice pl m.node.l.length cl) := by
                       rw [← HLV.out]
                       exact F4.out.2.cell 16
                     clear hw4 hth hone)
        have HK4 := Lib.hid (HK.out.2.kept F4.out.1)
        have HT4 := Lib.hid (HT3.out.kept F4.out.1)
        have hcl := clone_row HK4.out.l (by rw [HK.out.1]; exact Nat.le_trans HLL.out.1 (by decide))
        rw [HLV.out] at hcl
        refine hcl.mono ?_
        rintro e w5 ⟨v5, rfl, ho5, hb5⟩
        have hx5 := F4.out.2.kept hb5
        have c16b : w5.cell? ⟨w3.heap.size, 16, none⟩ = some m.lv := hx5.cell 16
        have f16 := hx5.free 16
        obtain ⟨p5, cp5, rfl⟩ := row_slice ho5
        have HX5 := Lib.hid hx5
        have HT5 := Lib.hid (HT4.out.kept hb5)
        have HO5 := Lib.hid ho5
        have HK5 := Lib.hid (HK4.out.kept hb5)
        have hlt4 : w3.heap.size < w4.heap.size := F4.out.2.lt
        have hpos : W.heap.size + 1 < w3.heap.size := HT3.out.nb.lt
        have hsz5 : w4.heap.size ≤ w5.heap.size := hb5.size
        have HLT := Lib.hid (And.intro hlt4 (And.intro hpos hsz5))
        have HB5 := Lib.hid (Below.setCell (chain F4.out.1 hb5) (p := ⟨w3.heap.size, 16, none⟩) (Nat.le_refl _) (.slice p5 m.node.l.length cp5))
        have HX6 := Lib.hid (hx5.put 16 (.slice p5 m.node.l.length cp5))
        have HO6 := Lib.hid (row_far ho5 hx5 (by decide) 16 (.slice p5 m.node.l.length cp5))
        clear hx5 hb5 ho5 hcl c16 hlt4 hpos hsz5
        go_wp2_with fail
        obtain ⟨w6, hw6⟩ : ∃ w6, w6 = w5.setCell ⟨w3.heap.size, 16, none⟩ (.slice p5 m.node.l.length cp5) := ⟨_, rfl⟩
        have HX := Lib.hid (hw6 ▸ HX6.out)
        have HO := Lib.hid (hw6 ▸ HO6.out)
        have HB := Lib.hid (hw6 ▸ HB5.out)
        have HB6 := Lib.hid (show ∀ (e size n : Nat) (v : Value) (xs : List Value), w5.ownsRow b e size v n xs → e ≠ 43 → w6.ownsRow b e size v n xs from fun _ _ _ _ _ r he => hw6 ▸ row_far r HX5.out he 16 _)
        rw [← hw6]
        clear hw6 HX6 HO6 HB5
        go_loopg [41] (m.node.l.length + 1) (fun gi c wr2 => ∃ k : Nat, k ≤ m.node.l.length ∧ m.node.l.length < k + gi ∧ c = .int .i64 (k : Int) ∧ Below w4.heap.size w6 wr2 ∧ wr2.ownsRow w4.heap.size 3 1 (.slice p5 m.node.l.length cp5) m.node.l.length (intsL (ren (takeP ns so made i).1 m.node.l k)))
        case atStart => exact ⟨0, Nat.zero_le _, by omega, rfl, Below.refl _ _, by rw [ren_zero]; exact HO.out⟩
        case round =>
          obtain ⟨k, hk, hgi, rfl, hbw, hrow⟩ := hrel
          have HBW := Lib.hid hbw
          have HRW := Lib.hid hrow
          have HT6 := Lib.hid (HT3.out.kept (HB.out.trans (hbw.mono (Nat.le_of_lt HLT.out.1))))
          have HX2 := Lib.hid (HX.out.below hbw HLT.out.1)
          by_cases hkl : k < m.node.l.length
          · obtain ⟨a, ha⟩ : ∃ a, m.node.l[k]? = some a := ⟨m.node.l[k], List.getElem?_eq_getElem hkl⟩
            have han : a < ns.length := HLL.out.2 a (by rw [← HK.out.1]; exact List.mem_of_getElem? ha)
            obtain ⟨g5, cq5, he5⟩ := row_one HRW.out (Nat.lt_of_le_of_lt (Nat.zero_le k) hkl)
            injection he5 with he5 _ he6
            subst he5 he6
            obtain ⟨x, hx⟩ : ∃ x, ((takeP ns so made i).1)[a]? = some x := ⟨_, List.getElem?_eq_getElem (by rw [HT6.out.nl]; exact han)⟩
            have d1 : wr.cell? ⟨g5, k, none⟩ = some (.int .i64 (a : Int)) := by
              rw [HRW.out.cellAt k (by omega)]
              unfold intsL
              rw [List.getElem?_map, ren_get _ ha]
              rfl
            have d2 : wr.cell? ⟨W.heap.size + 1, a, none⟩ = some (.int .i64 (x : Int)) := by
              rw [HT6.out.nb.cell a]
              simp [intsL, hx]
            have d3 : wr.cell? ⟨w3.heap.size, 16, none⟩ = some (.slice (some ⟨g5, 0, none⟩) m.node.l.length cp5) := HX2.out.cell 16
            have e1 := HRW.out.frozenAt k
            have HS6 := Lib.hid (HRW.out.stored k (.int .i64 (x : Int)))
            have HRN := Lib.hid (show (intsL (ren (takeP ns so made i).1 m.node.l k)).set k (.int .i64 (x : Int)) = intsL (ren (takeP ns so made i).1 m.node.l (k + 1)) by
              rw [← ren_set _ ha, hx]
              simp [intsL, List.map_set])
            have hg5 := (HRW.out.lt g5 rfl).1
            have HG5 := Lib.hid hg5
            have p1 : (k : Int) < (m.node.l.length : Int) := by omega
            have p2 : decide ((k : Int) < (m.node.l.length : Int)) = true := decide_eq_true p1
            have p3 : (0 : Int) ≤ (k : Int) := by omega
            have p4 : (0 : Int) ≤ (a : Int) := by omega
            have p5 : (a : Int) < (ns.length : Int) := by omega
            have w2_ : IntKind.i64.wrap ((k : Int) + 1) = (k : Int) + 1 := IntWalk.i64_in _ (by have := HLL.out.1; rw [← HK.out.1] at this; omega)
            clear hrow hbw ha hx hg5
            go_wp2_with fail
            rw [show (#[{ dst := some 46, op := Go.Op.fieldAddr 43 (Go.Operand.tmp 10) 6, type := 0, pos := "plan.go:90", after := #[], guard := none }, { dst := some 47, op := Go.Op.load 39 (Go.Operand.tmp 46), type := 39, pos := "plan.go:90", after := #[{ on := 0, ground := Go.Ground.data }], guard := none }, { dst := some 48, op := Go.Op.move (Go.Operand.tmp 11), type := 3, pos := "plan.go:90", after := #[], guard := none }, { dst := some 49, op := Go.Op.move (Go.Operand.tmp 7), type := 39, pos := "plan.go:90", after := #[], guard := none }, { dst := some 50, op := Go.Op.move (Go.Operand.tmp 12), type := 3, pos := "plan.go:90", after := #[], guard := none }, { dst := some 51, op := Go.Op.indexAddr 39 (Go.Operand.tmp 49) (Go.Operand.tmp 50), type := 0, pos := "plan.go:90", after := #[{ on := 3, ground := Go.Ground.data }, { on := 4, ground := Go.Ground.data }], guard := none }, { dst := some 52, op := Go.Op.load 3 (Go.Operand.tmp 51), type := 3, pos := "plan.go:90", after := #[{ on := 5, ground := Go.Ground.data }], guard := none }, { dst := some 53, op := Go.Op.indexAddr 39 (Go.Operand.tmp 47) (Go.Operand.tmp 48), type := 0, pos := "plan.go:90", after := #[{ on := 1, ground := Go.Ground.data }, { on := 2, ground := Go.Ground.data }, { on := 0, ground := Go.Ground.phase }, { on := 1, ground := Go.Ground.phase }, { on := 2, ground := Go.Ground.phase }, { on := 3, ground := Go.Ground.phase }, { on := 4, ground := Go.Ground.phase }, { on := 5, ground := Go.Ground.phase }, { on := 6, ground := Go.Ground.phase }], guard := none }, { dst := none, op := Go.Op.store 3 (Go.Operand.tmp 53) (Go.Operand.tmp 52), type := 0, pos := "plan.go:90", after := #[{ on := 7, ground := Go.Ground.data }, { on := 6, ground := Go.Ground.data }, { on := 0, ground := Go.Ground.phase }, { on := 1, ground := Go.Ground.phase }, { on := 2, ground := Go.Ground.phase }, { on := 3, ground := Go.Ground.phase }, { on := 4, ground := Go.Ground.phase }, { on := 5, ground := Go.Ground.phase }, { on := 6, ground := Go.Ground.phase }], guard := none }] : Array Oper) = Array.push #[{ dst := some 46, op := Go.Op.fieldAddr 43 (Go.Operand.tmp 10) 6, type := 0, pos := "plan.go:90", after := #[], guard := none }, { dst := some 47, op := Go.Op.load 39 (Go.Operand.tmp 46), type := 39, pos := "plan.go:90", after := #[{ on := 0, ground := Go.Ground.data }], guard := none }, { dst := some 48, op := Go.Op.move (Go.Operand.tmp 11), type := 3, pos := "plan.go:90", after := #[], guard := none }, { dst := some 49, op := Go.Op.move (Go.Operand.tmp 7), type := 39, pos := "plan.go:90", after := #[], guard := none }, { dst := some 50, op := Go.Op.move (Go.Operand.tmp 12), type := 3, pos := "plan.go:90", after := #[], guard := none }, { dst := some 51, op := Go.Op.indexAddr 39 (Go.Operand.tmp 49) (Go.Operand.tmp 50), type := 0, pos := "plan.go:90", after := #[{ on := 3, ground := Go.Ground.data }, { on := 4, ground := Go.Ground.data }], guard := none }, { dst := some 52, op := Go.Op.load 3 (Go.Operand.tmp 51), type := 3, pos := "plan.go:90", after := #[{ on := 5, ground := Go.Ground.data }], guard := none }, { dst := some 53, op := Go.Op.indexAddr 39 (Go.Operand.tmp 47) (Go.Operand.tmp 48), type := 0, pos := "plan.go:90", after := #[{ on := 1, ground := Go.Ground.data }, { on := 2, ground := Go.Ground.data }, { on := 0, ground := Go.Ground.phase }, { on := 1, ground := Go.Ground.phase }, { on := 2, ground := Go.Ground.phase }, { on := 3, ground := Go.Ground.phase }, { on := 4, ground := Go.Ground.phase }, { on := 5, ground := Go.Ground.phase }, { on := 6, ground := Go.Ground.phase }], guard := none }] { dst := none, op := Go.Op.store 3 (Go.Operand.tmp 53) (Go.Operand.tmp 52), type := 0, pos := "plan.go:90", after := #[{ on := 7, ground := Go.Ground.data }, { on := 6, ground := Go.Ground.data }, { on := 0, ground := Go.Ground.phase }, { on := 1, ground := Go.Ground.phase }, { on := 2, ground := Go.Ground.phase }, { on := 3, ground := Go.Ground.phase }, { on := 4, ground := Go.Ground.phase }, { on := 5, ground := Go.Ground.phase }, { on := 6, ground := Go.Ground.phase }], guard := none } from rfl]
            refine wp_region_last (S := fun w' => w'.cell? ⟨w3.heap.size, 16, none⟩ = some (.slice (some ⟨g5, 0, none⟩) m.node.l.length cp5) ∧ w'.cell? ⟨W.heap.size + 1, a, none⟩ = some (.int .i64 (x : Int))) (by kernel_rfl) (by kernel_rfl) (show wr.drew.cell? _ = _ ∧ wr.drew.cell? _ = _ from ⟨d3, d2⟩) (fun hHeld => ?_)
            refine wpAnyH_take (i := 0) (oi := { dst := some 46, op := Go.Op.fieldAddr 43 (Go.Operand.tmp 10) 6, type := 0, pos := "plan.go:90", after := #[], guard := none }) (v := ?v1) rfl (by kernel_rfl) (by kernel_rfl) (by kernel_rfl) (fun _ _ _ h => h) (Or.inl ⟨by rfl, ?hy1⟩) (by assumption) ?rest1
            case hy1 =>
              intro w hSw
              (try dsimp only at hSw)
              go_simp
              try with_reducible rfl
            try simp only [Act.put, List.setIfInBounds_toArray, List.set_cons_zero, List.set_cons_succ]
            refine wpAnyH_take (i := 1) (oi := { dst := some 47, op := Go.Op.load 39 (Go.Operand.tmp 46), type := 39, pos := "plan.go:90", after := #[{ on := 0, ground := Go.Ground.data }], guard := none }) (v := ?v2) rfl (by kernel_rfl) (by kernel_rfl) (by kernel_rfl) (fun _ _ _ h => h) (Or.inl ⟨by rfl, ?hy2⟩) (by assumption) ?rest2
            case hy2 =>
              intro w hSw
              (try dsimp only at hSw)
              go_simp
              try with_reducible rfl
            try simp only [Act.put, List.setIfInBounds_toArray, List.set_cons_zero, List.set_cons_succ]
            refine wpAnyH_take (i := 2) (oi := { dst := some 48, op := Go.Op.move (Go.Operand.tmp 11), type := 3, pos := "plan.go:90", after := #[], guard := none }) (v := ?v3) rfl (by kernel_rfl) (by kernel_rfl) (by kernel_rfl) (fun _ _ _ h => h) (Or.inl ⟨by rfl, ?hy3⟩) (by assumption) ?rest3
            case hy3 =>
              intro w hSw
              (try dsimp only at hSw)
              go_simp
              try with_reducible rfl
            try simp only [Act.put, List.setIfInBounds_toArray, List.set_cons_zero, List.set_cons_succ]
            refine wpAnyH_take (i := 3) (oi := { dst := some 49, op := Go.Op.move (Go.Operand.tmp 7), type := 39, pos := "plan.go:90", after := #[], guard := none }) (v := ?v4) rfl (by kernel_rfl) (by kernel_rfl) (by kernel_rfl) (fun _ _ _ h => h) (Or.inl ⟨by rfl, ?hy4⟩) (by assumption) ?rest4
            case hy4 =>
              intro w hSw
              (try dsimp only at hSw)
              go_simp
              try with_reducible rfl
            try simp only [Act.put, List.setIfInBounds_toArray, List.set_cons_zero, List.set_cons_succ]
            refine wpAnyH_take (i := 4) (oi := { dst := some 50, op := Go.Op.move (Go.Operand.tmp 12), type := 3, pos := "plan.go:90", after := #[], guard := none }) (v := ?v5) rfl (by kernel_rfl) (by kernel_rfl) (by kernel_rfl) (fun _ _ _ h => h) (Or.inl ⟨by rfl, ?hy5⟩) (by assumption) ?rest5
            case hy5 =>
              intro w hSw
              (try dsimp only at hSw)
              go_simp
              try with_reducible rfl
            try simp only [Act.put, List.setIfInBounds_toArray, List.set_cons_zero, List.set_cons_succ]
            refine wpAnyH_take (i := 5) (oi := { dst := some 51, op := Go.Op.indexAddr 39 (Go.Operand.tmp 49) (Go.Operand.tmp 50), type := 0, pos := "plan.go:90", after := #[{ on := 3, ground := Go.Ground.data }, { on := 4, ground := Go.Ground.data }], guard := none }) (v := ?v6) rfl (by kernel_rfl) (by kernel_rfl) (by kernel_rfl) (fun _ _ _ h => h) (Or.inl ⟨by rfl, ?hy6⟩) (by assumption) ?rest6
            case hy6 =>
              intro w hSw
              (try dsimp only at hSw)
              go_simp
              try with_reducible rfl
            try simp only [Act.put, List.setIfInBounds_toArray, List.set_cons_zero, List.set_cons_succ]
            refine wpAnyH_take (i := 6) (oi := { dst := some 52, op := Go.Op.load 3 (Go.Operand.tmp 51), type := 3, pos := "plan.go:90", after := #[{ on := 5, ground := Go.Ground.data }], guard := none }) (v := ?v7) rfl (by kernel_rfl) (by kernel_rfl) (by kernel_rfl) (fun _ _ _ h => h) (Or.inl ⟨by rfl, ?hy7⟩) (by assumption) ?rest7
            case hy7 =>
              intro w hSw
              (try dsimp only at hSw)
              go_simp
              try with_reducible rfl
            try simp only [Act.put, List.setIfInBounds_toArray, List.set_cons_zero, List.set_cons_succ]
            refine wpAnyH_take (i := 7) (oi := { dst := some 53, op := Go.Op.indexAddr 39 (Go.Operand.tmp 47) (Go.Operand.tmp 48), type := 0, pos := "plan.go:90", after := #[{ on := 1, ground := Go.Ground.data }, { on := 2, ground := Go.Ground.data }, { on := 0, ground := Go.Ground.phase }, { on := 1, ground := Go.Ground.phase }, { on := 2, ground := Go.Ground.phase }, { on := 3, ground := Go.Ground.phase }, { on := 4, ground := Go.Ground.phase }, { on := 5, ground := Go.Ground.phase }, { on := 6, ground := Go.Ground.phase }], guard := none }) (v := ?v8) rfl (by kernel_rfl) (by kernel_rfl) (by kernel_rfl) (fun _ _ _ h => h) (Or.inl ⟨by rfl, ?hy8⟩) (by assumption) ?rest8
            case hy8 =>
              intro w hSw
              (try dsimp only at hSw)
              go_simp
              try with_reducible rfl
            try simp only [Act.put, List.setIfInBounds_toArray, List.set_cons_zero, List.set_cons_succ]
            refine wpAnyH_done (by kernel_rfl) ?_ _
            refine then_step (fun K hK => ?_)
            go_simp
            refine hK.out _ _ ?_
            clear hK K
            go_wp2_with fail
            go_roundg (m.node.l.length - k)
            case measure => omega
            case rel => exact ⟨k + 1, by omega, by omega, rfl, (HBW.out.setCell (p := ⟨g5, k, none⟩) HG5.out _).drew, by rw [← HRN.out]; exact HS6.out.1⟩
          · have hke : k = m.node.l.length := by omega
            subst hke
            have p1 : ¬ (m.node.l.length : Int) < (m.node.l.length : Int) := by omega
            have p2 : decide ((m.node.l.length : Int) < (m.node.l.length : Int)) = false := decide_eq_false p1
            obtain ⟨o8, cp8, rfl⟩ : ∃ o cap, u8 = .slice o (takeP ns so made i).2.length cap := by
              obtain ⟨_, _, ho, _⟩ := HT6.out.out
              exact row_slice ho
            obtain ⟨y, hy⟩ : ∃ y, ((takeP ns so made i).1)[i]? = some y := ⟨_, List.getElem?_eq_getElem (by rw [HT6.out.nl]; exact hlt)⟩
            have d2 : wr.cell? ⟨W.heap.size + 1, i, none⟩ = some (.int .i64 (y : Int)) := by
              rw [HT6.out.nb.cell i]
              simp [intsL, hy]
            have e1 := HT6.out.nb.free i
            have p3 : (0 : Int) ≤ (i : Int) := by omega
            obtain ⟨w7, hw7⟩ : ∃ w7, w7 = wr.setCell ⟨W.heap.size + 1, i, none⟩ (.int .i64 ((takeP ns so made i).2.length : Int)) := ⟨_, rfl⟩
            have HX7 := Lib.hid (show Blk w7 w3.heap.size 43 _ from hw7 ▸ HX2.out.far (p := ⟨W.heap.size + 1, i, none⟩) (by have := HLT.out.2.1; intro e; dsimp only at e; omega) _)
            have HW7 := Lib.hid hw7
            obtain ⟨cs, hcs⟩ : ∃ cs, cs = ({ m with lv := .slice p5 m.node.l.length cp5 } : NodeM).cells := ⟨_, rfl⟩
            have hcl : cs.length = 19 := by rw [hcs]; rfl
            have HXC := Lib.hid (show Blk w7 w3.heap.size 43 cs.toArray by rw [hcs]; exact HX7.out)
            have HCS := Lib.hid (And.intro hcs hcl)
            have hsz : (Try.prog.info? 43).map (·.size) = some cs.length := by rw [hcl]; exact sizeNode
            have HSZ := Lib.hid hsz
            clear hrow hbw hy hw7 hcs hcl hsz
            have hbs := fold_nd cs HCS.out.2
            obtain ⟨i0, hi0, hz0, hz1, hz2⟩ := info_parts infoNode
            have HT7 := Lib.hid (show TK W ns.length ((takeP ns so made i).1.set i (takeP ns so made i).2.length) (takeP ns so made i).2 _ w7 from HW7.out ▸ HT6.out.put)
            obtain ⟨wb, hwb⟩ : ∃ wb, wb = w7.alloc (.cells cs.toArray 43) := ⟨_, rfl⟩
            have hbb : Below w7.heap.size w7 wb := by rw [hwb]; exact (Below.refl _ _).alloc (Nat.le_refl _) _
            have HTB := Lib.hid (HT7.out.kept hbb)
            obtain ⟨mso, ho1, ho2, ho3⟩ := HTB.out.out
            obtain ⟨m2, hm2⟩ : ∃ m2 : NodeM, m2 = ⟨{ m.node with l := ren (takeP ns so made i).1 m.node.l m.node.l.length }, .slice p5 m.node.l.length cp5, m.nv, m.av⟩ := ⟨_, rfl⟩
            have hcm : cs = m2.cells := by rw [hm2]; exact HCS.out.1
            have hl2 : wb.ownsRow (W.heap.size + 2) 3 1 m2.lv m2.node.l.length (intsL m2.node.l) := by
              rw [hm2]
              dsimp only
              rw [ren_len]
              have r7 : w7.ownsRow w4.heap.size 3 1 (.slice p5 m.node.l.length cp5) m.node.l.length (intsL (ren (takeP ns so made i).1 m.node.l m.node.l.length)) := by
                rw [HW7.out]
                exact ownsRow_setCell_below HRW.out (a := ⟨W.heap.size + 1, i, none⟩) (Nat.lt_trans HLT.out.2.1 HLT.out.1) _
              refine own_kept ⟨r7.1, ?_⟩ hbb
              rcases r7.2 with e | ⟨g9, c9, u9, q1, q2, q3⟩
              · exact .inl e
              · exact .inr ⟨g9, c9, u9, q1, by have := HLT.out.1; have := HLT.out.2.1; omega, q3⟩
            have hfar : ∀ {e size n : Nat} {v : Value} {xs : List Value}, e ≠ 43 → e ≠ 3 → w4.ownsRow b e size v n xs → w5.ownsRow b e size v n xs → wb.ownsRow 0 e size v n xs := fun he he2 r4 r5 =>
              own_zero (own_kept (HW7.out ▸ row_far (own_low (HB6.out _ _ _ _ _ r5 he) (fun k hk => (r4.lt k hk).2) HBW.out) HT6.out.nb he2 i _) hbb)
            have hmk : MOk wb 0 m2 := by
              rw [hm2] at hl2 ⊢
              exact ⟨own_zero hl2, hfar (by decide) (by decide) HK4.out.names HK5.out.names, hfar (by decide) (by decide) HK4.out.aggs HK5.out.aggs⟩
            have HMO := Lib.hid (And.intro ho1 (And.intro ho2 ho3))
            have HM2 := Lib.hid (And.intro hmk (And.intro hl2 (And.intro hcm (show m2.node = { made i with l := (made i).l.map fun a => ((takeP ns so made i).1[a]?).getD 0 } by rw [hm2]; dsimp only; rw [ren_all, HK.out.1]))))
            have hone2 : ∀ u ∈ cs, u.oneCell' = true := by rw [hcm]; exact one_cells m2 hmk
            have HN := Lib.hid (show ∀ (j : Nat) u, cs[j]? = some u → wb.cell? ((⟨w7.heap.size, 0, none⟩ : Addr).add j) = some u by
              intro j u hu
              rw [hwb]
              exact blk_cells (Blk.new w7 43 cs.toArray) j u (by simpa using hu))
            have hw7s : w7.heap.size = wr.heap.size := by rw [HW7.out]; simp [World.setCell]
            have hol : (takeP ns so made i).2.length ≤ 128 := by
              exact Nat.le_trans (take_le ns so made i) (by omega)
            have HWB := Lib.hid (show (wr.setCell ⟨W.heap.size + 1, i, none⟩ (.int .i64 ((takeP ns so made i).2.length : Int))).alloc (.cells cs.toArray 43) = wb by rw [hwb, HW7.out])
            have HH := Lib.hid (show W.heap.size + 2 ≤ wb.heap.size from HTB.out.nb.lt)
            rw [hw7s] at HN
            have hcl1 : cs.length = 1 * 19 := HCS.out.2
            clear hwb hbb ho1 ho2 ho3 hm2 hcm hl2 hmk hfar hw7s
            go_wp2_with (first
              | (refine wpList_load_mid (by rfl) 43 (.tmp 10) (by rfl) w3.heap.size 0 (by rfl) cs _ (by rw [← HW7.out]; exact box_range HXC.out) undNode (by rfl) HSZ.out ?_)
              | (rw [HWB.out]
                 at_builtin
                 refine wpList_append_own _ rfl _ _ _ rfl (W.heap.size + 2) 43 i0 _ 19 216 (by kernel_rfl) hi0 hz0 hz1 hz2 rfl (by decide) _ (takeP ns so made i).2.length (cellsM mso) rfl HMO.out.2.1 ⟨wr.heap.size, 0, none⟩ 1 1 cs rfl hcl1 HN.out hone2 (by simp only [maxLen]; omega) (by omega) HH.out ?_
                 intro v' w' ho hgr _
                 have HF := Lib.hid (HTB.out.grow HMO.out.1 HMO.out.2.1 HMO.out.2.2 HM2.out.1 HM2.out.2.1 hgr (by rw [← HM2.out.2.2.1]; exact ho))
                 clear ho hgr))
            go_roundg (ns.length - i)
            case measure => omega
            case rel => exact ⟨i + 1, by omega, by omega, rfl, by rw [HY.out, ← HM2.out.2.2.2]; exact HF.out⟩
    · have n1 : ¬ (i : Int) < (ns.length : Int) := by omega
      have n3 : decide ((i : Int) < (ns.length : Int)) = false := decide_eq_false n1
      have hin : i = ns.length := by omega
      subst hin
      have f0 := htk.qb.free 0
      have c6 : wr.cell? ⟨W.heap.size, 0, none⟩ = some (.slice none 0 0) := htk.qb.cell 0
      have HQ := Lib.hid htk
      obtain ⟨o8, cap8, rfl⟩ : ∃ o cap, u8 = .slice o (takeP ns so made ns.length).2.length cap := by
        obtain ⟨_, _, ho, _⟩ := htk.out
        exact row_slice ho
      clear htk
      go_wp2_with fail
      exact bodyPost_ret (results_cell_row rfl _ _ W.heap.size 25 #[.slice o8 (takeP ns so made ns.length).2.length cap8] (0, 0) _ (by rfl) (HQ.out.qb.put 0 _) undQuery (by rfl) sizeQuery) rfl ⟨_, rfl, by
        obtain ⟨ms, h1, h2, h3⟩ := HQ.out.out
        exact ⟨ms, h1, row_far h2 HQ.out.qb (by decide) 0 _, fun m hm => by
          obtain ⟨k1, k2⟩ := h3 m hm
          exact ⟨⟨row_far k1.l HQ.out.qb (by decide) 0 _, row_far k1.names HQ.out.qb (by decide) 0 _, row_far k1.aggs HQ.out.qb (by decide) 0 _⟩, row_far k2 HQ.out.qb (by decide) 0 _⟩⟩, HQ.out.low.setCell (p := ⟨W.heap.size, 0, none⟩) (Nat.le_refl _) _⟩
end
end Go.Proofs.Ytjpogmomgmjmbaa
