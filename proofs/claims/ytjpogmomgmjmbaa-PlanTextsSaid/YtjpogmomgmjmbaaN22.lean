/- A splitter that is being laid; the walk of plan's shaped. -/
import Derived.Test.YtjpogmomgmjmbaaN19
import Derived.Test.YtjpogmomgmjmbaaN20
import Derived.Test.YtjpogmomgmjmbaaN21
/-! A splitter that is being laid; the walk of plan's shaped. -/
namespace Go.Proofs.Ytjpogmomgmjmbaa
open Go.RowKit LexS ParS BigFrame
set_option maxHeartbeats 4000000
set_option linter.unusedVariables false
set_option linter.unusedSimpArgs false
attribute [local go_sem] World.cell?_alloc_some cell_drewN_new free_drewN_new cell_drew_new free_drew_new

theorem Mv.cell {W W' : World} {r g : Nat} (m : Mv r W W') (hlt : g < W.heap.size) (hne : g ≠ r) (i : Nat) : W'.cell? ⟨g, i, none⟩ = W.cell? ⟨g, i, none⟩ := by
  have h := m.block g hlt hne (by intro e; cases e)
  simp only [World.cell?, h]
theorem NR.mv {W W' : World} {sp : Nat} {v : Value} {ns : List Nd} {a : Option Addr} {n c : Nat} {cs : List Value} (h : NR W v ns) (hx : Blk W sp 55 (Value.slice a n c :: cs).toArray) (m : Mv sp W W') : NR W' v ns := by
  obtain ⟨p, cap, h1, h2, h3, h4⟩ := h
  refine ⟨p, cap, h1, h2, h3, fun hne => ?_⟩
  obtain ⟨g, hg, hc⟩ := h4 hne
  have c0 : W.cell? ⟨sp, 0, none⟩ = some (.slice a n c) := by rw [hx.cell 0]; simp
  have hgs : g ≠ sp := by
    rintro rfl
    obtain ⟨nd, hnd⟩ : ∃ nd, ns[0]? = some nd := ⟨ns[0]'(List.length_pos_iff.2 hne), List.getElem?_eq_getElem _⟩
    obtain ⟨m, b, _, _, hr⟩ := hc 0 nd hnd
    have := hr 0 _ rfl
    rw [Nat.zero_mul, c0] at this
    cases this
  refine ⟨g, hg, fun i nd hi => ?_⟩
  obtain ⟨m', b, e1, e2, e3⟩ := hc i nd hi
  have hrow : ∀ {e : TypeId} {size k : Nat} {v : Value} {xs : List Value}, e ≠ 55 → W.ownsRow b e size v k xs → W'.ownsRow b e size v k xs := by
    intro e size k v xs he ho
    refine row_mv ho m fun hk => ?_
    obtain ⟨cur, hcur⟩ := row_block ho hk
    exact he (block_types hcur hx)
  refine ⟨m', b, e1, ⟨hrow (by decide) e2.l, hrow (by decide) e2.names, hrow (by decide) e2.aggs⟩, fun j u hj => ?_⟩
  have := e3 j u hj
  rw [m.cell (World.block_lt_of_cell? W _ this) hgs]
  exact this
/-- A splitter that a call lays: all else is as it was. -/
structure SX (W wr : World) (sp g cap : Nat) (ns : List Nd) (bb pb : Nat) (by_ part : List Int) : Prop where
  mv : Mv sp W wr
  old : NR W (.slice (some ⟨g, 0, none⟩) ns.length cap) ns
  hc : ns.length ≤ cap
  ob : Blk W sp 55 #[.slice (some ⟨g, 0, none⟩) ns.length cap, .slice none 0 0, .slice none 0 0]
  box : Blk wr sp 55 #[.slice (some ⟨g, 0, none⟩) ns.length cap, .slice (some ⟨bb, 0, none⟩) ns.length ns.length, .slice (some ⟨pb, 0, none⟩) ns.length ns.length]
  kb : Blk wr bb 3 (intsZ by_).toArray
  kp : Blk wr pb 3 (intsZ part).toArray
  bge : W.heap.size ≤ bb
  pge : W.heap.size ≤ pb
  ne : bb ≠ pb
  bl : by_.length = ns.length
  pl : part.length = ns.length
  small : ns.length ≤ 128
section
variable {W wr w' : World} {sp g cap bb pb : Nat} {ns : List Nd} {by_ part : List Int}
theorem SX.sm (h : SX W wr sp g cap ns bb pb by_ part) : SM wr sp g cap ns bb pb by_ part := by
  exact ⟨h.box, h.old.mv (cs := [.slice none 0 0, .slice none 0 0]) h.ob h.mv, h.hc, h.kb, h.kp, h.bl, h.pl, h.small⟩
theorem Mv.kept {r : Nat} (m : Mv r W wr) (hb : Below wr.heap.size wr w') : Mv r W w' := m.trans (Stp.of hb)
theorem SX.kept (h : SX W wr sp g cap ns bb pb by_ part) (hb : Below wr.heap.size wr w') : SX W w' sp g cap ns bb pb by_ part :=
  ⟨h.mv.kept hb, h.old, h.hc, h.ob, h.box.kept hb, h.kb.kept hb, h.kp.kept hb, h.bge, h.pge, h.ne, h.bl, h.pl, h.small⟩
theorem SX.lt (h : SX W wr sp g cap ns bb pb by_ part) : sp < W.heap.size := h.ob.lt
theorem intsZ_set {l : List Int} {i : Nat} {x : Int} : (intsZ l).toArray.setIfInBounds i (.int .i64 x) = (intsZ (l.set i x)).toArray := by simp [intsZ, List.map_set]
theorem SX.put_by (h : SX W wr sp g cap ns bb pb by_ part) (i : Nat) (x : Int) : SX W (wr.setCell ⟨bb, i, none⟩ (.int .i64 x)) sp g cap ns bb pb (by_.set i x) part := by
  have hlt := h.lt
  have hge := h.bge
  refine ⟨h.mv.far hge i _, h.old, h.hc, h.ob, h.box.far (p := ⟨bb, i, none⟩) (by dsimp only; omega) _, ?_, h.kp.far (p := ⟨bb, i, none⟩) (fun e => h.ne e.symm) _, h.bge, h.pge, h.ne, by rw [List.length_set]; exact h.bl, h.pl, h.small⟩
  rw [← intsZ_set]
  exact h.kb.put i _
theorem SX.put_part (h : SX W wr sp g cap ns bb pb by_ part) (i : Nat) (x : Int) : SX W (wr.setCell ⟨pb, i, none⟩ (.int .i64 x)) sp g cap ns bb pb by_ (part.set i x) := by
  have hlt := h.lt
  have hge := h.pge
  refine ⟨h.mv.far hge i _, h.old, h.hc, h.ob, h.box.far (p := ⟨pb, i, none⟩) (by dsimp only; omega) _, h.kb.far (p := ⟨pb, i, none⟩) h.ne _, ?_, h.bge, h.pge, h.ne, h.bl, by rw [List.length_set]; exact h.pl, h.small⟩
  rw [← intsZ_set]
  exact h.kp.put i _
end
/-- What of a node is looked at, whatever of the splitter was laid meanwhile. -/
theorem sx_node {W wr : World} {sp g cap bb pb i : Nat} {ns : List Nd} {by_ part : List Int} {nd : Nd} (h : SX W wr sp g cap ns bb pb by_ part) (hi : ns[i]? = some nd) :
    ∃ (m : NodeM) (b : Nat) (pl : Option Addr) (cl : Nat), m.node = nd ∧ MOk wr b m ∧ wr.rangeAt g (i * 19) m.cells ∧ m.lv = .slice pl nd.l.length cl ∧
      ∀ (w2 : World) (b2 p2 : Nat) (y2 q2 : List Int), SX W w2 sp g cap ns b2 p2 y2 q2 → ∀ (j a : Nat), nd.l[j]? = some a → ∃ gl, pl = some ⟨gl, 0, none⟩ ∧ w2.cell? ⟨gl, j, none⟩ = some (.int .i64 (a : Int)) := by
  obtain ⟨m, b, hm, hk, hr⟩ := nr_range h.sm.nr hi
  obtain ⟨m0, b0, hm0, hk0, hr0⟩ := nr_range h.old hi
  have hsl : ∀ j, W.cell? ⟨sp, j, none⟩ = none ∨ ∃ o n c, W.cell? ⟨sp, j, none⟩ = some (.slice o n c) := by
    intro j
    rw [h.ob.cell j]
    match j with
    | 0 => exact .inr ⟨_, _, _, rfl⟩
    | 1 => exact .inr ⟨_, _, _, rfl⟩
    | 2 => exact .inr ⟨_, _, _, rfl⟩
    | j + 3 => exact .inl rfl
  have far : ∀ {g' j : Nat} {x : Int}, W.cell? ⟨g', j, none⟩ = some (.int .i64 x) → g' < W.heap.size ∧ g' ≠ sp := by
    intro g' j x hx
    refine ⟨World.block_lt_of_cell? W _ hx, ?_⟩
    rintro rfl
    rcases hsl j with e | ⟨o, n, c, e⟩
    · rw [e] at hx; cases hx
    · rw [e] at hx; cases hx
  obtain ⟨g1, g2⟩ := far (hr0 0 _ rfl)
  have e1 : wr.cell? ⟨g, i * 19 + 16, none⟩ = some m.lv := hr 16 _ rfl
  have e2 : W.cell? ⟨g, i * 19 + 16, none⟩ = some m0.lv := hr0 16 _ rfl
  rw [h.mv.cell g1 g2, e2] at e1
  injection e1 with e1
  have hl0 := hk0.l
  rw [hm0] at hl0
  obtain ⟨pl, cl, hl1, hl2, _, hl4⟩ := ints_row hl0
  refine ⟨m, b, pl, cl, hm, hk, hr, by rw [← e1]; exact hl1, fun w2 b2 p2 y2 q2 h2 j a hj => ?_⟩
  obtain ⟨gl, hgl, hcl⟩ := hl4 (by rintro e; rw [e] at hj; simp at hj)
  have hc := hcl j a hj
  obtain ⟨k1, k2⟩ := far hc
  exact ⟨gl, hgl, by rw [h2.mv.cell k1 k2]; exact hc⟩
theorem no_lone {w : World} {p : Nat} {ns : List Nd} (hq : QNs ns) (hs : ns.length ≤ 128) (hb : Blk w p 3 (intsZ (byS ns)).toArray) :
    Calls Try.prog 31 #[.slice (some ⟨p, 0, none⟩) (ns.length - 1) ns.length, .int .i64 (-1)] w fun e w' => e = .returned (.bool false) ∧ w' = w := by
  have hl : (byS ns).length = ns.length := byP_len ns _
  have hc : ((byS ns).take (ns.length - 1)).contains (-1 : Int) = false := by
    rw [Bool.eq_false_iff]
    intro h
    rw [List.contains_iff_mem] at h
    obtain ⟨a, ha⟩ := List.getElem?_of_mem h
    have hlt := some_lt ha
    rw [List.length_take, hl] at hlt
    rw [List.getElem?_take_of_lt (by omega)] at ha
    obtain ⟨q, _, _, _, h4⟩ := by_end hq.tree (a := a) (by omega)
    rw [h4] at ha
    injection ha with ha
    omega
  have := Try.slices_Contains_int p 0 (ns.length - 1) ns.length (byS ns) (-1) w (by omega) (by omega) (fun j hj => by
    rw [Nat.zero_add]
    refine intsZ_get hb ?_
    rw [List.getElem?_eq_getElem hj]
    simp [List.getD, List.getElem?_eq_getElem hj])
  rw [hc] at this
  exact this
theorem region_sx {W w : World} {sp g cap p q : Nat} {ns : List Nd} {z : List Int} (hz : z.length = ns.length) (hn : NR W (.slice (some ⟨g, 0, none⟩) ns.length cap) ns) (hx : Blk W sp 55 #[.slice (some ⟨g, 0, none⟩) ns.length cap, .slice none 0 0, .slice none 0 0]) (hcap : ns.length ≤ cap) (hs : ns.length ≤ 128)
    (hb : Below W.heap.size W w) (kx : Blk w sp 55 #[.slice (some ⟨g, 0, none⟩) ns.length cap, .slice none 0 0, .slice none 0 0]) (kp : Blk w p 3 (intsZ z).toArray) (kq : Blk w q 3 (intsZ z).toArray) (lp : W.heap.size ≤ p) (lq : W.heap.size ≤ q) (hne : p ≠ q) :
    SX W ((w.setCell ⟨sp, 1, none⟩ (.slice (some ⟨p, 0, none⟩) ns.length ns.length)).setCell ⟨sp, 2, none⟩ (.slice (some ⟨q, 0, none⟩) ns.length ns.length)) sp g cap ns p q z z := by
  have hlt := hx.lt
  have e1 : p ≠ sp := by omega
  have e2 : q ≠ sp := by omega
  refine ⟨((Stp.of hb).set 1 _).set 2 _, hn, hcap, hx, ?_, (kp.far (p := ⟨sp, 1, none⟩) e1 _).far (p := ⟨sp, 2, none⟩) e1 _, (kq.far (p := ⟨sp, 1, none⟩) e2 _).far (p := ⟨sp, 2, none⟩) e2 _, lp, lq, hne, hz, hz, hs⟩
  exact (kx.put 1 _).put 2 _
def ShapedR (W : World) (sp g cap : Nat) (ns : List Nd) (e : Ending) (W' : World) : Prop := ∃ bb pb, e = .returned (.bool true) ∧ SX W W' sp g cap ns bb pb (byS ns) (List.replicate ns.length (-1))
set_option maxRecDepth 100000 in
theorem shaped_any {W : World} {sp g cap : Nat} {ns : List Nd} (hn : NR W (.slice (some ⟨g, 0, none⟩) ns.length cap) ns) (hx : Blk W sp 55 #[.slice (some ⟨g, 0, none⟩) ns.length cap, .slice none 0 0, .slice none 0 0]) (hq : QNs ns) (hcap : ns.length ≤ cap) (hs : ns.length ≤ 128) :
    Calls Try.prog 15 #[RP sp] W (ShapedR W sp g cap ns) := by
  have c0 : W.cell? ⟨sp, 0, none⟩ = some (.slice (some ⟨g, 0, none⟩) ns.length cap) := hx.cell 0
  have hpos : 0 < ns.length := List.length_pos_iff.2 hq.tree.ne
  obtain ⟨nd, hnd⟩ : ∃ nd, ns[ns.length - 1]? = some nd := ⟨ns[ns.length - 1], List.getElem?_eq_getElem (by omega)⟩
  have hlast : nd.kind < 11 := by have := hq.last; rwa [kindAt_of hnd] at this
  obtain ⟨lv, pl, cl, hN⟩ := nr_node hn hnd
  have e0 : W.cell? ⟨g, (ns.length - 1) * 19, none⟩ = some (.int .i64 (nd.kind : Int)) := hN.kind
  have a1 : (0 : Int) ≤ (ns.length : Int) - 1 := by omega
  have a2 : ((ns.length : Int) - 1).toNat = ns.length - 1 := by omega
  have a3 : decide (ns.length < 1) = false := decide_eq_false (by omega)
  have a3' : decide ((ns.length : Int) < 1) = false := decide_eq_false (by omega)
  have a4 : decide ((ns.length : Int) > 16384) = false := decide_eq_false (by omega)
  have a5 : decide (16384 < ns.length) = false := decide_eq_false (by omega)
  have a6 : decide (11 ≤ nd.kind) = false := decide_eq_false (by omega)
  have a7 : ¬ (11 : Int) ≤ (nd.kind : Int) := by omega
  have a8 : IntKind.i64.wrap ((ns.length : Int) - 1) = (ns.length : Int) - 1 := IntWalk.i64_in _ (by omega)
  have HN := Lib.hid hn
  have HX := Lib.hid hx
  have HQ := Lib.hid hq
  clear hN hnd hn hx hq
  go_enter Try.func15, Try.ntmps15
  go_wp2_with fail
  go_big_quiet (fail)
  go_wp2_with fail
  go_cut [] (fun wx => ∃ p q, SX W wx sp g cap ns p q (List.replicate ns.length (-1)) (List.replicate ns.length (-1)))
  case first =>
    have B0 := Lib.hid (show Below W.heap.size W (W.drewN nq).drew from ⟨rfl, rfl, rfl, Nat.le_refl _, fun _ _ => rfl⟩)
    generalize W.drewN nq = w0 at B0 ⊢
    have D0 := Lib.hid B0.out
    have X0 := Lib.hid (HX.out.kept B0.out)
    have hS : (w0.drew).cell? ⟨sp, 0, none⟩ = some (.slice (some ⟨g, 0, none⟩) ns.length cap) := X0.out.cell 0
    have hp1 : 1 ≤ ns.length := hpos
    clear c0 e0 a1 a2 a3 a3' a4 a5 a6 a7 a8
    refine wp_region_held_drew (S := fun w' => w'.cell? ⟨sp, 0, none⟩ = some (.slice (some ⟨g, 0, none⟩) ns.length cap)) (by kernel_rfl) hS (fun hHeld => ?_)
    generalize w0.drew = wd at hHeld D0 X0 ⊢
    clear hS B0
    refine wpAnyH_take (i := 0) (oi := { dst := some 39, op := Go.Op.move (Go.Operand.tmp 0), type := 53, pos := "plan.go:47", after := #[], guard := none }) (v := ?v13) rfl (by kernel_rfl) (by kernel_rfl) (by kernel_rfl) (fun _ _ _ h => h) (Or.inl ⟨by rfl, ?hy13⟩) (by assumption) ?rest13
    case hy13 =>
      intro w hSw
      (try dsimp only at hSw)
      go_simp
      try with_reducible rfl
    try simp only [Act.put, List.setIfInBounds_toArray, List.set_cons_zero, List.set_cons_succ]
    refine wpAnyH_take (i := 1) (oi := { dst := some 40, op := Go.Op.move (Go.Operand.tmp 0), type := 53, pos := "plan.go:47", after := #[{ on := 18, ground := Go.Ground.gcOnly Go.Departure.lateStores }], guard := none }) (v := ?v14) rfl (by kernel_rfl) (by kernel_rfl) (by kernel_rfl) (fun _ _ _ h => h) (Or.inl ⟨by rfl, ?hy14⟩) (by assumption) ?rest14
    case hy14 =>
      intro w hSw
      (try dsimp only at hSw)
      go_simp
      try with_reducible rfl
    try simp only [Act.put, List.setIfInBounds_toArray, List.set_cons_zero, List.set_cons_succ]
    refine wpAnyH_take (i := 3) (oi := { dst := some 42, op := Go.Op.move (Go.Operand.tmp 0), type := 53, pos := "plan.go:47", after := #[], guard := none }) (v := ?v15) rfl (by kernel_rfl) (by kernel_rfl) (by kernel_rfl) (fun _ _ _ h => h) (Or.inl ⟨by rfl, ?hy15⟩) (by assumption) ?rest15
    case hy15 =>
      intro w hSw
      (try dsimp only at hSw)
      go_simp
      try with_reducible rfl
    try simp only [Act.put, List.setIfInBounds_toArray, List.set_cons_zero, List.set_cons_succ]
    refine wpAnyH_take (i := 4) (oi := { dst := some 43, op := Go.Op.nilCheck (Go.Operand.tmp 42), type := 0, pos := "plan.go:47", after := #[{ on := 3, ground := Go.Ground.data }], guard := none }) (v := ?v16) rfl (by kernel_rfl) (by kernel_rfl) (by kernel_rfl) (fun _ _ _ h => h) (Or.inl ⟨by rfl, ?hy16⟩) (by assumption) ?rest16
    case hy16 =>
      intro w hSw
      (try dsimp only at hSw)
      go_simp
      try with_reducible rfl
    try simp only [Act.put, List.setIfInBounds_toArray, List.set_cons_zero, List.set_cons_succ]
    refine wpAnyH_take (i := 5) (oi := { dst := some 44, op := Go.Op.fieldAddr 55 (Go.Operand.tmp 43) 0, type := 0, pos := "plan.go:47", after := #[{ on := 4, ground := Go.Ground.data }], guard := none }) (v := ?v17) rfl (by kernel_rfl) (by kernel_rfl) (by kernel_rfl) (fun _ _ _ h => h) (Or.inl ⟨by rfl, ?hy17⟩) (by assumption) ?rest17
    case hy17 =>
      intro w hSw
      (try dsimp only at hSw)
      go_simp
      try with_reducible rfl
    try simp only [Act.put, List.setIfInBounds_toArray, List.set_cons_zero, List.set_cons_succ]
    refine wpAnyH_take (i := 6) (oi := { dst := some 45, op := Go.Op.load 23 (Go.Operand.tmp 44), type := 23, pos := "plan.go:47", after := #[{ on := 5, ground := Go.Ground.data }], guard := none }) (v := ?v18) rfl (by kernel_rfl) (by kernel_rfl) (by kernel_rfl) (fun _ _ _ h => h) (Or.inl ⟨by rfl, ?hy18⟩) (by assumption) ?rest18
    case hy18 =>
      intro w hSw
      (try dsimp only at hSw)
      go_simp
      try with_reducible rfl
    try simp only [Act.put, List.setIfInBounds_toArray, List.set_cons_zero, List.set_cons_succ]
    refine wpAnyH_take (i := 7) (oi := { dst := some 46, op := Go.Op.call { callee := Go.Callee.builtin Go.Builtin.len, args := #[Go.Operand.tmp 45], argTypes := #[23] }, type := 3, pos := "plan.go:47", after := #[{ on := 6, ground := Go.Ground.data }], guard := none }) (v := ?v19) rfl (by kernel_rfl) (by kernel_rfl) (by kernel_rfl) (fun _ _ _ h => h) (Or.inl ⟨by rfl, ?hy19⟩) (by assumption) ?rest19
    case hy19 =>
      intro w hSw
      (try dsimp only at hSw)
      go_simp
      try with_reducible rfl
    try simp only [Act.put, List.setIfInBounds_toArray, List.set_cons_zero, List.set_cons_succ]
    refine wpAnyH_take (i := 10) (oi := { dst := some 49, op := Go.Op.move (Go.Operand.tmp 0), type := 53, pos := "plan.go:47", after := #[], guard := none }) (v := ?v20) rfl (by kernel_rfl) (by kernel_rfl) (by kernel_rfl) (fun _ _ _ h => h) (Or.inl ⟨by rfl, ?hy20⟩) (by assumption) ?rest20
    case hy20 =>
      intro w hSw
      (try dsimp only at hSw)
      go_simp
      try with_reducible rfl
    try simp only [Act.put, List.setIfInBounds_toArray, List.set_cons_zero, List.set_cons_succ]
    refine wpAnyH_take (i := 11) (oi := { dst := some 50, op := Go.Op.nilCheck (Go.Operand.tmp 49), type := 0, pos := "plan.go:47", after := #[{ on := 10, ground := Go.Ground.data }], guard := none }) (v := ?v21) rfl (by kernel_rfl) (by kernel_rfl) (by kernel_rfl) (fun _ _ _ h => h) (Or.inl ⟨by rfl, ?hy21⟩) (by assumption) ?rest21
    case hy21 =>
      intro w hSw
      (try dsimp only at hSw)
      go_simp
      try with_reducible rfl
    try simp only [Act.put, List.setIfInBounds_toArray, List.set_cons_zero, List.set_cons_succ]
    refine wpAnyH_take (i := 12) (oi := { dst := some 51, op := Go.Op.fieldAddr 55 (Go.Operand.tmp 50) 0, type := 0, pos := "plan.go:47", after := #[{ on := 11, ground := Go.Ground.data }], guard := none }) (v := ?v22) rfl (by kernel_rfl) (by kernel_rfl) (by kernel_rfl) (fun _ _ _ h => h) (Or.inl ⟨by rfl, ?hy22⟩) (by assumption) ?rest22
    case hy22 =>
      intro w hSw
      (try dsimp only at hSw)
      go_simp
      try with_reducible rfl
    try simp only [Act.put, List.setIfInBounds_toArray, List.set_cons_zero, List.set_cons_succ]
    refine wpAnyH_take (i := 13) (oi := { dst := some 52, op := Go.Op.load 23 (Go.Operand.tmp 51), type := 23, pos := "plan.go:47", after := #[{ on := 12, ground := Go.Ground.data }], guard := none }) (v := ?v23) rfl (by kernel_rfl) (by kernel_rfl) (by kernel_rfl) (fun _ _ _ h => h) (Or.inl ⟨by rfl, ?hy23⟩) (by assumption) ?rest23
    case hy23 =>
      intro w hSw
      (try dsimp only at hSw)
      go_simp
      try with_reducible rfl
    try simp only [Act.put, List.setIfInBounds_toArray, List.set_cons_zero, List.set_cons_succ]
    refine wpAnyH_take (i := 14) (oi := { dst := some 53, op := Go.Op.call { callee := Go.Callee.builtin Go.Builtin.len, args := #[Go.Operand.tmp 52], argTypes := #[23] }, type := 3, pos := "plan.go:47", after := #[{ on := 13, ground := Go.Ground.data }], guard := none }) (v := ?v24) rfl (by kernel_rfl) (by kernel_rfl) (by kernel_rfl) (fun _ _ _ h => h) (Or.inl ⟨by rfl, ?hy24⟩) (by assumption) ?rest24
    case hy24 =>
      intro w hSw
      (try dsimp only at hSw)
      go_simp
      try with_reducible rfl
    try simp only [Act.put, List.setIfInBounds_toArray, List.set_cons_zero, List.set_cons_succ]
    refine wpAnyH_ready (rs := [2, 9]) (by kernel_rfl) (by simp) ?_
    refine AllReadyH.cons (o := { dst := some 41, op := Go.Op.buildSlice 39 1 #[(0, Go.Operand.const (Go.Value.int Go.IntKind.i64 (-1)))], type := 39, pos := "plan.go:47", after := #[], guard := none }) rfl (fun K hK => ?_) ?_
    · go_simp
      have B1 := Lib.hid (show Below (wd).heap.size (wd) ((wd).alloc (.cells #[.int .i64 (-1)] 3)) from (Below.refl _ _).alloc (Nat.le_refl _) _)
      have A1 := Lib.hid (show Blk ((wd).alloc (.cells #[.int .i64 (-1)] 3)) (wd.heap.size) 3 #[.int .i64 (-1)] from by have := Blk.new (wd) 3 #[.int .i64 (-1)]; rwa [show (wd).heap.size = wd.heap.size from by first | rfl | exact World.size_alloc _ _] at this)
      have X1 := Lib.hid (X0.out.kept B1.out)
      have D1 := Lib.hid (chain D0.out B1.out)
      refine hK.out _ _ ?_ (fun hHeld => ?_)
      · exact X1.out.cell 0
      · clear hK K
        try simp only [Act.put, List.setIfInBounds_toArray, List.set_cons_zero, List.set_cons_succ]
        refine wpAnyH_ready (rs := [8, 9]) (by kernel_rfl) (by simp) ?_
        refine AllReadyH.cons (o := { dst := some 47, op := Go.Op.call { callee := Go.Callee.value (Go.Operand.func 29), args := #[Go.Operand.tmp 41, Go.Operand.tmp 46], argTypes := #[39, 3] }, type := 39, pos := "plan.go:47", after := #[{ on := 2, ground := Go.Ground.data }, { on := 7, ground := Go.Ground.data }], guard := none }) rfl (fun K hK => ?_) ?_
        · go_simp
          go_at_call 29
          (with_reducible refine (repeat_any ns.length hp1 hs A1.out).mono ?_)
          rintro e w2 ⟨p, rfl, hp, px, bx⟩
          have B2 := Lib.hid bx
          have P2 := Lib.hid px
          have Lp := Lib.hid (Nat.le_trans D1.out.size hp)
          clear bx px hp
          have X2 := Lib.hid (X1.out.kept B2.out)
          have D2 := Lib.hid (chain D1.out B2.out)
          refine hK.out _ _ ?_ (fun hHeld => ?_)
          · exact X2.out.cell 0
          · clear hK K
            try simp only [Act.put, List.setIfInBounds_toArray, List.set_cons_zero, List.set_cons_succ]
            refine wpAnyH_ready (rs := [9]) (by kernel_rfl) (by simp) ?_
            refine AllReadyH.cons (o := { dst := some 48, op := Go.Op.buildSlice 39 1 #[(0, Go.Operand.const (Go.Value.int Go.IntKind.i64 (-1)))], type := 39, pos := "plan.go:47", after := #[], guard := none }) rfl (fun K hK => ?_) ?_
            · go_simp
              have B3 := Lib.hid (show Below (w2).heap.size (w2) ((w2).alloc (.cells #[.int .i64 (-1)] 3)) from (Below.refl _ _).alloc (Nat.le_refl _) _)
              have E3 := Lib.hid (show Blk ((w2).alloc (.cells #[.int .i64 (-1)] 3)) (w2.heap.size) 3 #[.int .i64 (-1)] from by have := Blk.new (w2) 3 #[.int .i64 (-1)]; rwa [show (w2).heap.size = w2.heap.size from by first | rfl | exact World.size_alloc _ _] at this)
              have X3 := Lib.hid (X2.out.kept B3.out)
              have D3 := Lib.hid (chain D2.out B3.out)
              have P3 := Lib.hid (P2.out.kept B3.out)
              refine hK.out _ _ ?_ (fun hHeld => ?_)
              · exact X3.out.cell 0
              · clear hK K
                try simp only [Act.put, List.setIfInBounds_toArray, List.set_cons_zero, List.set_cons_succ]
                refine wpAnyH_ready (rs := [15]) (by kernel_rfl) (by simp) ?_
                refine AllReadyH.cons (o := { dst := some 54, op := Go.Op.call { callee := Go.Callee.value (Go.Operand.func 29), args := #[Go.Operand.tmp 48, Go.Operand.tmp 53], argTypes := #[39, 3] }, type := 39, pos := "plan.go:47", after := #[{ on := 9, ground := Go.Ground.data }, { on := 14, ground := Go.Ground.data }, { on := 8, ground := Go.Ground.chain }], guard := none }) rfl (fun K hK => ?_) ?_
                · go_simp
                  go_at_call 29
                  (with_reducible refine (repeat_any ns.length hp1 hs E3.out).mono ?_)
                  rintro e w4 ⟨q, rfl, hq, qx, bx⟩
                  have B4 := Lib.hid bx
                  have Q4 := Lib.hid qx
                  have Lq := Lib.hid (Nat.le_trans D3.out.size hq)
                  have NE := Lib.hid (show p ≠ q from fun e => by have := P3.out.lt; omega)
                  clear bx qx hq
                  have X4 := Lib.hid (X3.out.kept B4.out)
                  have D4 := Lib.hid (chain D3.out B4.out)
                  have P4 := Lib.hid (P3.out.kept B4.out)
                  refine hK.out _ _ ?_ (fun hHeld => ?_)
                  · exact X4.out.cell 0
                  · clear hK K
                    try simp only [Act.put, List.setIfInBounds_toArray, List.set_cons_zero, List.set_cons_succ]
                    have c1 : w4.cell? ⟨sp, 1, none⟩ = some (.slice none 0 0) := X4.out.cell 1
                    have c2 : w4.cell? ⟨sp, 2, none⟩ = some (.slice none 0 0) := X4.out.cell 2
                    have f1 := X4.out.free 1
                    have f2 := X4.out.free 2
                    refine wpAnyH_take (i := 16) (oi := { dst := some 55, op := Go.Op.nilCheck (Go.Operand.tmp 39), type := 0, pos := "plan.go:47", after := #[{ on := 0, ground := Go.Ground.data }, { on := 0, ground := Go.Ground.phase }, { on := 1, ground := Go.Ground.textOnly Go.Departure.lateStores }, { on := 2, ground := Go.Ground.phase }, { on := 3, ground := Go.Ground.phase }, { on := 4, ground := Go.Ground.phase }, { on := 5, ground := Go.Ground.phase }, { on := 6, ground := Go.Ground.phase }, { on := 7, ground := Go.Ground.phase }, { on := 8, ground := Go.Ground.phase }, { on := 9, ground := Go.Ground.textOnly Go.Departure.lateStoresUnsure }, { on := 10, ground := Go.Ground.textOnly Go.Departure.lateStores }, { on := 11, ground := Go.Ground.textOnly Go.Departure.lateStoresUnsure }, { on := 12, ground := Go.Ground.textOnly Go.Departure.lateStoresUnsure }, { on := 13, ground := Go.Ground.phase }, { on := 14, ground := Go.Ground.textOnly Go.Departure.lateStoresUnsure }, { on := 15, ground := Go.Ground.phase }], guard := none }) (v := ?v1) rfl (by kernel_rfl) (by kernel_rfl) (by kernel_rfl) (fun _ _ _ h => h) (Or.inl ⟨by rfl, ?hy1⟩) (by assumption) ?rest1
                    case hy1 =>
                      intro w hSw
                      (try dsimp only at hSw)
                      go_simp
                      try with_reducible rfl
                    try simp only [Act.put, List.setIfInBounds_toArray, List.set_cons_zero, List.set_cons_succ]
                    refine wpAnyH_take (i := 17) (oi := { dst := some 56, op := Go.Op.fieldAddr 55 (Go.Operand.tmp 55) 1, type := 0, pos := "plan.go:47", after := #[{ on := 16, ground := Go.Ground.data }, { on := 0, ground := Go.Ground.phase }, { on := 1, ground := Go.Ground.textOnly Go.Departure.lateStores }, { on := 2, ground := Go.Ground.phase }, { on := 3, ground := Go.Ground.phase }, { on := 4, ground := Go.Ground.phase }, { on := 5, ground := Go.Ground.phase }, { on := 6, ground := Go.Ground.phase }, { on := 7, ground := Go.Ground.phase }, { on := 8, ground := Go.Ground.phase }, { on := 9, ground := Go.Ground.textOnly Go.Departure.lateStoresUnsure }, { on := 10, ground := Go.Ground.textOnly Go.Departure.lateStores }, { on := 11, ground := Go.Ground.textOnly Go.Departure.lateStoresUnsure }, { on := 12, ground := Go.Ground.textOnly Go.Departure.lateStoresUnsure }, { on := 13, ground := Go.Ground.phase }, { on := 14, ground := Go.Ground.textOnly Go.Departure.lateStoresUnsure }, { on := 15, ground := Go.Ground.phase }], guard := none }) (v := ?v2) rfl (by kernel_rfl) (by kernel_rfl) (by kernel_rfl) (fun _ _ _ h => h) (Or.inl ⟨by rfl, ?hy2⟩) (by assumption) ?rest2
                    case hy2 =>
                      intro w hSw
                      (try dsimp only at hSw)
                      go_simp
                      try with_reducible rfl
                    try simp only [Act.put, List.setIfInBounds_toArray, List.set_cons_zero, List.set_cons_succ]
                    have c0' : w4.cell? ⟨sp, 0, none⟩ = some (.slice (some ⟨g, 0, none⟩) ns.length cap) := X4.out.cell 0
                    refine wpAnyH_ready (rs := [18]) (by kernel_rfl) (by simp) ?_
                    refine AllReadyH.cons (o := { dst := none, op := Go.Op.store 39 (Go.Operand.tmp 56) (Go.Operand.tmp 47), type := 0, pos := "plan.go:47", after := #[{ on := 17, ground := Go.Ground.data }, { on := 8, ground := Go.Ground.data }, { on := 15, ground := Go.Ground.chain }, { on := 0, ground := Go.Ground.phase }, { on := 1, ground := Go.Ground.textOnly Go.Departure.lateStores }, { on := 2, ground := Go.Ground.phase }, { on := 3, ground := Go.Ground.phase }, { on := 4, ground := Go.Ground.phase }, { on := 5, ground := Go.Ground.phase }, { on := 6, ground := Go.Ground.phase }, { on := 7, ground := Go.Ground.phase }, { on := 8, ground := Go.Ground.phase }, { on := 9, ground := Go.Ground.textOnly Go.Departure.lateStoresUnsure }, { on := 10, ground := Go.Ground.textOnly Go.Departure.lateStores }, { on := 11, ground := Go.Ground.textOnly Go.Departure.lateStoresUnsure }, { on := 12, ground := Go.Ground.textOnly Go.Departure.lateStoresUnsure }, { on := 13, ground := Go.Ground.phase }, { on := 14, ground := Go.Ground.textOnly Go.Departure.lateStoresUnsure }, { on := 15, ground := Go.Ground.phase }], guard := none }) rfl (fun K hK => ?_) ?_
                    · go_simp
                      refine hK.out _ _ ?_ (fun hHeld => ?_)
                      · (first | exact c0' | simp [c0', World.cell?_setCell_other])
                      · clear hK K
                        try simp only [Act.put, List.setIfInBounds_toArray, List.set_cons_zero, List.set_cons_succ]
                        refine wpAnyH_take (i := 19) (oi := { dst := some 57, op := Go.Op.nilCheck (Go.Operand.tmp 40), type := 0, pos := "plan.go:47", after := #[{ on := 1, ground := Go.Ground.data }, { on := 0, ground := Go.Ground.phase }, { on := 1, ground := Go.Ground.phase }, { on := 2, ground := Go.Ground.phase }, { on := 3, ground := Go.Ground.phase }, { on := 4, ground := Go.Ground.phase }, { on := 5, ground := Go.Ground.phase }, { on := 6, ground := Go.Ground.phase }, { on := 7, ground := Go.Ground.phase }, { on := 8, ground := Go.Ground.phase }, { on := 9, ground := Go.Ground.phase }, { on := 10, ground := Go.Ground.phase }, { on := 11, ground := Go.Ground.phase }, { on := 12, ground := Go.Ground.phase }, { on := 13, ground := Go.Ground.phase }, { on := 14, ground := Go.Ground.phase }, { on := 15, ground := Go.Ground.phase }, { on := 16, ground := Go.Ground.phase }, { on := 17, ground := Go.Ground.phase }, { on := 18, ground := Go.Ground.phase }], guard := none }) (v := ?v3) rfl (by kernel_rfl) (by kernel_rfl) (by kernel_rfl) (fun _ _ _ h => h) (Or.inl ⟨by rfl, ?hy3⟩) (by assumption) ?rest3
                        case hy3 =>
                          intro w hSw
                          (try dsimp only at hSw)
                          go_simp
                          try with_reducible rfl
                        try simp only [Act.put, List.setIfInBounds_toArray, List.set_cons_zero, List.set_cons_succ]
                        refine wpAnyH_take (i := 20) (oi := { dst := some 58, op := Go.Op.fieldAddr 55 (Go.Operand.tmp 57) 2, type := 0, pos := "plan.go:47", after := #[{ on := 19, ground := Go.Ground.data }, { on := 0, ground := Go.Ground.phase }, { on := 1, ground := Go.Ground.phase }, { on := 2, ground := Go.Ground.phase }, { on := 3, ground := Go.Ground.phase }, { on := 4, ground := Go.Ground.phase }, { on := 5, ground := Go.Ground.phase }, { on := 6, ground := Go.Ground.phase }, { on := 7, ground := Go.Ground.phase }, { on := 8, ground := Go.Ground.phase }, { on := 9, ground := Go.Ground.phase }, { on := 10, ground := Go.Ground.phase }, { on := 11, ground := Go.Ground.phase }, { on := 12, ground := Go.Ground.phase }, { on := 13, ground := Go.Ground.phase }, { on := 14, ground := Go.Ground.phase }, { on := 15, ground := Go.Ground.phase }, { on := 16, ground := Go.Ground.phase }, { on := 17, ground := Go.Ground.phase }, { on := 18, ground := Go.Ground.phase }], guard := none }) (v := ?v4) rfl (by kernel_rfl) (by kernel_rfl) (by kernel_rfl) (fun _ _ _ h => h) (Or.inl ⟨by rfl, ?hy4⟩) (by assumption) ?rest4
                        case hy4 =>
                          intro w hSw
                          (try dsimp only at hSw)
                          go_simp
                          try with_reducible rfl
                        try simp only [Act.put, List.setIfInBounds_toArray, List.set_cons_zero, List.set_cons_succ]
                        refine wpAnyH_ready (rs := [21]) (by kernel_rfl) (by simp) ?_
                        refine AllReadyH.cons (o := { dst := none, op := Go.Op.store 39 (Go.Operand.tmp 58) (Go.Operand.tmp 54), type := 0, pos := "plan.go:47", after := #[{ on := 20, ground := Go.Ground.data }, { on := 15, ground := Go.Ground.data }, { on := 18, ground := Go.Ground.chain }, { on := 0, ground := Go.Ground.phase }, { on := 1, ground := Go.Ground.phase }, { on := 2, ground := Go.Ground.phase }, { on := 3, ground := Go.Ground.phase }, { on := 4, ground := Go.Ground.phase }, { on := 5, ground := Go.Ground.phase }, { on := 6, ground := Go.Ground.phase }, { on := 7, ground := Go.Ground.phase }, { on := 8, ground := Go.Ground.phase }, { on := 9, ground := Go.Ground.phase }, { on := 10, ground := Go.Ground.phase }, { on := 11, ground := Go.Ground.phase }, { on := 12, ground := Go.Ground.phase }, { on := 13, ground := Go.Ground.phase }, { on := 14, ground := Go.Ground.phase }, { on := 15, ground := Go.Ground.phase }, { on := 16, ground := Go.Ground.phase }, { on := 17, ground := Go.Ground.phase }, { on := 18, ground := Go.Ground.phase }], guard := none }) rfl (fun K hK => ?_) ?_
                        · go_simp
                          refine hK.out _ _ ?_ (fun hHeld => ?_)
                          · (first | exact c0' | simp [c0', World.cell?_setCell_other])
                          · clear hK K
                            try simp only [Act.put, List.setIfInBounds_toArray, List.set_cons_zero, List.set_cons_succ]
                            refine wpAnyH_done (by kernel_rfl) ?_ _
                            go_wp2_with fail
                            go_meet
                            exact ⟨p, q, region_sx (by rw [List.length_replicate]) HN.out HX.out hcap hs D4.out X4.out P4.out Q4.out Lp.out Lq.out (NE.out)⟩
                        exact AllReadyH.nil
                    exact AllReadyH.nil
                exact AllReadyH.nil
            exact AllReadyH.nil
        refine AllReadyH.cons (o := { dst := some 48, op := Go.Op.buildSlice 39 1 #[(0, Go.Operand.const (Go.Value.int Go.IntKind.i64 (-1)))], type := 39, pos := "plan.go:47", after := #[], guard := none }) rfl (fun K hK => ?_) ?_
        · go_simp
          have B2 := Lib.hid (show Below ((wd.alloc (.cells #[.int .i64 (-1)] 3))).heap.size ((wd.alloc (.cells #[.int .i64 (-1)] 3))) (((wd.alloc (.cells #[.int .i64 (-1)] 3))).alloc (.cells #[.int .i64 (-1)] 3)) from (Below.refl _ _).alloc (Nat.le_refl _) _)
          have E2 := Lib.hid (show Blk (((wd.alloc (.cells #[.int .i64 (-1)] 3))).alloc (.cells #[.int .i64 (-1)] 3)) (wd.heap.size + 1) 3 #[.int .i64 (-1)] from by have := Blk.new ((wd.alloc (.cells #[.int .i64 (-1)] 3))) 3 #[.int .i64 (-1)]; rwa [show ((wd.alloc (.cells #[.int .i64 (-1)] 3))).heap.size = wd.heap.size + 1 from by first | rfl | exact World.size_alloc _ _] at this)
          have X2 := Lib.hid (X1.out.kept B2.out)
          have D2 := Lib.hid (chain D1.out B2.out)
          have A2 := Lib.hid (A1.out.kept B2.out)
          refine hK.out _ _ ?_ (fun hHeld => ?_)
          · exact X2.out.cell 0
          · clear hK K
            try simp only [Act.put, List.setIfInBounds_toArray, List.set_cons_zero, List.set_cons_succ]
            refine wpAnyH_ready (rs := [8]) (by kernel_rfl) (by simp) ?_
            refine AllReadyH.cons (o := { dst := some 47, op := Go.Op.call { callee := Go.Callee.value (Go.Operand.func 29), args := #[Go.Operand.tmp 41, Go.Operand.tmp 46], argTypes := #[39, 3] }, type := 39, pos := "plan.go:47", after := #[{ on := 2, ground := Go.Ground.data }, { on := 7, ground := Go.Ground.data }], guard := none }) rfl (fun K hK => ?_) ?_
            · go_simp
              go_at_call 29
              (with_reducible refine (repeat_any ns.length hp1 hs A2.out).mono ?_)
              rintro e w3 ⟨p, rfl, hp, px, bx⟩
              have B3 := Lib.hid bx
              have P3 := Lib.hid px
              have Lp := Lib.hid (Nat.le_trans D2.out.size hp)
              clear bx px hp
              have X3 := Lib.hid (X2.out.kept B3.out)
              have D3 := Lib.hid (chain D2.out B3.out)
              have E3 := Lib.hid (E2.out.kept B3.out)
              refine hK.out _ _ ?_ (fun hHeld => ?_)
              · exact X3.out.cell 0
              · clear hK K
                try simp only [Act.put, List.setIfInBounds_toArray, List.set_cons_zero, List.set_cons_succ]
                refine wpAnyH_ready (rs := [15]) (by kernel_rfl) (by simp) ?_
                refine AllReadyH.cons (o := { dst := some 54, op := Go.Op.call { callee := Go.Callee.value (Go.Operand.func 29), args := #[Go.Operand.tmp 48, Go.Operand.tmp 53], argTypes := #[39, 3] }, type := 39, pos := "plan.go:47", after := #[{ on := 9, ground := Go.Ground.data }, { on := 14, ground := Go.Ground.data }, { on := 8, ground := Go.Ground.chain }], guard := none }) rfl (fun K hK => ?_) ?_
                · go_simp
                  go_at_call 29
                  (with_reducible refine (repeat_any ns.length hp1 hs E3.out).mono ?_)
                  rintro e w4 ⟨q, rfl, hq, qx, bx⟩
                  have B4 := Lib.hid bx
                  have Q4 := Lib.hid qx
                  have Lq := Lib.hid (Nat.le_trans D3.out.size hq)
                  have NE := Lib.hid (show p ≠ q from fun e => by have := P3.out.lt; omega)
                  clear bx qx hq
                  have X4 := Lib.hid (X3.out.kept B4.out)
                  have D4 := Lib.hid (chain D3.out B4.out)
                  have P4 := Lib.hid (P3.out.kept B4.out)
                  refine hK.out _ _ ?_ (fun hHeld => ?_)
                  · exact X4.out.cell 0
                  · clear hK K
                    try simp only [Act.put, List.setIfInBounds_toArray, List.set_cons_zero, List.set_cons_succ]
                    have c1 : w4.cell? ⟨sp, 1, none⟩ = some (.slice none 0 0) := X4.out.cell 1
                    have c2 : w4.cell? ⟨sp, 2, none⟩ = some (.slice none 0 0) := X4.out.cell 2
                    have f1 := X4.out.free 1
                    have f2 := X4.out.free 2
                    refine wpAnyH_take (i := 16) (oi := { dst := some 55, op := Go.Op.nilCheck (Go.Operand.tmp 39), type := 0, pos := "plan.go:47", after := #[{ on := 0, ground := Go.Ground.data }, { on := 0, ground := Go.Ground.phase }, { on := 1, ground := Go.Ground.textOnly Go.Departure.lateStores }, { on := 2, ground := Go.Ground.phase }, { on := 3, ground := Go.Ground.phase }, { on := 4, ground := Go.Ground.phase }, { on := 5, ground := Go.Ground.phase }, { on := 6, ground := Go.Ground.phase }, { on := 7, ground := Go.Ground.phase }, { on := 8, ground := Go.Ground.phase }, { on := 9, ground := Go.Ground.textOnly Go.Departure.lateStoresUnsure }, { on := 10, ground := Go.Ground.textOnly Go.Departure.lateStores }, { on := 11, ground := Go.Ground.textOnly Go.Departure.lateStoresUnsure }, { on := 12, ground := Go.Ground.textOnly Go.Departure.lateStoresUnsure }, { on := 13, ground := Go.Ground.phase }, { on := 14, ground := Go.Ground.textOnly Go.Departure.lateStoresUnsure }, { on := 15, ground := Go.Ground.phase }], guard := none }) (v := ?v5) rfl (by kernel_rfl) (by kernel_rfl) (by kernel_rfl) (fun _ _ _ h => h) (Or.inl ⟨by rfl, ?hy5⟩) (by assumption) ?rest5
                    case hy5 =>
                      intro w hSw
                      (try dsimp only at hSw)
                      go_simp
                      try with_reducible rfl
                    try simp only [Act.put, List.setIfInBounds_toArray, List.set_cons_zero, List.set_cons_succ]
                    refine wpAnyH_take (i := 17) (oi := { dst := some 56, op := Go.Op.fieldAddr 55 (Go.Operand.tmp 55) 1, type := 0, pos := "plan.go:47", after := #[{ on := 16, ground := Go.Ground.data }, { on := 0, ground := Go.Ground.phase }, { on := 1, ground := Go.Ground.textOnly Go.Departure.lateStores }, { on := 2, ground := Go.Ground.phase }, { on := 3, ground := Go.Ground.phase }, { on := 4, ground := Go.Ground.phase }, { on := 5, ground := Go.Ground.phase }, { on := 6, ground := Go.Ground.phase }, { on := 7, ground := Go.Ground.phase }, { on := 8, ground := Go.Ground.phase }, { on := 9, ground := Go.Ground.textOnly Go.Departure.lateStoresUnsure }, { on := 10, ground := Go.Ground.textOnly Go.Departure.lateStores }, { on := 11, ground := Go.Ground.textOnly Go.Departure.lateStoresUnsure }, { on := 12, ground := Go.Ground.textOnly Go.Departure.lateStoresUnsure }, { on := 13, ground := Go.Ground.phase }, { on := 14, ground := Go.Ground.textOnly Go.Departure.lateStoresUnsure }, { on := 15, ground := Go.Ground.phase }], guard := none }) (v := ?v6) rfl (by kernel_rfl) (by kernel_rfl) (by kernel_rfl) (fun _ _ _ h => h) (Or.inl ⟨by rfl, ?hy6⟩) (by assumption) ?rest6
                    case hy6 =>
                      intro w hSw
                      (try dsimp only at hSw)
                      go_simp
                      try with_reducible rfl
                    try simp only [Act.put, List.setIfInBounds_toArray, List.set_cons_zero, List.set_cons_succ]
                    have c0' : w4.cell? ⟨sp, 0, none⟩ = some (.slice (some ⟨g, 0, none⟩) ns.length cap) := X4.out.cell 0
                    refine wpAnyH_ready (rs := [18]) (by kernel_rfl) (by simp) ?_
                    refine AllReadyH.cons (o := { dst := none, op := Go.Op.store 39 (Go.Operand.tmp 56) (Go.Operand.tmp 47), type := 0, pos := "plan.go:47", after := #[{ on := 17, ground := Go.Ground.data }, { on := 8, ground := Go.Ground.data }, { on := 15, ground := Go.Ground.chain }, { on := 0, ground := Go.Ground.phase }, { on := 1, ground := Go.Ground.textOnly Go.Departure.lateStores }, { on := 2, ground := Go.Ground.phase }, { on := 3, ground := Go.Ground.phase }, { on := 4, ground := Go.Ground.phase }, { on := 5, ground := Go.Ground.phase }, { on := 6, ground := Go.Ground.phase }, { on := 7, ground := Go.Ground.phase }, { on := 8, ground := Go.Ground.phase }, { on := 9, ground := Go.Ground.textOnly Go.Departure.lateStoresUnsure }, { on := 10, ground := Go.Ground.textOnly Go.Departure.lateStores }, { on := 11, ground := Go.Ground.textOnly Go.Departure.lateStoresUnsure }, { on := 12, ground := Go.Ground.textOnly Go.Departure.lateStoresUnsure }, { on := 13, ground := Go.Ground.phase }, { on := 14, ground := Go.Ground.textOnly Go.Departure.lateStoresUnsure }, { on := 15, ground := Go.Ground.phase }], guard := none }) rfl (fun K hK => ?_) ?_
                    · go_simp
                      refine hK.out _ _ ?_ (fun hHeld => ?_)
                      · (first | exact c0' | simp [c0', World.cell?_setCell_other])
                      · clear hK K
                        try simp only [Act.put, List.setIfInBounds_toArray, List.set_cons_zero, List.set_cons_succ]
                        refine wpAnyH_take (i := 19) (oi := { dst := some 57, op := Go.Op.nilCheck (Go.Operand.tmp 40), type := 0, pos := "plan.go:47", after := #[{ on := 1, ground := Go.Ground.data }, { on := 0, ground := Go.Ground.phase }, { on := 1, ground := Go.Ground.phase }, { on := 2, ground := Go.Ground.phase }, { on := 3, ground := Go.Ground.phase }, { on := 4, ground := Go.Ground.phase }, { on := 5, ground := Go.Ground.phase }, { on := 6, ground := Go.Ground.phase }, { on := 7, ground := Go.Ground.phase }, { on := 8, ground := Go.Ground.phase }, { on := 9, ground := Go.Ground.phase }, { on := 10, ground := Go.Ground.phase }, { on := 11, ground := Go.Ground.phase }, { on := 12, ground := Go.Ground.phase }, { on := 13, ground := Go.Ground.phase }, { on := 14, ground := Go.Ground.phase }, { on := 15, ground := Go.Ground.phase }, { on := 16, ground := Go.Ground.phase }, { on := 17, ground := Go.Ground.phase }, { on := 18, ground := Go.Ground.phase }], guard := none }) (v := ?v7) rfl (by kernel_rfl) (by kernel_rfl) (by kernel_rfl) (fun _ _ _ h => h) (Or.inl ⟨by rfl, ?hy7⟩) (by assumption) ?rest7
                        case hy7 =>
                          intro w hSw
                          (try dsimp only at hSw)
                          go_simp
                          try with_reducible rfl
                        try simp only [Act.put, List.setIfInBounds_toArray, List.set_cons_zero, List.set_cons_succ]
                        refine wpAnyH_take (i := 20) (oi := { dst := some 58, op := Go.Op.fieldAddr 55 (Go.Operand.tmp 57) 2, type := 0, pos := "plan.go:47", after := #[{ on := 19, ground := Go.Ground.data }, { on := 0, ground := Go.Ground.phase }, { on := 1, ground := Go.Ground.phase }, { on := 2, ground := Go.Ground.phase }, { on := 3, ground := Go.Ground.phase }, { on := 4, ground := Go.Ground.phase }, { on := 5, ground := Go.Ground.phase }, { on := 6, ground := Go.Ground.phase }, { on := 7, ground := Go.Ground.phase }, { on := 8, ground := Go.Ground.phase }, { on := 9, ground := Go.Ground.phase }, { on := 10, ground := Go.Ground.phase }, { on := 11, ground := Go.Ground.phase }, { on := 12, ground := Go.Ground.phase }, { on := 13, ground := Go.Ground.phase }, { on := 14, ground := Go.Ground.phase }, { on := 15, ground := Go.Ground.phase }, { on := 16, ground := Go.Ground.phase }, { on := 17, ground := Go.Ground.phase }, { on := 18, ground := Go.Ground.phase }], guard := none }) (v := ?v8) rfl (by kernel_rfl) (by kernel_rfl) (by kernel_rfl) (fun _ _ _ h => h) (Or.inl ⟨by rfl, ?hy8⟩) (by assumption) ?rest8
                        case hy8 =>
                          intro w hSw
                          (try dsimp only at hSw)
                          go_simp
                          try with_reducible rfl
                        try simp only [Act.put, List.setIfInBounds_toArray, List.set_cons_zero, List.set_cons_succ]
                        refine wpAnyH_ready (rs := [21]) (by kernel_rfl) (by simp) ?_
                        refine AllReadyH.cons (o := { dst := none, op := Go.Op.store 39 (Go.Operand.tmp 58) (Go.Operand.tmp 54), type := 0, pos := "plan.go:47", after := #[{ on := 20, ground := Go.Ground.data }, { on := 15, ground := Go.Ground.data }, { on := 18, ground := Go.Ground.chain }, { on := 0, ground := Go.Ground.phase }, { on := 1, ground := Go.Ground.phase }, { on := 2, ground := Go.Ground.phase }, { on := 3, ground := Go.Ground.phase }, { on := 4, ground := Go.Ground.phase }, { on := 5, ground := Go.Ground.phase }, { on := 6, ground := Go.Ground.phase }, { on := 7, ground := Go.Ground.phase }, { on := 8, ground := Go.Ground.phase }, { on := 9, ground := Go.Ground.phase }, { on := 10, ground := Go.Ground.phase }, { on := 11, ground := Go.Ground.phase }, { on := 12, ground := Go.Ground.phase }, { on := 13, ground := Go.Ground.phase }, { on := 14, ground := Go.Ground.phase }, { on := 15, ground := Go.Ground.phase }, { on := 16, ground := Go.Ground.phase }, { on := 17, ground := Go.Ground.phase }, { on := 18, ground := Go.Ground.phase }], guard := none }) rfl (fun K hK => ?_) ?_
                        · go_simp
                          refine hK.out _ _ ?_ (fun hHeld => ?_)
                          · (first | exact c0' | simp [c0', World.cell?_setCell_other])
                          · clear hK K
                            try simp only [Act.put, List.setIfInBounds_toArray, List.set_cons_zero, List.set_cons_succ]
                            refine wpAnyH_done (by kernel_rfl) ?_ _
                            go_wp2_with fail
                            go_meet
                            exact ⟨p, q, region_sx (by rw [List.length_replicate]) HN.out HX.out hcap hs D4.out X4.out P4.out Q4.out Lp.out Lq.out (NE.out)⟩
                        exact AllReadyH.nil
                    exact AllReadyH.nil
                exact AllReadyH.nil
            exact AllReadyH.nil
        exact AllReadyH.nil
    refine AllReadyH.cons (o := { dst := some 48, op := Go.Op.buildSlice 39 1 #[(0, Go.Operand.const (Go.Value.int Go.IntKind.i64 (-1)))], type := 39, pos := "plan.go:47", after := #[], guard := none }) rfl (fun K hK => ?_) ?_
    · go_simp
      have B1 := Lib.hid (show Below (wd).heap.size (wd) ((wd).alloc (.cells #[.int .i64 (-1)] 3)) from (Below.refl _ _).alloc (Nat.le_refl _) _)
      have E1 := Lib.hid (show Blk ((wd).alloc (.cells #[.int .i64 (-1)] 3)) (wd.heap.size) 3 #[.int .i64 (-1)] from by have := Blk.new (wd) 3 #[.int .i64 (-1)]; rwa [show (wd).heap.size = wd.heap.size from by first | rfl | exact World.size_alloc _ _] at this)
      have X1 := Lib.hid (X0.out.kept B1.out)
      have D1 := Lib.hid (chain D0.out B1.out)
      refine hK.out _ _ ?_ (fun hHeld => ?_)
      · exact X1.out.cell 0
      · clear hK K
        try simp only [Act.put, List.setIfInBounds_toArray, List.set_cons_zero, List.set_cons_succ]
        refine wpAnyH_ready (rs := [2]) (by kernel_rfl) (by simp) ?_
        refine AllReadyH.cons (o := { dst := some 41, op := Go.Op.buildSlice 39 1 #[(0, Go.Operand.const (Go.Value.int Go.IntKind.i64 (-1)))], type := 39, pos := "plan.go:47", after := #[], guard := none }) rfl (fun K hK => ?_) ?_
        · go_simp
          have B2 := Lib.hid (show Below ((wd.alloc (.cells #[.int .i64 (-1)] 3))).heap.size ((wd.alloc (.cells #[.int .i64 (-1)] 3))) (((wd.alloc (.cells #[.int .i64 (-1)] 3))).alloc (.cells #[.int .i64 (-1)] 3)) from (Below.refl _ _).alloc (Nat.le_refl _) _)
          have A2 := Lib.hid (show Blk (((wd.alloc (.cells #[.int .i64 (-1)] 3))).alloc (.cells #[.int .i64 (-1)] 3)) (wd.heap.size + 1) 3 #[.int .i64 (-1)] from by have := Blk.new ((wd.alloc (.cells #[.int .i64 (-1)] 3))) 3 #[.int .i64 (-1)]; rwa [show ((wd.alloc (.cells #[.int .i64 (-1)] 3))).heap.size = wd.heap.size + 1 from by first | rfl | exact World.size_alloc _ _] at this)
          have X2 := Lib.hid (X1.out.kept B2.out)
          have D2 := Lib.hid (chain D1.out B2.out)
          have E2 := Lib.hid (E1.out.kept B2.out)
          refine hK.out _ _ ?_ (fun hHeld => ?_)
          · exact X2.out.cell 0
          · clear hK K
            try simp only [Act.put, List.setIfInBounds_toArray, List.set_cons_zero, List.set_cons_succ]
            refine wpAnyH_ready (rs := [8]) (by kernel_rfl) (by simp) ?_
            refine AllReadyH.cons (o := { dst := some 47, op := Go.Op.call { callee := Go.Callee.value (Go.Operand.func 29), args := #[Go.Operand.tmp 41, Go.Operand.tmp 46], argTypes := #[39, 3] }, type := 39, pos := "plan.go:47", after := #[{ on := 2, ground := Go.Ground.data }, { on := 7, ground := Go.Ground.data }], guard := none }) rfl (fun K hK => ?_) ?_
            · go_simp
              go_at_call 29
              (with_reducible refine (repeat_any ns.length hp1 hs A2.out).mono ?_)
              rintro e w3 ⟨p, rfl, hp, px, bx⟩
              have B3 := Lib.hid bx
              have P3 := Lib.hid px
              have Lp := Lib.hid (Nat.le_trans D2.out.size hp)
              clear bx px hp
              have X3 := Lib.hid (X2.out.kept B3.out)
              have D3 := Lib.hid (chain D2.out B3.out)
              have E3 := Lib.hid (E2.out.kept B3.out)
              refine hK.out _ _ ?_ (fun hHeld => ?_)
              · exact X3.out.cell 0
              · clear hK K
                try simp only [Act.put, List.setIfInBounds_toArray, List.set_cons_zero, List.set_cons_succ]
                refine wpAnyH_ready (rs := [15]) (by kernel_rfl) (by simp) ?_
                refine AllReadyH.cons (o := { dst := some 54, op := Go.Op.call { callee := Go.Callee.value (Go.Operand.func 29), args := #[Go.Operand.tmp 48, Go.Operand.tmp 53], argTypes := #[39, 3] }, type := 39, pos := "plan.go:47", after := #[{ on := 9, ground := Go.Ground.data }, { on := 14, ground := Go.Ground.data }, { on := 8, ground := Go.Ground.chain }], guard := none }) rfl (fun K hK => ?_) ?_
                · go_simp
                  go_at_call 29
                  (with_reducible refine (repeat_any ns.length hp1 hs E3.out).mono ?_)
                  rintro e w4 ⟨q, rfl, hq, qx, bx⟩
                  have B4 := Lib.hid bx
                  have Q4 := Lib.hid qx
                  have Lq := Lib.hid (Nat.le_trans D3.out.size hq)
                  have NE := Lib.hid (show p ≠ q from fun e => by have := P3.out.lt; omega)
                  clear bx qx hq
                  have X4 := Lib.hid (X3.out.kept B4.out)
                  have D4 := Lib.hid (chain D3.out B4.out)
                  have P4 := Lib.hid (P3.out.kept B4.out)
                  refine hK.out _ _ ?_ (fun hHeld => ?_)
                  · exact X4.out.cell 0
                  · clear hK K
                    try simp only [Act.put, List.setIfInBounds_toArray, List.set_cons_zero, List.set_cons_succ]
                    have c1 : w4.cell? ⟨sp, 1, none⟩ = some (.slice none 0 0) := X4.out.cell 1
                    have c2 : w4.cell? ⟨sp, 2, none⟩ = some (.slice none 0 0) := X4.out.cell 2
                    have f1 := X4.out.free 1
                    have f2 := X4.out.free 2
                    refine wpAnyH_take (i := 16) (oi := { dst := some 55, op := Go.Op.nilCheck (Go.Operand.tmp 39), type := 0, pos := "plan.go:47", after := #[{ on := 0, ground := Go.Ground.data }, { on := 0, ground := Go.Ground.phase }, { on := 1, ground := Go.Ground.textOnly Go.Departure.lateStores }, { on := 2, ground := Go.Ground.phase }, { on := 3, ground := Go.Ground.phase }, { on := 4, ground := Go.Ground.phase }, { on := 5, ground := Go.Ground.phase }, { on := 6, ground := Go.Ground.phase }, { on := 7, ground := Go.Ground.phase }, { on := 8, ground := Go.Ground.phase }, { on := 9, ground := Go.Ground.textOnly Go.Departure.lateStoresUnsure }, { on := 10, ground := Go.Ground.textOnly Go.Departure.lateStores }, { on := 11, ground := Go.Ground.textOnly Go.Departure.lateStoresUnsure }, { on := 12, ground := Go.Ground.textOnly Go.Departure.lateStoresUnsure }, { on := 13, ground := Go.Ground.phase }, { on := 14, ground := Go.Ground.textOnly Go.Departure.lateStoresUnsure }, { on := 15, ground := Go.Ground.phase }], guard := none }) (v := ?v9) rfl (by kernel_rfl) (by kernel_rfl) (by kernel_rfl) (fun _ _ _ h => h) (Or.inl ⟨by rfl, ?hy9⟩) (by assumption) ?rest9
                    case hy9 =>
                      intro w hSw
                      (try dsimp only at hSw)
                      go_simp
                      try with_reducible rfl
                    try simp only [Act.put, List.setIfInBounds_toArray, List.set_cons_zero, List.set_cons_succ]
                    refine wpAnyH_take (i := 17) (oi := { dst := some 56, op := Go.Op.fieldAddr 55 (Go.Operand.tmp 55) 1, type := 0, pos := "plan.go:47", after := #[{ on := 16, ground := Go.Ground.data }, { on := 0, ground := Go.Ground.phase }, { on := 1, ground := Go.Ground.textOnly Go.Departure.lateStores }, { on := 2, ground := Go.Ground.phase }, { on := 3, ground := Go.Ground.phase }, { on := 4, ground := Go.Ground.phase }, { on := 5, ground := Go.Ground.phase }, { on := 6, ground := Go.Ground.phase }, { on := 7, ground := Go.Ground.phase }, { on := 8, ground := Go.Ground.phase }, { on := 9, ground := Go.Ground.textOnly Go.Departure.lateStoresUnsure }, { on := 10, ground := Go.Ground.textOnly Go.Departure.lateStores }, { on := 11, ground := Go.Ground.textOnly Go.Departure.lateStoresUnsure }, { on := 12, ground := Go.Ground.textOnly Go.Departure.lateStoresUnsure }, { on := 13, ground := Go.Ground.phase }, { on := 14, ground := Go.Ground.textOnly Go.Departure.lateStoresUnsure }, { on := 15, ground := Go.Ground.phase }], guard := none }) (v := ?v10) rfl (by kernel_rfl) (by kernel_rfl) (by kernel_rfl) (fun _ _ _ h => h) (Or.inl ⟨by rfl, ?hy10⟩) (by assumption) ?rest10
                    case hy10 =>
                      intro w hSw
                      (try dsimp only at hSw)
                      go_simp
                      try with_reducible rfl
                    try simp only [Act.put, List.setIfInBounds_toArray, List.set_cons_zero, List.set_cons_succ]
                    have c0' : w4.cell? ⟨sp, 0, none⟩ = some (.slice (some ⟨g, 0, none⟩) ns.length cap) := X4.out.cell 0
                    refine wpAnyH_ready (rs := [18]) (by kernel_rfl) (by simp) ?_
                    refine AllReadyH.cons (o := { dst := none, op := Go.Op.store 39 (Go.Operand.tmp 56) (Go.Operand.tmp 47), type := 0, pos := "plan.go:47", after := #[{ on := 17, ground := Go.Ground.data }, { on := 8, ground := Go.Ground.data }, { on := 15, ground := Go.Ground.chain }, { on := 0, ground := Go.Ground.phase }, { on := 1, ground := Go.Ground.textOnly Go.Departure.lateStores }, { on := 2, ground := Go.Ground.phase }, { on := 3, ground := Go.Ground.phase }, { on := 4, ground := Go.Ground.phase }, { on := 5, ground := Go.Ground.phase }, { on := 6, ground := Go.Ground.phase }, { on := 7, ground := Go.Ground.phase }, { on := 8, ground := Go.Ground.phase }, { on := 9, ground := Go.Ground.textOnly Go.Departure.lateStoresUnsure }, { on := 10, ground := Go.Ground.textOnly Go.Departure.lateStores }, { on := 11, ground := Go.Ground.textOnly Go.Departure.lateStoresUnsure }, { on := 12, ground := Go.Ground.textOnly Go.Departure.lateStoresUnsure }, { on := 13, ground := Go.Ground.phase }, { on := 14, ground := Go.Ground.textOnly Go.Departure.lateStoresUnsure }, { on := 15, ground := Go.Ground.phase }], guard := none }) rfl (fun K hK => ?_) ?_
                    · go_simp
                      refine hK.out _ _ ?_ (fun hHeld => ?_)
                      · (first | exact c0' | simp [c0', World.cell?_setCell_other])
                      · clear hK K
                        try simp only [Act.put, List.setIfInBounds_toArray, List.set_cons_zero, List.set_cons_succ]
                        refine wpAnyH_take (i := 19) (oi := { dst := some 57, op := Go.Op.nilCheck (Go.Operand.tmp 40), type := 0, pos := "plan.go:47", after := #[{ on := 1, ground := Go.Ground.data }, { on := 0, ground := Go.Ground.phase }, { on := 1, ground := Go.Ground.phase }, { on := 2, ground := Go.Ground.phase }, { on := 3, ground := Go.Ground.phase }, { on := 4, ground := Go.Ground.phase }, { on := 5, ground := Go.Ground.phase }, { on := 6, ground := Go.Ground.phase }, { on := 7, ground := Go.Ground.phase }, { on := 8, ground := Go.Ground.phase }, { on := 9, ground := Go.Ground.phase }, { on := 10, ground := Go.Ground.phase }, { on := 11, ground := Go.Ground.phase }, { on := 12, ground := Go.Ground.phase }, { on := 13, ground := Go.Ground.phase }, { on := 14, ground := Go.Ground.phase }, { on := 15, ground := Go.Ground.phase }, { on := 16, ground := Go.Ground.phase }, { on := 17, ground := Go.Ground.phase }, { on := 18, ground := Go.Ground.phase }], guard := none }) (v := ?v11) rfl (by kernel_rfl) (by kernel_rfl) (by kernel_rfl) (fun _ _ _ h => h) (Or.inl ⟨by rfl, ?hy11⟩) (by assumption) ?rest11
                        case hy11 =>
                          intro w hSw
                          (try dsimp only at hSw)
                          go_simp
                          try with_reducible rfl
                        try simp only [Act.put, List.setIfInBounds_toArray, List.set_cons_zero, List.set_cons_succ]
                        refine wpAnyH_take (i := 20) (oi := { dst := some 58, op := Go.Op.fieldAddr 55 (Go.Operand.tmp 57) 2, type := 0, pos := "plan.go:47", after := #[{ on := 19, ground := Go.Ground.data }, { on := 0, ground := Go.Ground.phase }, { on := 1, ground := Go.Ground.phase }, { on := 2, ground := Go.Ground.phase }, { on := 3, ground := Go.Ground.phase }, { on := 4, ground := Go.Ground.phase }, { on := 5, ground := Go.Ground.phase }, { on := 6, ground := Go.Ground.phase }, { on := 7, ground := Go.Ground.phase }, { on := 8, ground := Go.Ground.phase }, { on := 9, ground := Go.Ground.phase }, { on := 10, ground := Go.Ground.phase }, { on := 11, ground := Go.Ground.phase }, { on := 12, ground := Go.Ground.phase }, { on := 13, ground := Go.Ground.phase }, { on := 14, ground := Go.Ground.phase }, { on := 15, ground := Go.Ground.phase }, { on := 16, ground := Go.Ground.phase }, { on := 17, ground := Go.Ground.phase }, { on := 18, ground := Go.Ground.phase }], guard := none }) (v := ?v12) rfl (by kernel_rfl) (by kernel_rfl) (by kernel_rfl) (fun _ _ _ h => h) (Or.inl ⟨by rfl, ?hy12⟩) (by assumption) ?rest12
                        case hy12 =>
                          intro w hSw
                          (try dsimp only at hSw)
                          go_simp
                          try with_reducible rfl
                        try simp only [Act.put, List.setIfInBounds_toArray, List.set_cons_zero, List.set_cons_succ]
                        refine wpAnyH_ready (rs := [21]) (by kernel_rfl) (by simp) ?_
                        refine AllReadyH.cons (o := { dst := none, op := Go.Op.store 39 (Go.Operand.tmp 58) (Go.Operand.tmp 54), type := 0, pos := "plan.go:47", after := #[{ on := 20, ground := Go.Ground.data }, { on := 15, ground := Go.Ground.data }, { on := 18, ground := Go.Ground.chain }, { on := 0, ground := Go.Ground.phase }, { on := 1, ground := Go.Ground.phase }, { on := 2, ground := Go.Ground.phase }, { on := 3, ground := Go.Ground.phase }, { on := 4, ground := Go.Ground.phase }, { on := 5, ground := Go.Ground.phase }, { on := 6, ground := Go.Ground.phase }, { on := 7, ground := Go.Ground.phase }, { on := 8, ground := Go.Ground.phase }, { on := 9, ground := Go.Ground.phase }, { on := 10, ground := Go.Ground.phase }, { on := 11, ground := Go.Ground.phase }, { on := 12, ground := Go.Ground.phase }, { on := 13, ground := Go.Ground.phase }, { on := 14, ground := Go.Ground.phase }, { on := 15, ground := Go.Ground.phase }, { on := 16, ground := Go.Ground.phase }, { on := 17, ground := Go.Ground.phase }, { on := 18, ground := Go.Ground.phase }], guard := none }) rfl (fun K hK => ?_) ?_
                        · go_simp
                          refine hK.out _ _ ?_ (fun hHeld => ?_)
                          · (first | exact c0' | simp [c0', World.cell?_setCell_other])
                          · clear hK K
                            try simp only [Act.put, List.setIfInBounds_toArray, List.set_cons_zero, List.set_cons_succ]
                            refine wpAnyH_done (by kernel_rfl) ?_ _
                            go_wp2_with fail
                            go_meet
                            exact ⟨p, q, region_sx (by rw [List.length_replicate]) HN.out HX.out hcap hs D4.out X4.out P4.out Q4.out Lp.out Lq.out (NE.out)⟩
                        exact AllReadyH.nil
                    exact AllReadyH.nil
                exact AllReadyH.nil
            exact AllReadyH.nil
        exact AllReadyH.nil
    exact AllReadyH.nil
  case rest =>
    obtain ⟨p, q, hsx⟩ := hcut
    have h0 := hsx.box.cell 0
    have HS0 := Lib.hid (show SX W wc sp g cap ns p q (byP ns 0) (List.replicate ns.length (-1)) from hsx)
    clear hsx c0 e0 a1 a2 a3 a3' a4 a5 a6 a7 a8
    have c0 : wc.cell? ⟨sp, 0, none⟩ = some (.slice (some ⟨g, 0, none⟩) ns.length cap) := h0
    clear h0
    go_wp2_with fail
    go_loopg [64] (ns.length + 1) (fun gk c wr => ∃ i : Nat, i ≤ ns.length ∧ ns.length < i + gk ∧ c = .int .i64 (i : Int) ∧ SX W wr sp g cap ns p q (byP ns i) (List.replicate ns.length (-1)))
    case atStart => exact ⟨0, Nat.zero_le _, by omega, rfl, HS0.out⟩
    case round =>
      obtain ⟨i, hi, hgk, rfl, hsx⟩ := hrel
      clear c0
      have HS1 := Lib.hid hsx
      by_cases hlt : i < ns.length
      · obtain ⟨n1, hn1⟩ : ∃ n1, ns[i]? = some n1 := ⟨ns[i], List.getElem?_eq_getElem hlt⟩
        obtain ⟨m, b, pl, cl, hm, hk, hr, hlv, hls⟩ := sx_node hsx hn1
        have t0 : (0 : Int) ≤ (i : Int) := by omega
        have t1 : (i : Int) < (ns.length : Int) := by omega
        have t2 : decide ((i : Int) < (ns.length : Int)) = true := decide_eq_true t1
        have w1_ : IntKind.i64.wrap ((i : Int) + 1) = (i : Int) + 1 := IntWalk.i64_in _ (by omega)
        have hth := nd_there wr
        have hone := hk.ones
        have HR := Lib.hid hr
        have HLS := Lib.hid hls
        have hfit := HQ.out.fits i n1 hn1
        have HF := Lib.hid hfit
        have HN1 := Lib.hid hn1
        have HM := Lib.hid hm
        have HLV := Lib.hid hlv
        have hkd := hfit.kd
        have hlen := hfit.len
        clear hsx hn1 hm hk hr hlv hls hfit
        obtain ⟨R, hR⟩ : ∃ R, R = rowsOf n1.kind := ⟨_, rfl⟩
        obtain ⟨C, hC⟩ : ∃ C, C = condsOf n1.kind := ⟨_, rfl⟩
        have hR2 : R ≤ 2 := by rw [hR]; unfold rowsOf; split <;> (try split) <;> omega
        have hC2 : C ≤ 2 := by rw [hC]; unfold condsOf; split <;> (try split) <;> omega
        have hbl := below_any hkd
        simp only [← hR, ← hC] at hbl
        have HB := Lib.hid hbl
        rw [← hR, ← hC] at hlen
        have HRR := Lib.hid hR
        have HCC := Lib.hid hC
        have r0 : (0 : Int) ≤ (R : Int) := by omega
        have r1 : decide ((R : Int) < 0) = false := decide_eq_false (by omega)
        have r2 : IntKind.i64.wrap ((R : Int) + (C : Int)) = (R : Int) + (C : Int) := IntWalk.i64_in _ (by omega)
        have r3 : ((n1.l.length : Int) != (R : Int) + (C : Int)) = false := by simp; omega
        have hle4 : n1.l.length ≤ 4 := by omega
        have HLEN := Lib.hid hlen
        clear hR hC hkd hlen hbl
        go_wp2_with (first
          | (refine wpList_load_mid (by rfl) 43 (.tmp 67) (by rfl) g (i * 19) (by rfl) m.cells _ HR.out undNode (by rfl) sizeNode ?_)
          | (refine wpList_store_mid (by rfl) 43 (.tmp 4) (.tmp 68) (by rfl) wr.heap.size 0 m.cells.toArray (by rfl) (by rfl) hth sizeNode hone ?_
             generalize hw4 : World.setCells _ _ _ _ = w4
             have F4 := Lib.hid (nd_stored (m := m) hw4)
             have k0 : w4.cell? ⟨wr.heap.size, 0, none⟩ = some (.int .i64 (n1.kind : Int)) := by
               have := F4.out.2.cell 0
               rw [← HM.out]
               exact this
             have k16 : w4.cell? ⟨wr.heap.size, 16, none⟩ = some (.slice pl n1.l.length cl) := by
               have := F4.out.2.cell 16
               rw [← HLV.out]
               exact this
             clear hw4 hth hone))
        refine (HB.out _).mono ?_
        rintro e w1 ⟨rfl, rfl⟩
        have HS4 := Lib.hid (HS1.out.kept F4.out.1)
        go_wp2_with fail
        go_loopg [89] (n1.l.length + 1) (fun gk2 c2 wr2 => ∃ j : Nat, j ≤ n1.l.length ∧ n1.l.length < j + gk2 ∧ c2 = .int .i64 (j : Int) ∧ SX W wr2 sp g cap ns p q (byStep i (n1.l.take j) (byP ns i)) (List.replicate ns.length (-1)))
        case atStart => exact ⟨0, Nat.zero_le _, by omega, rfl, HS4.out⟩
        case round =>
          obtain ⟨j, hj, hgk2, rfl, hsx⟩ := hrel
          have HS5 := Lib.hid hsx
          clear k0 k16
          by_cases hjl : j < n1.l.length
          · obtain ⟨a, ha⟩ : ∃ a, n1.l[j]? = some a := ⟨n1.l[j], List.getElem?_eq_getElem hjl⟩
            obtain ⟨gl, rfl, hca⟩ := HLS.out _ _ _ _ _ hsx j a ha
            obtain ⟨_, h2, c, hc, hcond⟩ := HF.out.below j a ha
            rw [Nat.sub_zero] at hc
            obtain ⟨_, _, _, hnc⟩ := nr_node hsx.sm.nr hc
            have hck : wr.cell? ⟨g, a * 19, none⟩ = some (.int .i64 (c.kind : Int)) := hnc.kind
            have hby := intsZ_get hsx.kb (by_free HQ.out.tree HN1.out ha)
            have hfr := hsx.kb.free a
            have hbx := hsx.box.cell 0
            have hb1 := hsx.box.cell 1
            have q0 : (0 : Int) ≤ (j : Int) := by omega
            have q1 : (j : Int) < (n1.l.length : Int) := by omega
            have q2 : decide ((j : Int) < (n1.l.length : Int)) = true := decide_eq_true q1
            have q3 : (0 : Int) ≤ (a : Int) := by omega
            have q4 : ¬ (a : Int) < 0 := by omega
            have q5 : (a : Int) < (i : Int) := by omega
            have q6 : decide ((i : Int) ≤ (a : Int)) = false := decide_eq_false (by omega)
            have q6' : decide (i ≤ a) = false := decide_eq_false (by omega)
            have q7 : (a : Int) < (ns.length : Int) := by omega
            have w2_ : IntKind.i64.wrap ((j : Int) + 1) = (j : Int) + 1 := IntWalk.i64_in _ (by omega)
            rw [← HRR.out] at hcond
            have hcond2 : (decide (R ≤ j) = true ∧ decide ((R : Int) ≤ (j : Int)) = true ∧ decide (11 ≤ c.kind) = true ∧ decide ((11 : Int) ≤ (c.kind : Int)) = true) ∨ (decide (R ≤ j) = false ∧ decide ((R : Int) ≤ (j : Int)) = false ∧ decide (11 ≤ c.kind) = false ∧ decide ((11 : Int) ≤ (c.kind : Int)) = false) := by
              by_cases h : R ≤ j
              · have := hcond.1 h
                exact .inl ⟨decide_eq_true h, decide_eq_true (by omega), decide_eq_true this, decide_eq_true (by omega)⟩
              · have : ¬ 11 ≤ c.kind := fun h2 => h (hcond.2 h2)
                exact .inr ⟨decide_eq_false h, decide_eq_false (by omega), decide_eq_false this, decide_eq_false (by omega)⟩
            have hst : byStep i (n1.l.take (j + 1)) (byP ns i) = (byStep i (n1.l.take j) (byP ns i)).set a (i : Int) := by
              rw [List.take_add_one, ha, byStep_app]
              rfl
            have HP := Lib.hid (hsx.put_by a (i : Int))
            rw [← hst] at HP
            have HA := Lib.hid ha
            clear hsx ha h2 hc hcond hnc hst
            rcases hcond2 with ⟨v1, v2, v3, v4⟩ | ⟨v1, v2, v3, v4⟩
            all_goals
              go_wp2_with fail
              go_roundg (n1.l.length - j)
              case measure => omega
              case rel => exact ⟨j + 1, by omega, by omega, rfl, HP.out⟩
          · have hjn : j = n1.l.length := by omega
            subst hjn
            have q1 : ¬ (n1.l.length : Int) < (n1.l.length : Int) := by omega
            have q2 : decide ((n1.l.length : Int) < (n1.l.length : Int)) = false := decide_eq_false q1
            have hst : byStep i (n1.l.take n1.l.length) (byP ns i) = byP ns (i + 1) := by
              rw [List.take_length]
              show _ = byStep i ((ns[i]?.map (·.l)).getD []) (byP ns i)
              rw [HN1.out]
              rfl
            rw [hst] at hsx
            have HP := Lib.hid hsx
            clear hsx hst HS5
            go_wp2_with fail
            go_roundg (ns.length - i)
            case measure => omega
            case rel => exact ⟨i + 1, by omega, by omega, rfl, HP.out⟩
      · have hin : i = ns.length := by omega
        subst hin
        have t1 : ¬ (ns.length : Int) < (ns.length : Int) := by omega
        have t2 : decide ((ns.length : Int) < (ns.length : Int)) = false := decide_eq_false t1
        have c0 : wr.cell? ⟨sp, 0, none⟩ = some (.slice (some ⟨g, 0, none⟩) ns.length cap) := hsx.box.cell 0
        have c1 : wr.cell? ⟨sp, 1, none⟩ = some (.slice (some ⟨p, 0, none⟩) ns.length ns.length) := hsx.box.cell 1
        have a1 : (0 : Int) ≤ (ns.length : Int) - 1 := by omega
        have a2 : ((ns.length : Int) - 1).toNat = ns.length - 1 := by omega
        have a8 : IntKind.i64.wrap ((ns.length : Int) - 1) = (ns.length : Int) - 1 := IntWalk.i64_in _ (by omega)
        have a9 : (ns.length : Int) - 1 ≤ (ns.length : Int) := by omega
        clear hsx
        go_wp2_with fail
        go_big_quiet (first | (go_at_call 31; refine Calls.quiet_of_same (no_lone HQ.out hs (HS1.out.kb.drewN _))))
        go_wp2_with fail
        go_ret
        exact ⟨p, q, rfl, HS1.out.kept (Drawn.base _ _).below⟩
end Go.Proofs.Ytjpogmomgmjmbaa
