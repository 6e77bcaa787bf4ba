/- Several texts of the proof, joined. -/
import Derived.Test.YtnaehhpikhlppaaGreatDoorD36
set_option maxHeartbeats 4000000
set_option linter.unusedVariables false
set_option linter.unusedSimpArgs false
namespace Go.Proofs.YtnaehhpikhlppaaGreatDoor
open Go.RowKit LexS ParS BigFrame
attribute [local go_sem] World.cell?_alloc_some cell_drewN_new free_drewN_new cell_drew_new free_drew_new

section
variable {base r deep : Nat} {tv nv nv' : Value} {T : List Tok} {st : RSt} {ts ts1 : List Tk} {ns : List Nd} {W W' Wk w1 w2 : World}
theorem layR_fin {m : NodeM} {ms : List NodeM} {g cap : Nat} (h : RF base r tv T deep (.ok (ts, ns)) nv W) (hm : MOk W base m) (hms : ms.map (·.node) = ns) (hall : ∀ x ∈ ms, MOk W base x) (hb : Below W.heap.size W Wk) (h5 : ns.length < 5000)
    (ho : W'.ownsRow base 42 19 (.slice (some ⟨g, 0, none⟩) (ns.length + 1) cap) (ns.length + 1) (cellsM ms ++ m.cells)) (hg : Wk.grownBy W' nv.ownBlock) (hgH : nv.ownBlock = some g ∨ g = Wk.heap.size) :
    RF base r tv T deep (.ok (ts, ns ++ [m.node])) (.slice (some ⟨g, 0, none⟩) (ns.length + 1) cap) (W'.setCell ⟨r, 2, none⟩ (.slice (some ⟨g, 0, none⟩) (ns.length + 1) cap)) ∧
      Stp r nv W (.slice (some ⟨g, 0, none⟩) (ns.length + 1) cap) (W'.setCell ⟨r, 2, none⟩ (.slice (some ⟨g, 0, none⟩) (ns.length + 1) cap)) := by
  have s1 : Stp r nv W (.slice (some ⟨g, 0, none⟩) (ns.length + 1) cap) W' := Stp.grown hb hg rfl hgH
  have s := s1.set 2 (.slice (some ⟨g, 0, none⟩) (ns.length + 1) cap)
  have hbox : Blk W' r 81 #[tv, .int .i64 ((T.length - ts.length : Nat) : Int), nv, .int .i64 0, .int .i64 (deep : Int)] := (hg.block r (Nat.lt_of_lt_of_le h.box.lt hb.size) (fun e => h.r_ne e.symm)).trans (h.box.kept hb)
  have hgr : g ≠ r := by
    intro e
    obtain ⟨cur, hc⟩ := row_block ho rfl
    rw [e] at hc
    have := block_types hc hbox
    cases this
  refine ⟨⟨hbox.put 2 _, h.le, h.row s h.toks (by decide) (by decide), h.left, fun ts' ns' e => ?_, h.few, ns ++ [m.node], ⟨ms ++ [m], by simp [hms], ?_, ?_⟩, by simp; omega, fun ts' ns' e => ?_⟩, s⟩
  · cases e
    exact h.suf _ _ rfl
  · rw [← cellsM_app, List.length_append]
    refine ⟨ho.1, ?_⟩
    rcases ho.2 with ⟨h4, _⟩ | ⟨g', cap', cur, h4, h5, h6, h7⟩
    · cases h4
    · refine .inr ⟨g', cap', cur, h4, h5, ?_, h7⟩
      rw [← h6]
      simp only [World.setCell, Array.getElem?_modify]
      injection h4 with h4
      injection h4 with h4
      injection h4 with h4
      rw [if_neg (fun e => hgr (by rw [e, h4]))]
  · intro x hx
    rcases List.mem_append.1 hx with hx | hx
    · exact h.mok (hall x hx) s
    · rw [List.mem_singleton.1 hx]
      exact h.mok hm s
  · cases e
    rfl
/-- What lay answers. -/
def LayP (base r : Nat) (tv : Value) (T : List Tok) (deep : Nat) (st : RSt) (nd : Nd) (nv : Value) (W : World) (e : Ending) (W' : World) : Prop :=
  ∃ (nv' : Value) (i : Int), e = .returned (.int .i64 i) ∧ (∀ ts ns, st = .ok (ts, ns) → i = (ns.length : Int)) ∧ RF base r tv T deep (run (lay nd) st) nv' W' ∧ Stp r nv W nv' W'
theorem lay_bad (cs : Array Value) (nd : Nd) {er : Er} (h : RF base r tv T deep (.error er) nv W) : Calls Tryz.prog 68 #[RP r, .agg cs] W (LayP base r tv T deep (.error er) nd nv W) := by
  obtain ⟨W0, hW0⟩ : ∃ W0, W0 = W.alloc (.cells cs 42) := ⟨_, rfl⟩
  have hb0 : Below W.heap.size W W0 := by rw [hW0]; exact (Below.refl _ _).alloc (Nat.le_refl _) _
  obtain ⟨ns, hns, hl, _⟩ := h.nodes
  obtain ⟨no, nc, rfl⟩ : ∃ o c, nv = .slice o ns.length c := by
    obtain ⟨ms, _, ho, _⟩ := hns
    exact slice_form ho
  have H0 := h.kept hb0
  have c3 : W0.cell? ⟨r, 3, none⟩ = some (.int .i64 (codeOf er.2 : Int)) := H0.box.cell 3
  have c2 : W0.cell? ⟨r, 2, none⟩ = some (.slice no ns.length nc) := H0.box.cell 2
  have hc := codeOf_ne er.2
  obtain ⟨c, hcc⟩ : ∃ c, c = codeOf er.2 := ⟨_, rfl⟩
  rw [← hcc] at c3 hc
  have q1 : ((c : Int) == 0) = false := by rw [beq_eq_false_iff_ne]; omega
  have q2 : ¬ (c : Int) = 0 := by omega
  have HW := Lib.hid hW0
  have HE := Lib.hid (And.intro H0 (Stp.of (r := r) (nv := .slice no ns.length nc) hb0))
  clear h hc hcc hns H0 hW0 hb0
  have v0 : IntKind.i64.wrap ((ns.length : Int) - 1) = (ns.length : Int) - 1 := IntWalk.i64_in _ (by omega)
  clear hl
  go_enter Tryz.func68, Tryz.ntmps68
  go_upto_region 1 with (fail)
  rw [show W.alloc (.cells cs 42) = W0 from HW.out.symm]
  go_wp2_with fail
  go_ret
  exact ⟨_, _, rfl, fun ts ns e => (by cases e), HE.out⟩
set_option maxRecDepth 100000 in
theorem lay_ok {m : NodeM} (h : RF base r tv T deep (.ok (ts, ns)) nv W) (hm : MOk W base m) (hn : ns.length < 5000) (hbase : base ≤ W.heap.size) :
    Calls Tryz.prog 68 #[RP r, .agg m.cells.toArray] W (LayP base r tv T deep (.ok (ts, ns)) m.node nv W) := by
  obtain ⟨ns0, ⟨ms, hms, hrow, hall⟩, _, hns⟩ := h.nodes
  obtain rfl := hns _ _ rfl
  have h1 := one_cells m hm
  have hcl : m.cells.length = 19 := rfl
  obtain ⟨cs, hcs⟩ : ∃ cs, cs = m.cells := ⟨_, rfl⟩
  rw [← hcs] at h1 hcl ⊢
  obtain ⟨W0, hW0⟩ : ∃ W0, W0 = W.alloc (.cells cs.toArray 42) := ⟨_, rfl⟩
  have hb0 : Below W.heap.size W W0 := by rw [hW0]; exact (Below.refl _ _).alloc (Nat.le_refl _) _
  have hx0 : Blk W0 W.heap.size 42 cs.toArray := by rw [hW0]; exact Blk.new W _ _
  have H0 := h.kept hb0
  have HR0 := own_kept hrow hb0
  have c3 : W0.cell? ⟨r, 2, none⟩ = some nv := H0.box.cell 2
  have c4 : W0.cell? ⟨r, 3, none⟩ = some (.int .i64 0) := H0.box.cell 3
  have f3 := H0.box.free 2
  have HH := Lib.hid h
  have HM := Lib.hid hm
  have HA := Lib.hid hall
  have HC := Lib.hid hcs
  have HW := Lib.hid hW0
  have HX := Lib.hid hx0
  have HB := Lib.hid hb0
  have HRW := Lib.hid hrow
  have HMS := Lib.hid hms
  clear h hm hall hcs H0 hx0 hb0 hrow hns hms hW0
  go_enter Tryz.func68, Tryz.ntmps68
  go_upto_region 1 with (fail)
  rw [show W.alloc (.cells cs.toArray 42) = W0 from HW.out.symm]
  go_wp2_with fail
  obtain ⟨i0, hi0, hz0, hz1, hz2⟩ := info_parts infoNode
  have hsz : (Tryz.prog.info? 42).map (·.size) = some cs.length := by rw [hcl]; exact sizeNode
  have hbs := fold_nd cs hcl
  obtain ⟨Wk, hWk⟩ : ∃ Wk, Wk = (W0.alloc (.cells cs.toArray 42)).drew := ⟨_, rfl⟩
  have hbk : Below W0.heap.size W0 Wk := by rw [hWk]; exact ((Below.refl _ _).alloc (Nat.le_refl _) _).drew
  have HBK := Lib.hid (chain HB.out hbk)
  have HRA := Lib.hid (own_kept HR0 hbk)
  have hrng : W0.rangeAt W.heap.size 0 cs := by
    intro j v hj
    rw [Nat.zero_add, HX.out.cell j]
    simpa using hj
  have hS0 : W0.drew.cell? ⟨r, 2, none⟩ = some nv ∧ W0.drew.rangeAt W.heap.size 0 cs := ⟨c3, hrng⟩
  have hS1 : Wk.cell? ⟨r, 2, none⟩ = some nv ∧ Wk.rangeAt W.heap.size 0 cs := ⟨keepc hbk c3, fun j v hj => keepc hbk (hrng j v hj)⟩
  have c3b := hS1.1
  have f3b : Wk.frozen? ⟨r, 2, none⟩ = false := ((HH.out.kept HBK.out).box).free 2
  have HN := Lib.hid (show ∀ (j : Nat) u, cs[j]? = some u → Wk.cell? ((⟨W0.heap.size, 0, none⟩ : Addr).add j) = some u by
    intro j u hu
    rw [hWk]
    have := blk_cells (Blk.new W0 42 cs.toArray).drew j u (by simpa using hu)
    exact this)
  have hnw : nv.ownBlock ≠ some W.heap.size := fun e => by
    have := HRW.out.lt _ e
    omega
  have hS2 : ∀ w1 : World, w1.cell? ⟨r, 2, none⟩ = some nv → Wk.grownBy w1 nv.ownBlock → w1.cell? ⟨r, 2, none⟩ = some nv ∧ w1.rangeAt W.heap.size 0 cs := fun w1 h1 hg => ⟨h1, fun j v hj => hg.cell (hS1.2 j v hj) (fun e => hnw e.symm)⟩
  have hr2 : r < Wk.heap.size := Nat.lt_of_lt_of_le HH.out.box.lt HBK.out.size
  have hbs2 : base ≤ Wk.heap.size := Nat.le_trans hbase HBK.out.size
  have hmx : ns.length + 1 ≤ maxLen := by unfold maxLen; omega
  have hby : (ns.length + 1) * 216 ≤ 140737488355328 := by omega
  have hcl1 : cs.length = 1 * 19 := by rw [hcl]
  have HWK := Lib.hid hWk
  clear hWk
  rw [show (#[{ dst := some 10, op := Op.move (Operand.tmp 0), type := 79, pos := "ref.go:59", after := #[], guard := none }, { dst := some 11, op := Op.move (Operand.tmp 0), type := 79, pos := "ref.go:59", after := #[], guard := none }, { dst := some 12, op := Op.nilCheck (Operand.tmp 11), type := 0, pos := "ref.go:59", after := #[{ on := 1, ground := Ground.data }], guard := none }, { dst := some 13, op := Op.fieldAddr 81 (Operand.tmp 12) 2, type := 0, pos := "ref.go:59", after := #[{ on := 2, ground := Ground.data }], guard := none }, { dst := some 14, op := Op.load 23 (Operand.tmp 13), type := 23, pos := "ref.go:59", after := #[{ on := 3, ground := Ground.data }], guard := none }, { dst := some 15, op := Op.load 42 (Operand.tmp 3), type := 42, pos := "ref.go:59", after := #[], guard := none }, { dst := some 16, op := Op.buildSlice 23 1 #[(0, Operand.tmp 15)], type := 23, pos := "ref.go:59", after := #[{ on := 5, ground := Ground.data }], guard := none }, { dst := some 17, op := Op.call { callee := Callee.builtin Go.Builtin.append, args := #[Operand.tmp 14, Operand.tmp 16], argTypes := #[23, 23] }, type := 23, pos := "ref.go:59", after := #[{ on := 4, ground := Ground.data }, { on := 6, ground := Ground.data }], guard := none }, { dst := some 18, op := Op.nilCheck (Operand.tmp 10), type := 0, pos := "ref.go:59", after := #[{ on := 0, ground := Ground.data }, { on := 0, ground := Ground.phase }, { on := 1, ground := Ground.phase }, { on := 2, ground := Ground.phase }, { on := 3, ground := Ground.phase }, { on := 4, ground := Ground.phase }, { on := 5, ground := Ground.phase }, { on := 6, ground := Ground.phase }, { on := 7, ground := Ground.phase }], guard := none }, { dst := some 19, op := Op.fieldAddr 81 (Operand.tmp 18) 2, type := 0, pos := "ref.go:59", after := #[{ on := 8, ground := Ground.data }, { on := 0, ground := Ground.phase }, { on := 1, ground := Ground.phase }, { on := 2, ground := Ground.phase }, { on := 3, ground := Ground.phase }, { on := 4, ground := Ground.phase }, { on := 5, ground := Ground.phase }, { on := 6, ground := Ground.phase }, { on := 7, ground := Ground.phase }], guard := none }, { dst := none, op := Op.store 23 (Operand.tmp 19) (Operand.tmp 17), type := 0, pos := "ref.go:59", after := #[{ on := 9, ground := Ground.data }, { on := 7, ground := Ground.data }, { on := 7, ground := Ground.chain }, { on := 0, ground := Ground.phase }, { on := 1, ground := Ground.phase }, { on := 2, ground := Ground.phase }, { on := 3, ground := Ground.phase }, { on := 4, ground := Ground.phase }, { on := 5, ground := Ground.phase }, { on := 6, ground := Ground.phase }, { on := 7, ground := Ground.phase }], guard := none }] : Array Oper) = Array.push #[{ dst := some 10, op := Op.move (Operand.tmp 0), type := 79, pos := "ref.go:59", after := #[], guard := none }, { dst := some 11, op := Op.move (Operand.tmp 0), type := 79, pos := "ref.go:59", after := #[], guard := none }, { dst := some 12, op := Op.nilCheck (Operand.tmp 11), type := 0, pos := "ref.go:59", after := #[{ on := 1, ground := Ground.data }], guard := none }, { dst := some 13, op := Op.fieldAddr 81 (Operand.tmp 12) 2, type := 0, pos := "ref.go:59", after := #[{ on := 2, ground := Ground.data }], guard := none }, { dst := some 14, op := Op.load 23 (Operand.tmp 13), type := 23, pos := "ref.go:59", after := #[{ on := 3, ground := Ground.data }], guard := none }, { dst := some 15, op := Op.load 42 (Operand.tmp 3), type := 42, pos := "ref.go:59", after := #[], guard := none }, { dst := some 16, op := Op.buildSlice 23 1 #[(0, Operand.tmp 15)], type := 23, pos := "ref.go:59", after := #[{ on := 5, ground := Ground.data }], guard := none }, { dst := some 17, op := Op.call { callee := Callee.builtin Go.Builtin.append, args := #[Operand.tmp 14, Operand.tmp 16], argTypes := #[23, 23] }, type := 23, pos := "ref.go:59", after := #[{ on := 4, ground := Ground.data }, { on := 6, ground := Ground.data }], guard := none }, { dst := some 18, op := Op.nilCheck (Operand.tmp 10), type := 0, pos := "ref.go:59", after := #[{ on := 0, ground := Ground.data }, { on := 0, ground := Ground.phase }, { on := 1, ground := Ground.phase }, { on := 2, ground := Ground.phase }, { on := 3, ground := Ground.phase }, { on := 4, ground := Ground.phase }, { on := 5, ground := Ground.phase }, { on := 6, ground := Ground.phase }, { on := 7, ground := Ground.phase }], guard := none }, { dst := some 19, op := Op.fieldAddr 81 (Operand.tmp 18) 2, type := 0, pos := "ref.go:59", after := #[{ on := 8, ground := Ground.data }, { on := 0, ground := Ground.phase }, { on := 1, ground := Ground.phase }, { on := 2, ground := Ground.phase }, { on := 3, ground := Ground.phase }, { on := 4, ground := Ground.phase }, { on := 5, ground := Ground.phase }, { on := 6, ground := Ground.phase }, { on := 7, ground := Ground.phase }], guard := none }] { dst := none, op := Op.store 23 (Operand.tmp 19) (Operand.tmp 17), type := 0, pos := "ref.go:59", after := #[{ on := 9, ground := Ground.data }, { on := 7, ground := Ground.data }, { on := 7, ground := Ground.chain }, { on := 0, ground := Ground.phase }, { on := 1, ground := Ground.phase }, { on := 2, ground := Ground.phase }, { on := 3, ground := Ground.phase }, { on := 4, ground := Ground.phase }, { on := 5, ground := Ground.phase }, { on := 6, ground := Ground.phase }, { on := 7, ground := Ground.phase }], guard := none } from rfl]
  refine wp_region_last (S := fun w' => w'.cell? ⟨r, 2, none⟩ = some nv ∧ w'.rangeAt W.heap.size 0 cs) (by kernel_rfl) (by kernel_rfl) hS0 (fun hHeld => ?_)
  refine wpAnyH_take (i := 0) (oi := { dst := some 10, op := Op.move (Operand.tmp 0), type := 79, pos := "ref.go:59", after := #[], guard := none }) (v := ?v1) rfl (by kernel_rfl) (by kernel_rfl) (by kernel_rfl) (fun _ _ _ h => h) (Or.inl ⟨by rfl, ?hy1⟩) (by assumption) ?rest1
  case hy1 =>
    intro w hSw
    (try dsimp only at hSw)
    go_simp
    try with_reducible rfl
  try simp only [Act.put, List.setIfInBounds_toArray, List.set_cons_zero, List.set_cons_succ]
  refine wpAnyH_take (i := 1) (oi := { dst := some 11, op := Op.move (Operand.tmp 0), type := 79, pos := "ref.go:59", after := #[], guard := none }) (v := ?v2) rfl (by kernel_rfl) (by kernel_rfl) (by kernel_rfl) (fun _ _ _ h => h) (Or.inl ⟨by rfl, ?hy2⟩) (by assumption) ?rest2
  case hy2 =>
    intro w hSw
    (try dsimp only at hSw)
    go_simp
    try with_reducible rfl
  try simp only [Act.put, List.setIfInBounds_toArray, List.set_cons_zero, List.set_cons_succ]
  refine wpAnyH_take (i := 2) (oi := { dst := some 12, op := Op.nilCheck (Operand.tmp 11), type := 0, pos := "ref.go:59", after := #[{ on := 1, ground := Ground.data }], guard := none }) (v := ?v3) rfl (by kernel_rfl) (by kernel_rfl) (by kernel_rfl) (fun _ _ _ h => h) (Or.inl ⟨by rfl, ?hy3⟩) (by assumption) ?rest3
  case hy3 =>
    intro w hSw
    (try dsimp only at hSw)
    go_simp
    try with_reducible rfl
  try simp only [Act.put, List.setIfInBounds_toArray, List.set_cons_zero, List.set_cons_succ]
  refine wpAnyH_take (i := 3) (oi := { dst := some 13, op := Op.fieldAddr 81 (Operand.tmp 12) 2, type := 0, pos := "ref.go:59", after := #[{ on := 2, ground := Ground.data }], guard := none }) (v := ?v4) rfl (by kernel_rfl) (by kernel_rfl) (by kernel_rfl) (fun _ _ _ h => h) (Or.inl ⟨by rfl, ?hy4⟩) (by assumption) ?rest4
  case hy4 =>
    intro w hSw
    (try dsimp only at hSw)
    go_simp
    try with_reducible rfl
  try simp only [Act.put, List.setIfInBounds_toArray, List.set_cons_zero, List.set_cons_succ]
  refine wpAnyH_take (i := 4) (oi := { dst := some 14, op := Op.load 23 (Operand.tmp 13), type := 23, pos := "ref.go:59", after := #[{ on := 3, ground := Ground.data }], guard := none }) (v := ?v5) rfl (by kernel_rfl) (by kernel_rfl) (by kernel_rfl) (fun _ _ _ h => h) (Or.inl ⟨by rfl, ?hy5⟩) (by assumption) ?rest5
  case hy5 =>
    intro w hSw
    (try dsimp only at hSw)
    go_simp
    try with_reducible rfl
  try simp only [Act.put, List.setIfInBounds_toArray, List.set_cons_zero, List.set_cons_succ]
  refine' wpAnyH_take (i := 5) (oi := { dst := some 15, op := Op.load 42 (Operand.tmp 3), type := 42, pos := "ref.go:59", after := #[], guard := none }) (v := _) rfl (by kernel_rfl) (by kernel_rfl) (by kernel_rfl) (fun _ _ _ h => h) (yieldsIf_load_mid (by rfl) _ _ rfl _ _ rfl _ _ ?hS ?hu ?hd ?hi) (by assumption) ?rest
  case hS => intro w hSw; (try dsimp only at hSw); exact hSw.2
  case hu => exact undNode
  case hd => rfl
  case hi => exact hsz
  try simp only [Act.put, List.setIfInBounds_toArray, List.set_cons_zero, List.set_cons_succ]
  refine wpAnyH_ready (rs := [6]) (by kernel_rfl) (by simp) ?_
  refine AllReadyH.cons (o := { dst := some 16, op := Op.buildSlice 23 1 #[(0, Operand.tmp 15)], type := 23, pos := "ref.go:59", after := #[{ on := 5, ground := Ground.data }], guard := none }) rfl (fun K hK => ?_) ?_
  · go_simp
    rw [show (W0.alloc (Obj.cells cs.toArray 42)).drew = Wk from HWK.out.symm]
    refine hK.out _ _ ?_ (fun hHeld => ?_)
    · exact hS1
    · clear hK K
      try simp only [Act.put, List.setIfInBounds_toArray, List.set_cons_zero, List.set_cons_succ]
      refine wpAnyH_ready (rs := [7]) (by kernel_rfl) (by simp) ?_
      refine AllReadyH.cons (o := { dst := some 17, op := Op.call { callee := Callee.builtin Go.Builtin.append, args := #[Operand.tmp 14, Operand.tmp 16], argTypes := #[23, 23] }, type := 23, pos := "ref.go:59", after := #[{ on := 4, ground := Ground.data }, { on := 6, ground := Ground.data }], guard := none }) rfl (fun K hK => ?_) ?_
      · refine step_append_lies _ (by rfl) _ _ _ (by rfl) base 42 i0 _ 19 216 (by kernel_rfl) hi0 hz0 hz1 hz2 (by rfl) (by decide) _ ns.length (cellsM ms) (by rfl) HRA.out ⟨W0.heap.size, 0, none⟩ 1 1 cs (by rfl) hcl1 HN.out h1 (by decide) hmx hby hbs2 _ rfl ?_
        intro g cap w1 ho hg hgH hlt
        have HF := Lib.hid (And.intro ho (And.intro hg hgH))
        have c3 : w1.cell? ⟨r, 2, none⟩ = some nv := hg.cell c3b (fun e => HH.out.r_ne e.symm)
        have f3 : w1.frozen? ⟨r, 2, none⟩ = false := (World.frozen?_of_block (hg.block r hr2 (fun e => HH.out.r_ne e.symm))).trans f3b
        clear ho hg hgH hlt
        refine hK.out _ _ ?_ (fun hHeld => ?_)
        · exact hS2 w1 c3 HF.out.2.1
        · clear hK K
          try simp only [Act.put, List.setIfInBounds_toArray, List.set_cons_zero, List.set_cons_succ]
          refine wpAnyH_take (i := 8) (oi := { dst := some 18, op := Op.nilCheck (Operand.tmp 10), type := 0, pos := "ref.go:59", after := #[{ on := 0, ground := Ground.data }, { on := 0, ground := Ground.phase }, { on := 1, ground := Ground.phase }, { on := 2, ground := Ground.phase }, { on := 3, ground := Ground.phase }, { on := 4, ground := Ground.phase }, { on := 5, ground := Ground.phase }, { on := 6, ground := Ground.phase }, { on := 7, ground := Ground.phase }], guard := none }) (v := ?v6) rfl (by kernel_rfl) (by kernel_rfl) (by kernel_rfl) (fun _ _ _ h => h) (Or.inl ⟨by rfl, ?hy6⟩) (by assumption) ?rest6
          case hy6 =>
            intro w hSw
            (try dsimp only at hSw)
            go_simp
            try with_reducible rfl
          try simp only [Act.put, List.setIfInBounds_toArray, List.set_cons_zero, List.set_cons_succ]
          refine wpAnyH_take (i := 9) (oi := { dst := some 19, op := Op.fieldAddr 81 (Operand.tmp 18) 2, type := 0, pos := "ref.go:59", after := #[{ on := 8, ground := Ground.data }, { on := 0, ground := Ground.phase }, { on := 1, ground := Ground.phase }, { on := 2, ground := Ground.phase }, { on := 3, ground := Ground.phase }, { on := 4, ground := Ground.phase }, { on := 5, ground := Ground.phase }, { on := 6, ground := Ground.phase }, { on := 7, ground := Ground.phase }], guard := none }) (v := ?v7) rfl (by kernel_rfl) (by kernel_rfl) (by kernel_rfl) (fun _ _ _ h => h) (Or.inl ⟨by rfl, ?hy7⟩) (by assumption) ?rest7
          case hy7 =>
            intro w hSw
            (try dsimp only at hSw)
            go_simp
            try with_reducible rfl
          try simp only [Act.put, List.setIfInBounds_toArray, List.set_cons_zero, List.set_cons_succ]
          refine wpAnyH_done (by kernel_rfl) ?_ _
          refine then_step (fun K hK => ?_)
          go_simp
          refine hK.out _ _ ?_
          clear hK K
          have HE := Lib.hid (layR_fin HH.out HM.out HMS.out HA.out HBK.out hn (by rw [← HC.out]; exact HF.out.1) HF.out.2.1 HF.out.2.2)
          go_wp2_with fail
          go_ret
          exact ⟨_, _, rfl, fun ts' ns' e => (by cases e; rfl), HE.out⟩
      exact AllReadyH.nil
  exact AllReadyH.nil
theorem lay_r (nd : Nd) (cs : Array Value) (h : RF base r tv T deep st nv W) (hbase : base ≤ W.heap.size) (hok : ∀ ts ns, st = .ok (ts, ns) → ns.length < 5000 ∧ ∃ m : NodeM, cs = m.cells.toArray ∧ MOk W base m ∧ m.node = nd) :
    Calls Tryz.prog 68 #[RP r, .agg cs] W (LayP base r tv T deep st nd nv W) := by
  rcases st with er | ⟨ts, ns⟩
  · exact lay_bad cs nd h
  · obtain ⟨hn, m, rfl, hm, rfl⟩ := hok ts ns rfl
    exact lay_ok h hm hn hbase
end
end Go.Proofs.YtnaehhpikhlppaaGreatDoor

namespace Go.Proofs.YtnaehhpikhlppaaGreatDoor
open Go.RowKit LexS ParS BigFrame
attribute [local go_sem] field_tok1 field_tok2
attribute [local go_sem] World.cell?_alloc_some cell_drewN_new free_drewN_new cell_drew_new free_drew_new

/-- One thing more is open, unless there are too many. -/
def deeperR (deep : Nat) : RSt → RSt
  | .error e => .error e
  | .ok (ts, ns) => if deep < 16 then .ok (ts, ns) else .error (ts.length + 1, true)
section
variable {base r deep d2 : Nat} {tv nv nv' : Value} {T : List Tok} {st st2 : RSt} {ts ts1 : List Tk} {ns : List Nd} {W W' Wk w1 w2 : World}
/-- The reader behind a call that lays nothing, from what it was. -/
theorem RF.again (h : RF base r tv T deep st nv W) (m : Mv r W W') (hb : Blk W' r 81 #[tv, .int .i64 ((T.length - leftR st2 : Nat) : Int), nv, .int .i64 (codeR st2 : Int), .int .i64 (d2 : Int)])
    (hl : leftR st2 ≤ T.length) (hs : ∀ ts ns, st2 = .ok (ts, ns) → ts = (T.map tk).drop (T.length - ts.length)) (hn : ∀ ts ns, st2 = .ok (ts, ns) → ∃ ts', st = .ok (ts', ns)) : RF base r tv T d2 st2 nv W' := by
  have s := m.stp nv
  obtain ⟨ns, ⟨ms, h1, h2, h3⟩, h5, h4⟩ := h.nodes
  exact ⟨hb, h.le, h.row s h.toks (by decide) (by decide), hl, hs, h.few, ns, ⟨ms, h1, row_mv h2 m h.r_ne, fun x hx => h.mok (h3 x hx) s⟩, h5, fun ts ns' e => by
    obtain ⟨ts', e'⟩ := hn ts ns' e
    exact h4 ts' ns' e'⟩
/-- Its depth is written. -/
theorem RF.depth (h : RF base r tv T deep st nv W) {a : Int} (ha : a = (d2 : Int)) : RF base r tv T d2 st nv (W.setCell ⟨r, 4, none⟩ (.int .i64 a)) :=
  h.put 4 _ (by rw [ha]; simp) h.left h.suf (fun ts ns e => ⟨ts, e⟩)
theorem RF.toolong (h : RF base r tv T deep (.ok (ts, ns)) nv W) (hl : ts.length < T.length) {a : Int} (ha : a = ((T.length - ts.length : Nat) : Int) - 1) :
    RF base r tv T deep (.error (ts.length + 1, true)) nv ((W.setCell ⟨r, 3, none⟩ (.int .i64 2)).setCell ⟨r, 1, none⟩ (.int .i64 a)) := by
  have m : Mv r W ((W.setCell ⟨r, 3, none⟩ (.int .i64 2)).setCell ⟨r, 1, none⟩ (.int .i64 a)) := ((Stp.refl _ _ _).set 3 _).set 1 _
  refine h.again m ?_ (show ts.length + 1 ≤ T.length by omega) (fun ts ns e => by cases e) (fun ts ns e => by cases e)
  have hb := (h.box.put 3 (.int .i64 2)).put 1 (.int .i64 a)
  have e : a = ((T.length - (ts.length + 1) : Nat) : Int) := by rw [ha]; omega
  subst e
  simpa [leftR, codeR, codeOf] using hb
set_option maxRecDepth 100000 in
theorem deeper_r (h : RF base r tv T deep st nv W) (hd : deep ≤ 100) (hl : ∀ ts ns, st = .ok (ts, ns) → ts.length < T.length) :
    Calls Tryz.prog 124 #[RP r] W fun e W' => e = .returned (.tuple #[]) ∧ RF base r tv T (deep + 1) (deeperR deep st) nv W' ∧ Mv r W W' := by
  have H := Lib.hid h
  have HL := Lib.hid hl
  have hfew := h.few
  have c4 : W.cell? ⟨r, 4, none⟩ = some (.int .i64 (deep : Int)) := h.box.cell 4
  have f4 := h.box.free 4
  have f3 := h.box.free 3
  have f1 := h.box.free 1
  rcases st with ⟨k, long⟩ | ⟨ts, ns⟩
  · have c3 : W.cell? ⟨r, 3, none⟩ = some (.int .i64 (codeOf long : Int)) := h.box.cell 3
    have hc := codeOf_ne long
    obtain ⟨c, hcc⟩ : ∃ c, c = codeOf long := ⟨_, rfl⟩
    rw [← hcc] at c3 hc
    have q1 : ((c : Int) == 0) = false := by rw [beq_eq_false_iff_ne]; omega
    have q2 : ¬ (c : Int) = 0 := by omega
    clear h hc hcc hl
    go_enter Tryz.func124, Tryz.ntmps124
    go_wp2_with fail
    exact bodyPost_end (v := .tuple #[]) (results_none rfl _ _ _) rfl ⟨rfl, H.out.depth (by omega), (Stp.refl _ _ _).set 4 _⟩
  · have c3 : W.cell? ⟨r, 3, none⟩ = some (.int .i64 0) := h.box.cell 3
    by_cases hlt : deep < 16
    · have q1 : decide ((16 : Int) ≤ (deep : Int)) = false := decide_eq_false (by omega)
      have q2 : ¬ (16 : Int) ≤ (deep : Int) := by omega
      have q3 : decide (16 ≤ deep) = false := decide_eq_false (by omega)
      have e1 : deeperR deep (.ok (ts, ns)) = .ok (ts, ns) := if_pos hlt
      rw [e1]
      clear h hl hlt e1
      go_enter Tryz.func124, Tryz.ntmps124
      go_wp2_with fail
      exact bodyPost_end (v := .tuple #[]) (results_none rfl _ _ _) rfl ⟨rfl, H.out.depth (by omega), (Stp.refl _ _ _).set 4 _⟩
    · have q1 : decide ((16 : Int) ≤ (deep : Int)) = true := decide_eq_true (by omega)
      have q2 : (16 : Int) ≤ (deep : Int) := by omega
      have q3 : decide (16 ≤ deep) = true := decide_eq_true (by omega)
      have e1 : deeperR deep (.ok (ts, ns)) = .error (ts.length + 1, true) := if_neg hlt
      rw [e1]
      obtain ⟨i, hi⟩ : ∃ i, i = T.length - ts.length := ⟨_, rfl⟩
      have c1 : W.cell? ⟨r, 1, none⟩ = some (.int .i64 (i : Int)) := by rw [hi]; exact h.box.cell 1
      have hi2 : (i : Int) ≤ 1024 := by omega
      have hi3 : (0 : Int) ≤ (i : Int) - 1 := by have := hl _ _ rfl; omega
      have v1 : IntKind.i64.wrap ((i : Int) - 1) = (i : Int) - 1 := IntWalk.i64_in _ (by omega)
      have HF := Lib.hid (h.toolong (hl _ _ rfl) (a := (i : Int) - 1) (by rw [hi]))
      clear h hl hlt e1 hi
      go_enter Tryz.func124, Tryz.ntmps124
      go_wp2_with fail
      exact bodyPost_end (v := .tuple #[]) (results_none rfl _ _ _) rfl ⟨rfl, HF.out.depth (by omega), (((Stp.refl _ _ _).set 3 _).set 1 _).set 4 _⟩
end
end Go.Proofs.YtnaehhpikhlppaaGreatDoor
