/- The walk of catchmentref12's Same, at two trees that are alike. -/
import Derived.Test.YtlonkcmkgmbkcaaDoorSameN
import Derived.Test.YtlonkcmkgmbkcaaDoorLast
namespace Go.Proofs.YtlonkcmkgmbkcaaDoor
open Go.RowKit LexS ParS BigFrame
set_option maxHeartbeats 4000000
set_option linter.unusedVariables false
set_option linter.unusedSimpArgs false
attribute [local go_sem] World.cell?_alloc_some cell_drewN_new free_drewN_new cell_drew_new free_drew_new

/-- A tree's nodes, as they are read. -/
def NR (W : World) (v : Value) (ns : List Nd) : Prop := ∃ p cap, v = .slice p ns.length cap ∧ ns.length ≤ cap ∧ ns.length ≤ maxLen ∧ (ns ≠ [] → ∃ g, p = some ⟨g, 0, none⟩ ∧
  ∀ (i : Nat) (nd : Nd), ns[i]? = some nd → ∃ (m : NodeM) (b : Nat), m.node = nd ∧ MOk W b m ∧ W.rangeAt g (i * 19) m.cells)
theorem NS.nr {W : World} {b : Nat} {v : Value} {ns : List Nd} (h : NS W b v ns) : NR W v ns := by
  obtain ⟨p, cap, h1, h2, h3, h4⟩ := nodes_row h
  refine ⟨p, cap, h1, h2, h3, fun hne => ?_⟩
  obtain ⟨g, hg, _, _, hc⟩ := h4 hne
  refine ⟨g, hg, fun i nd hi => ?_⟩
  obtain ⟨m, hm, hk, hcell⟩ := hc i nd hi
  exact ⟨m, b, hm, hk, fun j u hj => hcell j u (List.getElem?_eq_some_iff.1 hj).1 hj⟩
theorem range_kept {W W' : World} {g o : Nat} {cs : List Value} (hb : Below W.heap.size W W') (h : W.rangeAt g o cs) : W'.rangeAt g o cs := fun j u hj => keepc hb (h j u hj)
theorem s_kept {W W' : World} {a b g1 g2 o1 o2 : Nat} {v1 v2 : Value} {cs1 cs2 : List Value} (hb : Below W.heap.size W W') (h1 : W.cell? ⟨a, 0, none⟩ = some v1) (h2 : W.cell? ⟨b, 0, none⟩ = some v2) (h3 : W.rangeAt g1 o1 cs1) (h4 : W.rangeAt g2 o2 cs2) :
    W'.cell? ⟨a, 0, none⟩ = some v1 ∧ W'.cell? ⟨b, 0, none⟩ = some v2 ∧ W'.rangeAt g1 o1 cs1 ∧ W'.rangeAt g2 o2 cs2 := ⟨keepc hb h1, keepc hb h2, range_kept hb h3, range_kept hb h4⟩
set_option maxRecDepth 100000 in
theorem same_trees {W : World} {va vb : Value} {ns : List Nd} (ha : NR W va ns) (hb : NR W vb ns) :
    Calls Tryd.prog 21 #[.agg #[va], .agg #[vb]] W fun e W' => e = .returned (.bool true) ∧ Below W.heap.size W W' := by
  obtain ⟨p1, c1, rfl, _, h128, ha3⟩ := ha
  obtain ⟨p2, c2, rfl, _, _, hb3⟩ := hb
  simp only [maxLen] at h128
  obtain ⟨W2, hW2⟩ : ∃ W2, W2 = (W.alloc (.cells #[.slice p1 ns.length c1] 39)).alloc (.cells #[.slice p2 ns.length c2] 39) := ⟨_, rfl⟩
  have hb2 : Below W.heap.size W W2 := by rw [hW2]; exact ((Below.refl _ _).alloc (Nat.le_refl _) _).alloc (by rw [World.size_alloc]; omega) _
  have x0 : W2.cell? ⟨W.heap.size, 0, none⟩ = some (.slice p1 ns.length c1) := by
    rw [hW2]
    exact ((Blk.new W 39 #[.slice p1 ns.length c1]).kept ((Below.refl _ _).alloc (Nat.le_refl _) _)).cell 0
  have y0 : W2.cell? ⟨W.heap.size + 1, 0, none⟩ = some (.slice p2 ns.length c2) := by
    rw [hW2]
    have := (Blk.new (W.alloc (.cells #[.slice p1 ns.length c1] 39)) 39 #[.slice p2 ns.length c2]).cell 0
    rwa [World.size_alloc] at this
  have HX := Lib.hid (And.intro x0 y0)
  have HA := Lib.hid (And.intro ha3 hb3)
  have HB2 := Lib.hid hb2
  have HW2 := Lib.hid hW2
  have r2 : ∀ (K : World → Prop), K W2 → K ((W.alloc (.cells #[.slice p1 ns.length c1] 39)).alloc (.cells #[.slice p2 ns.length c2] 39)) := fun K h => by rw [← HW2.out]; exact h
  have HR2 := Lib.hid r2
  clear hW2 r2 hb2 ha3 hb3
  go_enter Tryd.func21, Tryd.ntmps21
  go_upto_region 1 with fail
  refine HR2.out _ ?_
  go_wp2_with fail
  go_loopg [5] (ns.length + 1) (fun gk c wr => ∃ i : Nat, i ≤ ns.length ∧ ns.length < i + gk ∧ c = .int .i64 (i : Int) ∧ Below W2.heap.size W2 wr)
  case atStart => exact ⟨0, Nat.zero_le _, by omega, rfl, Below.refl _ _⟩
  case round =>
    obtain ⟨i, hi, hgk, rfl, hbr⟩ := hrel
    have HBR := Lib.hid hbr
    clear x0 y0
    have x0 := keepc hbr HX.out.1
    have y0 := keepc hbr HX.out.2
    clear hbr
    by_cases hlt : i < ns.length
    · have hne : ns ≠ [] := by intro h; rw [h] at hlt; simp at hlt
      obtain ⟨g1, rfl, hg1⟩ := HA.out.1 hne
      obtain ⟨g2, rfl, hg2⟩ := HA.out.2 hne
      obtain ⟨nd, hnd⟩ : ∃ nd, ns[i]? = some nd := ⟨ns[i], List.getElem?_eq_getElem hlt⟩
      obtain ⟨⟨nd1, lv, nv, av⟩, b1, e1, m1, q1⟩ := hg1 i nd hnd
      obtain ⟨⟨nd2, lv2, nv2, av2⟩, b2, e2, m2, q2⟩ := hg2 i nd hnd
      dsimp only at e1 e2
      have e1 := e1.symm
      have e2 := e2.symm
      subst e1
      subst e2
      have hb3 : Below W.heap.size W wr.drew := (HB2.out.trans (HBR.out.mono HB2.out.size)).drew
      have HSN := Lib.hid (same_node (m1.kept hb3) (m2.kept hb3))
      have ss := And.intro x0 (And.intro y0 (And.intro (range_kept hb3 q1) (range_kept hb3 q2)))
      have n1 : (i : Int) < (ns.length : Int) := by omega
      have n2 : (0 : Int) ≤ (i : Int) := by omega
      have n3 : decide ((i : Int) < (ns.length : Int)) = true := decide_eq_true n1
      have w1_ : IntKind.i64.wrap ((i : Int) + 1) = (i : Int) + 1 := IntWalk.i64_in _ (by omega)
      clear hg1 hg2 hnd m1 m2 q1 q2 hb3
      go_wp2_with fail
      refine wp_region_held_drew (S := fun w' => w'.cell? ⟨W.heap.size, 0, none⟩ = some (.slice (some ⟨g1, 0, none⟩) ns.length c1) ∧ w'.cell? ⟨W.heap.size + 1, 0, none⟩ = some (.slice (some ⟨g2, 0, none⟩) ns.length c2) ∧ w'.rangeAt g1 (i * 19) (NodeM.cells ⟨nd, lv, nv, av⟩) ∧ w'.rangeAt g2 (i * 19) (NodeM.cells ⟨nd, lv2, nv2, av2⟩)) (by kernel_rfl) ss (fun hHeld => ?_)
      refine wpAnyH_take (i := 0) (oi := { dst := some 20, op := Go.Op.fieldAddr 39 (Go.Operand.tmp 2) 0, type := 0, pos := "ref.go:315", after := #[], guard := none }) (v := ?v1) rfl (by kernel_rfl) (by kernel_rfl) (by kernel_rfl) (fun _ _ _ h => h) (Or.inl ⟨by rfl, ?hy1⟩) (by assumption) ?rest1
      case hy1 =>
        intro w hSw
        (try dsimp only at hSw)
        go_simp
        try with_reducible rfl
      try simp only [Act.put, List.setIfInBounds_toArray, List.set_cons_zero, List.set_cons_succ]
      refine wpAnyH_take (i := 1) (oi := { dst := some 21, op := Go.Op.load 37 (Go.Operand.tmp 20), type := 37, pos := "ref.go:315", after := #[{ on := 0, ground := Go.Ground.data }], guard := none }) (v := ?v2) rfl (by kernel_rfl) (by kernel_rfl) (by kernel_rfl) (fun _ _ _ h => h) (Or.inl ⟨by rfl, ?hy2⟩) (by assumption) ?rest2
      case hy2 =>
        intro w hSw
        (try dsimp only at hSw)
        go_simp
        try with_reducible rfl
      try simp only [Act.put, List.setIfInBounds_toArray, List.set_cons_zero, List.set_cons_succ]
      refine wpAnyH_take (i := 2) (oi := { dst := some 22, op := Go.Op.move (Go.Operand.tmp 5), type := 3, pos := "ref.go:315", after := #[], guard := none }) (v := ?v3) rfl (by kernel_rfl) (by kernel_rfl) (by kernel_rfl) (fun _ _ _ h => h) (Or.inl ⟨by rfl, ?hy3⟩) (by assumption) ?rest3
      case hy3 =>
        intro w hSw
        (try dsimp only at hSw)
        go_simp
        try with_reducible rfl
      try simp only [Act.put, List.setIfInBounds_toArray, List.set_cons_zero, List.set_cons_succ]
      refine wpAnyH_take (i := 3) (oi := { dst := some 23, op := Go.Op.indexAddr 37 (Go.Operand.tmp 21) (Go.Operand.tmp 22), type := 0, pos := "ref.go:315", after := #[{ on := 1, ground := Go.Ground.data }, { on := 2, ground := Go.Ground.data }], guard := none }) (v := ?v4) rfl (by kernel_rfl) (by kernel_rfl) (by kernel_rfl) (fun _ _ _ h => h) (Or.inl ⟨by rfl, ?hy4⟩) (by assumption) ?rest4
      case hy4 =>
        intro w hSw
        (try dsimp only at hSw)
        go_simp
        try with_reducible rfl
      try simp only [Act.put, List.setIfInBounds_toArray, List.set_cons_zero, List.set_cons_succ]
      refine' wpAnyH_take (i := 4) (oi := { dst := some 24, op := Go.Op.load 48 (Go.Operand.tmp 23), type := 48, pos := "ref.go:315", after := #[{ on := 3, ground := Go.Ground.data }], guard := none }) (v := _) rfl (by kernel_rfl) (by kernel_rfl) (by kernel_rfl) (fun _ _ _ h => h) (yieldsIf_load_mid (by rfl) _ _ rfl _ _ rfl _ _ ?hS1 ?hu1 ?hd1 ?hi1) (by assumption) ?restm1
      case hS1 => intro w hSw; (try dsimp only at hSw); exact hSw.2.2.1
      case hu1 => exact undNode
      case hd1 => rfl
      case hi1 => exact sizeNode
      try simp only [Act.put, List.setIfInBounds_toArray, List.set_cons_zero, List.set_cons_succ]
      refine wpAnyH_take (i := 5) (oi := { dst := some 25, op := Go.Op.fieldAddr 39 (Go.Operand.tmp 3) 0, type := 0, pos := "ref.go:315", after := #[], guard := none }) (v := ?v5) rfl (by kernel_rfl) (by kernel_rfl) (by kernel_rfl) (fun _ _ _ h => h) (Or.inl ⟨by rfl, ?hy5⟩) (by assumption) ?rest5
      case hy5 =>
        intro w hSw
        (try dsimp only at hSw)
        go_simp
        try with_reducible rfl
      try simp only [Act.put, List.setIfInBounds_toArray, List.set_cons_zero, List.set_cons_succ]
      refine wpAnyH_take (i := 6) (oi := { dst := some 26, op := Go.Op.load 37 (Go.Operand.tmp 25), type := 37, pos := "ref.go:315", after := #[{ on := 5, ground := Go.Ground.data }], guard := none }) (v := ?v6) rfl (by kernel_rfl) (by kernel_rfl) (by kernel_rfl) (fun _ _ _ h => h) (Or.inl ⟨by rfl, ?hy6⟩) (by assumption) ?rest6
      case hy6 =>
        intro w hSw
        (try dsimp only at hSw)
        go_simp
        try with_reducible rfl
      try simp only [Act.put, List.setIfInBounds_toArray, List.set_cons_zero, List.set_cons_succ]
      refine wpAnyH_take (i := 7) (oi := { dst := some 27, op := Go.Op.move (Go.Operand.tmp 5), type := 3, pos := "ref.go:315", after := #[], guard := none }) (v := ?v7) rfl (by kernel_rfl) (by kernel_rfl) (by kernel_rfl) (fun _ _ _ h => h) (Or.inl ⟨by rfl, ?hy7⟩) (by assumption) ?rest7
      case hy7 =>
        intro w hSw
        (try dsimp only at hSw)
        go_simp
        try with_reducible rfl
      try simp only [Act.put, List.setIfInBounds_toArray, List.set_cons_zero, List.set_cons_succ]
      refine wpAnyH_take (i := 8) (oi := { dst := some 28, op := Go.Op.indexAddr 37 (Go.Operand.tmp 26) (Go.Operand.tmp 27), type := 0, pos := "ref.go:315", after := #[{ on := 6, ground := Go.Ground.data }, { on := 7, ground := Go.Ground.data }], guard := none }) (v := ?v8) rfl (by kernel_rfl) (by kernel_rfl) (by kernel_rfl) (fun _ _ _ h => h) (Or.inl ⟨by rfl, ?hy8⟩) (by assumption) ?rest8
      case hy8 =>
        intro w hSw
        (try dsimp only at hSw)
        go_simp
        try with_reducible rfl
      try simp only [Act.put, List.setIfInBounds_toArray, List.set_cons_zero, List.set_cons_succ]
      refine' wpAnyH_take (i := 9) (oi := { dst := some 29, op := Go.Op.load 48 (Go.Operand.tmp 28), type := 48, pos := "ref.go:315", after := #[{ on := 8, ground := Go.Ground.data }], guard := none }) (v := _) rfl (by kernel_rfl) (by kernel_rfl) (by kernel_rfl) (fun _ _ _ h => h) (yieldsIf_load_mid (by rfl) _ _ rfl _ _ rfl _ _ ?hS2 ?hu2 ?hd2 ?hi2) (by assumption) ?restm2
      case hS2 => intro w hSw; (try dsimp only at hSw); exact hSw.2.2.2
      case hu2 => exact undNode
      case hd2 => rfl
      case hi2 => exact sizeNode
      try simp only [Act.put, List.setIfInBounds_toArray, List.set_cons_zero, List.set_cons_succ]
      refine wpAnyH_ready (rs := [10]) (by kernel_rfl) (by simp) ?_
      refine AllReadyH.cons (o := { dst := some 30, op := Go.Op.call { callee := Go.Callee.value (Go.Operand.func 29), args := #[Go.Operand.tmp 24, Go.Operand.tmp 29], argTypes := #[48, 48] }, type := 4, pos := "ref.go:315", after := #[{ on := 4, ground := Go.Ground.data }, { on := 9, ground := Go.Ground.data }], guard := none }) rfl (fun K hK => ?_) ?_
      · go_simp
        go_at_call 29
        (with_reducible refine HSN.out.mono ?_)
        rintro e w5 ⟨rfl, b5⟩
        have s5 := s_kept (b5.mono (Nat.le_refl _)) ss.1 ss.2.1 ss.2.2.1 ss.2.2.2
        have HB5 := Lib.hid (show Below W2.heap.size W2 w5 from chain HBR.out.drew b5)
        clear b5
        refine hK.out _ _ ?_ (fun hHeld => ?_)
        · exact s5
        · clear hK K
          try simp only [Act.put, List.setIfInBounds_toArray, List.set_cons_zero, List.set_cons_succ]
          refine wpAnyH_take (i := 11) (oi := { dst := some 31, op := Go.Op.unOp Go.UnOp.not 4 (Go.Operand.tmp 30), type := 4, pos := "ref.go:315", after := #[{ on := 10, ground := Go.Ground.data }], guard := none }) (v := ?v9) rfl (by kernel_rfl) (by kernel_rfl) (by kernel_rfl) (fun _ _ _ h => h) (Or.inl ⟨by rfl, ?hy9⟩) (by assumption) ?rest9
          case hy9 =>
            intro w hSw
            (try dsimp only at hSw)
            go_simp
            try with_reducible rfl
          try simp only [Act.put, List.setIfInBounds_toArray, List.set_cons_zero, List.set_cons_succ]
          refine wpAnyH_done (by kernel_rfl) ?_ _
          go_wp2_with fail
          go_roundg (ns.length - i)
          case measure => omega
          case rel => exact ⟨i + 1, by omega, by omega, rfl, HB5.out⟩
      exact AllReadyH.nil
    · have n1 : ¬ (i : Int) < (ns.length : Int) := by omega
      have n3 : decide ((i : Int) < (ns.length : Int)) = false := decide_eq_false n1
      go_wp2_with fail
      exact bodyPost_ret (results_tmp rfl _ _ _) rfl ⟨rfl, HB2.out.trans (HBR.out.mono HB2.out.size)⟩
end Go.Proofs.YtlonkcmkgmbkcaaDoor
