/- The walk of catchmentref21's nodes and Same, at two plans that are alike. The walk of catchmentref21's Same, and of the law PlanTexts. -/
import Derived.Test.YtjpogmomgmjmbaaT2
import Derived.Laws.StructEq
import Derived.Test.YtjpogmomgmjmbaaN27
/-! The walk of catchmentref21's nodes and Same, at two plans that are alike. -/
namespace Go.Proofs.Ytjpogmomgmjmbaa
open Go.RowKit LexS ParS BigFrame
set_option maxHeartbeats 4000000
set_option linter.unusedVariables false
set_option linter.unusedSimpArgs false

theorem undVal : Try.prog.underlying 38 = some (.struct (Try.prog.fieldsOf 38)) := by kernel_rfl
theorem stVal : Try.prog.stoodInHeld 38 = false := by kernel_rfl
theorem fldVal : (Try.prog.fieldsOf 38).toList = [⟨"Kind", 3, 0, false, "", "", 0⟩, ⟨"N", 3, 1, false, "", "", 8⟩, ⟨"S", 9, 2, false, "", "", 16⟩, ⟨"H", 36, 3, false, "", "", 32⟩] := by kernel_rfl
theorem partH (v : Val) (W : World) : (part 36 (valA v) 3).run Try.prog W = .ok zero8 W := by kernel_rfl
theorem partS (v : Val) (W : World) : (part 9 (valA v) 2).run Try.prog W = .ok (.string (BA v.s)) W := by kernel_rfl
theorem partN (v : Val) (W : World) : (part 3 (valA v) 1).run Try.prog W = .ok (.int .i64 v.n) W := by kernel_rfl
theorem partK (v : Val) (W : World) : (part 3 (valA v) 0).run Try.prog W = .ok (.int .i64 (v.kind : Int)) W := by kernel_rfl
theorem undI : Try.prog.underlying 3 = some (.int .i64) := by kernel_rfl
theorem undS : Try.prog.underlying 9 = some .string := by kernel_rfl
theorem eq_val (v : Val) (W : World) : (Op.equalIn 10000 38 (.agg (valA v)) (.agg (valA v))).run Try.prog W = .ok true W := by
  rw [run_equalIn_agg (P := Try.prog) W 9999 38 (valA v) (valA v) undVal stVal, fldVal]
  simp only [Op.eqFields, Sem.run_bind, Sem.run_ite, partK, partN, partS, partH, Result.andThen_ok, eqZero, run_equalIn_int (P := Try.prog) _ 9998 3 .i64 .i64 _ _ undI, run_equalIn_string (P := Try.prog) _ 9998 9 _ _ undS, beq_self_eq_true]
  simp
theorem neq_val (v : Val) (W : World) : (binOp .neq 38 (.agg (valA v)) (.agg (valA v))).run Try.prog W = .ok (.bool false) W := by
  rw [run_neq_struct, eq_val]
  rfl
theorem undAgg : Try.prog.underlying 80 = some (.struct (Try.prog.fieldsOf 80)) := by kernel_rfl
theorem stAgg : Try.prog.stoodInHeld 80 = false := by kernel_rfl
abbrev aggA (k : Nat) (s : Bytes) : Array Value := #[.int .i64 (k : Int), .string (BA s)]
theorem fldAgg : (Try.prog.fieldsOf 80).toList = [⟨"Kind", 3, 0, false, "", "", 0⟩, ⟨"Col", 9, 1, false, "", "", 8⟩] := by kernel_rfl
theorem partA0 (k : Nat) (s : Bytes) (W : World) : (part 3 (aggA k s) 0).run Try.prog W = .ok (.int .i64 (k : Int)) W := by kernel_rfl
theorem partA1 (k : Nat) (s : Bytes) (W : World) : (part 9 (aggA k s) 1).run Try.prog W = .ok (.string (BA s)) W := by kernel_rfl
theorem eq_agg (k : Nat) (s : Bytes) (W : World) : (Op.equalIn 10000 80 (.agg (aggA k s)) (.agg (aggA k s))).run Try.prog W = .ok true W := by
  rw [run_equalIn_agg (P := Try.prog) W 9999 80 (aggA k s) (aggA k s) undAgg stAgg, fldAgg]
  simp only [Op.eqFields, Sem.run_bind, Sem.run_ite, partA0, partA1, Result.andThen_ok, run_equalIn_int (P := Try.prog) _ 9998 3 .i64 .i64 _ _ undI, run_equalIn_string (P := Try.prog) _ 9998 9 _ _ undS, beq_self_eq_true]
  simp
theorem neq_agg (k : Nat) (s : Bytes) (W : World) : (binOp .neq 80 (.agg (aggA k s)) (.agg (aggA k s))).run Try.prog W = .ok (.bool false) W := by
  rw [run_neq_struct, eq_agg]
  rfl
attribute [local go_sem] eqZero
/-- A row's cells. -/
theorem row_cells {W : World} {base size n : Nat} {e : TypeId} {v : Value} {xs : List Value} (h : W.ownsRow base e size v n xs) :
    ∃ p cap, v = .slice p n cap ∧ n ≤ cap ∧ n ≤ maxLen ∧ (0 < n → ∃ g, p = some ⟨g, 0, none⟩ ∧ ∀ (j : Nat) (u : Value), xs[j]? = some u → W.cell? ⟨g, j, none⟩ = some u) := by
  have hf := fun g hg => h.cells (g := g) hg
  rcases h.2 with ⟨h1, h2⟩ | ⟨g, cap, cur, h2, h3, h4, h5, h6, _⟩
  · exact ⟨none, 0, by rw [h2]; exact h1, by omega, by rw [h2]; exact Nat.zero_le _, fun hc => by omega⟩
  · subst h2
    refine ⟨_, cap, rfl, h5, Nat.le_trans h5 h6, fun _ => ⟨g, rfl, fun j u hj => ?_⟩⟩
    have := hf g rfl j u hj
    rwa [Addr.add_lit, Nat.zero_add] at this
theorem intsL_get {l : List Nat} {i x : Nat} (h : l[i]? = some x) : (intsL l)[i]? = some (.int .i64 (x : Int)) := by
  unfold intsL
  rw [List.getElem?_map, h]
  rfl
theorem strsL_get {l : List Bytes} {i : Nat} {x : Bytes} (h : l[i]? = some x) : (strsL l)[i]? = some (.string (BA x)) := by
  unfold strsL
  rw [List.getElem?_map, h]
  rfl
theorem aggsL_cons (a : Nat × Bytes) (l : List (Nat × Bytes)) : aggsL (a :: l) = [.int .i64 (a.1 : Int), .string (BA a.2)] ++ aggsL l := by simp [aggsL]
theorem aggsL_get : ∀ (l : List (Nat × Bytes)) (i : Nat) (a : Nat × Bytes), l[i]? = some a → (aggsL l)[i * 2]? = some (.int .i64 (a.1 : Int)) ∧ (aggsL l)[i * 2 + 1]? = some (.string (BA a.2))
  | [], i, a, h => by simp at h
  | b :: l, 0, a, h => by
    simp only [List.getElem?_cons_zero, Option.some.injEq] at h
    subst h
    rw [aggsL_cons]
    exact ⟨rfl, rfl⟩
  | b :: l, i + 1, a, h => by
    have := aggsL_get l i a (by simpa using h)
    rw [aggsL_cons, show (i + 1) * 2 = (i * 2) + 2 by omega]
    exact this
attribute [local go_sem] World.cell?_alloc_some cell_drewN_new free_drewN_new cell_drew_new free_drew_new
set_option maxRecDepth 100000 in
theorem nodes_any {W : World} {va vb : Value} {ns : List Nd} (ha : NR W va ns) (hb : NR W vb ns) (h1k : ns.length ≤ 1000) :
    Calls Try.prog 25 #[va, vb] W fun e W' => e = .returned (.bool true) ∧ Below W.heap.size W W' := by
  obtain ⟨p1, c1, rfl, _, _, ha3⟩ := ha
  obtain ⟨p2, c2, rfl, _, _, hb3⟩ := hb
  have HA0 := Lib.hid (And.intro ha3 hb3)
  clear ha3 hb3
  go_enter Try.func25, Try.ntmps25
  go_wp2_with fail
  go_loopg [5] (ns.length + 1) (fun gk c wr => ∃ i : Nat, i ≤ ns.length ∧ ns.length < i + gk ∧ c = .int .i64 (i : Int) ∧ Below W.heap.size W wr)
  case atStart => exact ⟨0, Nat.zero_le _, by omega, rfl, Below.refl _ _⟩
  case round =>
    obtain ⟨i0, hi0, hgk0, rfl, hbr⟩ := hrel
    have HBR := Lib.hid hbr
    have z0 : (0 : Int) ≤ (i0 : Int) := by omega
    by_cases hlt0 : i0 < ns.length
    · have hne : ns ≠ [] := by intro h; rw [h] at hlt0; simp at hlt0
      obtain ⟨ga, rfl, hga⟩ := HA0.out.1 hne
      obtain ⟨gb, rfl, hgb⟩ := HA0.out.2 hne
      obtain ⟨nd, hnd⟩ : ∃ nd, ns[i0]? = some nd := ⟨ns[i0], List.getElem?_eq_getElem hlt0⟩
      obtain ⟨⟨nd1, lv, nv, av⟩, b1, e1, h1, r1⟩ := hga i0 nd hnd
      obtain ⟨⟨nd2, lv2, nv2, av2⟩, b2, e2, h2, r2⟩ := hgb i0 nd hnd
      dsimp only at e1 e2
      subst e1 e2
      have z1 : (i0 : Int) < (ns.length : Int) := by omega
      have z2 : decide ((i0 : Int) < (ns.length : Int)) = true := decide_eq_true z1
      have w1_ : IntKind.i64.wrap ((i0 : Int) + 1) = (i0 : Int) + 1 := IntWalk.i64_in _ (by omega)
      have HR1 := Lib.hid (range_kept hbr r1)
      have HR2 := Lib.hid (range_kept hbr r2)
      have hth := nd_there wr
      have hone := h1.ones
      have H12 := Lib.hid (And.intro (h1.kept hbr) (h2.kept hbr))
      clear hbr hga hgb hnd h1 r1 r2
      go_upto_region 7 with (first
        | (refine wpList_load_mid (by rfl) 43 (.tmp 24) (by rfl) ga (i0 * 19) (by rfl) (NodeM.cells ⟨nd2, lv, nv, av⟩) _ HR1.out undNode (by rfl) sizeNode ?_)
        | (refine wpList_store_mid (by rfl) 43 (.tmp 6) (.tmp 25) (by rfl) wr.heap.size 0 (NodeM.cells ⟨nd2, lv, nv, av⟩).toArray (by rfl) (by rfl) hth sizeNode hone ?_
           generalize hw4 : World.setCells _ _ _ _ = w4
           have F4 := Lib.hid (nd_stored (m := ⟨nd2, lv, nv, av⟩) hw4)
           clear hw4 hth hone))
      have hth := nd_there w4
      have hone := h2.ones
      have HR4 := Lib.hid (range_kept F4.out.1 HR2.out)
      clear h2
      go_upto_region 8 with (first
        | (refine wpList_load_mid (by rfl) 43 (.tmp 28) (by rfl) gb (i0 * 19) (by rfl) (NodeM.cells ⟨nd2, lv2, nv2, av2⟩) _ HR4.out undNode (by rfl) sizeNode ?_)
        | (refine wpList_store_mid (by rfl) 43 (.tmp 7) (.tmp 29) (by rfl) w4.heap.size 0 (NodeM.cells ⟨nd2, lv2, nv2, av2⟩).toArray (by rfl) (by rfl) hth sizeNode hone ?_
           generalize hw6 : World.setCells _ _ _ _ = u6
           have F6 := Lib.hid (nd_stored (m := ⟨nd2, lv2, nv2, av2⟩) hw6)
           clear hw6 hth hone))
      obtain ⟨xb, hxb⟩ : ∃ b, b = wr.heap.size := ⟨_, rfl⟩
      obtain ⟨yb, hyb⟩ : ∃ b, b = w4.heap.size := ⟨_, rfl⟩
      have x0 : Blk u6 xb 43 (NodeM.cells ⟨nd2, lv, nv, av⟩).toArray := by rw [hxb]; exact F4.out.2.kept F6.out.1
      have y0 : Blk u6 yb 43 (NodeM.cells ⟨nd2, lv2, nv2, av2⟩).toArray := by rw [hyb]; exact F6.out.2
      have M1 := Lib.hid (H12.out.1.kept (chain F4.out.1 F6.out.1))
      have M2 := Lib.hid (H12.out.2.kept (chain F4.out.1 F6.out.1))
      have HBL := Lib.hid (chain HBR.out (chain F4.out.1 F6.out.1))
      rw [← hxb, ← hyb]
      clear hxb hyb H12
      generalize nd2 = nd at x0 y0 M1 M2 ⊢
      obtain ⟨pl, cl, hlv, _, ql2, ql3⟩ := row_cells (M1.out.l)
      obtain ⟨pl2, cl2, hlv2, _, _, rl3⟩ := row_cells (M2.out.l)
      obtain ⟨pn, cn, hnv, _, qn2, qn3⟩ := row_cells M1.out.names
      obtain ⟨pn2, cn2, hnv2, _, _, rn3⟩ := row_cells M2.out.names
      obtain ⟨pa, ca, hav, _, qa2, qa3⟩ := row_cells M1.out.aggs
      obtain ⟨pa2, ca2, hav2, _, _, ra3⟩ := row_cells M2.out.aggs
      dsimp only at hlv hlv2 hnv hnv2 hav hav2 ql2 ql3 rl3 qn2 qn3 rn3 qa2 qa3 ra3
      have HL := Lib.hid (And.intro ql3 rl3)
      have HN := Lib.hid (And.intro qn3 rn3)
      have HA := Lib.hid (And.intro qa3 ra3)
      simp only [maxLen] at ql2 qn2 qa2
      clear ql3 rl3 qn3 rn3 qa3 ra3 M1 M2 F4 F6 HR1 HR2 HR4 HBR
      subst hlv hlv2 hnv hnv2 hav hav2
      have c0 : u6.cell? ⟨xb, 0, none⟩ = some (.int .i64 (nd.kind : Int)) := x0.cell 0
      have c1 : u6.cell? ⟨xb, 1, none⟩ = some (.string (BA nd.s)) := x0.cell 1
      have c2 : u6.cell? ⟨xb, 2, none⟩ = some (.int .i64 nd.n) := x0.cell 2
      have c3 : u6.cell? ⟨xb, 3, none⟩ = some (.int .i64 nd.from_) := x0.cell 3
      have c4 : u6.cell? ⟨xb, 4, none⟩ = some (.int .i64 nd.to_) := x0.cell 4
      have c5 : u6.cell? ⟨xb, 5, none⟩ = some (.int .i64 (nd.v.kind : Int)) := x0.cell 5
      have c6 : u6.cell? ⟨xb, 6, none⟩ = some (.int .i64 nd.v.n) := x0.cell 6
      have c7 : u6.cell? ⟨xb, 7, none⟩ = some (.string (BA nd.v.s)) := x0.cell 7
      have c8 : u6.cell? ⟨xb, 8, none⟩ = some (.int .i64 0) := x0.cell 8
      have c9 : u6.cell? ⟨xb, 9, none⟩ = some (.int .i64 0) := x0.cell 9
      have c10 : u6.cell? ⟨xb, 10, none⟩ = some (.int .i64 0) := x0.cell 10
      have c11 : u6.cell? ⟨xb, 11, none⟩ = some (.int .i64 0) := x0.cell 11
      have c12 : u6.cell? ⟨xb, 12, none⟩ = some (.int .i64 0) := x0.cell 12
      have c13 : u6.cell? ⟨xb, 13, none⟩ = some (.int .i64 0) := x0.cell 13
      have c14 : u6.cell? ⟨xb, 14, none⟩ = some (.int .i64 0) := x0.cell 14
      have c15 : u6.cell? ⟨xb, 15, none⟩ = some (.int .i64 0) := x0.cell 15
      have c16 : u6.cell? ⟨xb, 16, none⟩ = some (.slice pl nd.l.length cl) := x0.cell 16
      have c17 : u6.cell? ⟨xb, 17, none⟩ = some (.slice pn nd.names.length cn) := x0.cell 17
      have c18 : u6.cell? ⟨xb, 18, none⟩ = some (.slice pa nd.aggs.length ca) := x0.cell 18
      have d0 : u6.cell? ⟨yb, 0, none⟩ = some (.int .i64 (nd.kind : Int)) := y0.cell 0
      have d1 : u6.cell? ⟨yb, 1, none⟩ = some (.string (BA nd.s)) := y0.cell 1
      have d2 : u6.cell? ⟨yb, 2, none⟩ = some (.int .i64 nd.n) := y0.cell 2
      have d3 : u6.cell? ⟨yb, 3, none⟩ = some (.int .i64 nd.from_) := y0.cell 3
      have d4 : u6.cell? ⟨yb, 4, none⟩ = some (.int .i64 nd.to_) := y0.cell 4
      have d5 : u6.cell? ⟨yb, 5, none⟩ = some (.int .i64 (nd.v.kind : Int)) := y0.cell 5
      have d6 : u6.cell? ⟨yb, 6, none⟩ = some (.int .i64 nd.v.n) := y0.cell 6
      have d7 : u6.cell? ⟨yb, 7, none⟩ = some (.string (BA nd.v.s)) := y0.cell 7
      have d8 : u6.cell? ⟨yb, 8, none⟩ = some (.int .i64 0) := y0.cell 8
      have d9 : u6.cell? ⟨yb, 9, none⟩ = some (.int .i64 0) := y0.cell 9
      have d10 : u6.cell? ⟨yb, 10, none⟩ = some (.int .i64 0) := y0.cell 10
      have d11 : u6.cell? ⟨yb, 11, none⟩ = some (.int .i64 0) := y0.cell 11
      have d12 : u6.cell? ⟨yb, 12, none⟩ = some (.int .i64 0) := y0.cell 12
      have d13 : u6.cell? ⟨yb, 13, none⟩ = some (.int .i64 0) := y0.cell 13
      have d14 : u6.cell? ⟨yb, 14, none⟩ = some (.int .i64 0) := y0.cell 14
      have d15 : u6.cell? ⟨yb, 15, none⟩ = some (.int .i64 0) := y0.cell 15
      have d16 : u6.cell? ⟨yb, 16, none⟩ = some (.slice pl2 nd.l.length cl2) := y0.cell 16
      have d17 : u6.cell? ⟨yb, 17, none⟩ = some (.slice pn2 nd.names.length cn2) := y0.cell 17
      have d18 : u6.cell? ⟨yb, 18, none⟩ = some (.slice pa2 nd.aggs.length ca2) := y0.cell 18
      clear x0 y0
      go_wp2_with fail
      go_loopg [8] (nd.l.length + 1) (fun gk c wr => ∃ i : Nat, i ≤ nd.l.length ∧ nd.l.length < i + gk ∧ c = .int .i64 (i : Int) ∧ Drawn u6 wr)
      case atStart => exact ⟨0, Nat.zero_le _, by omega, rfl, 0, rfl⟩
      case round =>
        obtain ⟨i, hi, hgk, rfl, k, rfl⟩ := hrel
        by_cases hlt : i < nd.l.length
        · obtain ⟨g, rfl, hg⟩ := HL.out.1 (by omega)
          obtain ⟨g2, rfl, hg2⟩ := HL.out.2 (by omega)
          obtain ⟨x_, hx_⟩ : ∃ x, nd.l[i]? = some x := ⟨nd.l[i], List.getElem?_eq_getElem hlt⟩
          have u1 := hg _ _ (intsL_get hx_)
          have u2 := hg2 _ _ (intsL_get hx_)
          have n1 : (i : Int) < (nd.l.length : Int) := by omega
          have n2 : (0 : Int) ≤ (i : Int) := by omega
          have n3 : decide ((i : Int) < (nd.l.length : Int)) = true := decide_eq_true n1
          have w1_ : IntKind.i64.wrap ((i : Int) + 1) = (i : Int) + 1 := IntWalk.i64_in _ (by omega)
          clear hg hg2 hx_
          go_wp2_with fail
          go_region
          go_wp2_with fail
          go_roundg (nd.l.length - i)
          case measure => omega
          case rel => exact ⟨i + 1, by omega, by omega, rfl, Drawn.more ⟨k, rfl⟩ 1⟩
        · have n1 : ¬ (i : Int) < (nd.l.length : Int) := by omega
          have n3 : decide ((i : Int) < (nd.l.length : Int)) = false := decide_eq_false n1
          clear hi hgk hlt
          go_wp2_with fail
          go_loopg [9] (nd.names.length + 1) (fun gk c wr => ∃ i : Nat, i ≤ nd.names.length ∧ nd.names.length < i + gk ∧ c = .int .i64 (i : Int) ∧ Drawn u6 wr)
          case atStart => exact ⟨0, Nat.zero_le _, by omega, rfl, _, rfl⟩
          case round =>
            obtain ⟨i, hi, hgk, rfl, k, rfl⟩ := hrel
            by_cases hlt : i < nd.names.length
            · obtain ⟨g, rfl, hg⟩ := HN.out.1 (by omega)
              obtain ⟨g2, rfl, hg2⟩ := HN.out.2 (by omega)
              obtain ⟨x_, hx_⟩ : ∃ x, nd.names[i]? = some x := ⟨nd.names[i], List.getElem?_eq_getElem hlt⟩
              have u1 := hg _ _ (strsL_get hx_)
              have u2 := hg2 _ _ (strsL_get hx_)
              have n1 : (i : Int) < (nd.names.length : Int) := by omega
              have n2 : (0 : Int) ≤ (i : Int) := by omega
              have n3 : decide ((i : Int) < (nd.names.length : Int)) = true := decide_eq_true n1
              have w1_ : IntKind.i64.wrap ((i : Int) + 1) = (i : Int) + 1 := IntWalk.i64_in _ (by omega)
              clear hg hg2 hx_
              go_wp2_with fail
              go_region
              go_wp2_with fail
              go_roundg (nd.names.length - i)
              case measure => omega
              case rel => exact ⟨i + 1, by omega, by omega, rfl, Drawn.more ⟨k, rfl⟩ 1⟩
            · have n1 : ¬ (i : Int) < (nd.names.length : Int) := by omega
              have n3 : decide ((i : Int) < (nd.names.length : Int)) = false := decide_eq_false n1
              clear hi hgk hlt
              go_wp2_with fail
              go_loopg [10] (nd.aggs.length + 1) (fun gk c wr => ∃ i : Nat, i ≤ nd.aggs.length ∧ nd.aggs.length < i + gk ∧ c = .int .i64 (i : Int) ∧ Drawn u6 wr)
              case atStart => exact ⟨0, Nat.zero_le _, by omega, rfl, _, rfl⟩
              case round =>
                obtain ⟨i, hi, hgk, rfl, k, rfl⟩ := hrel
                by_cases hlt : i < nd.aggs.length
                · obtain ⟨g, rfl, hg⟩ := HA.out.1 (by omega)
                  obtain ⟨g2, rfl, hg2⟩ := HA.out.2 (by omega)
                  obtain ⟨x_, hx_⟩ : ∃ x, nd.aggs[i]? = some x := ⟨nd.aggs[i], List.getElem?_eq_getElem hlt⟩
                  have u1 := hg _ _ (aggsL_get _ _ _ hx_).1
                  have u2 := hg _ _ (aggsL_get _ _ _ hx_).2
                  have u3 := hg2 _ _ (aggsL_get _ _ _ hx_).1
                  have u4 := hg2 _ _ (aggsL_get _ _ _ hx_).2
                  have n1 : (i : Int) < (nd.aggs.length : Int) := by omega
                  have n2 : (0 : Int) ≤ (i : Int) := by omega
                  have n3 : decide ((i : Int) < (nd.aggs.length : Int)) = true := decide_eq_true n1
                  have w1_ : IntKind.i64.wrap ((i : Int) + 1) = (i : Int) + 1 := IntWalk.i64_in _ (by omega)
                  clear hg hg2 hx_
                  go_wp2_with fail
                  go_region
                  go_wp2_with fail
                  go_roundg (nd.aggs.length - i)
                  case measure => omega
                  case rel => exact ⟨i + 1, by omega, by omega, rfl, Drawn.more ⟨k, rfl⟩ 1⟩
                · have n1 : ¬ (i : Int) < (nd.aggs.length : Int) := by omega
                  have n3 : decide ((i : Int) < (nd.aggs.length : Int)) = false := decide_eq_false n1
                  clear hi hgk hlt
                  go_wp2_with fail
                  go_roundg (ns.length - i0)
                  case measure => omega
                  case rel => exact ⟨i0 + 1, by omega, by omega, rfl, HBL.out.trans ⟨rfl, rfl, rfl, Nat.le_refl _, fun _ _ => rfl⟩⟩
    · have hin : i0 = ns.length := by omega
      subst hin
      have z1 : ¬ (ns.length : Int) < (ns.length : Int) := by omega
      have z2 : decide ((ns.length : Int) < (ns.length : Int)) = false := decide_eq_false z1
      clear hbr
      go_wp2_with fail
      go_ret
      exact ⟨rfl, HBR.out⟩
end Go.Proofs.Ytjpogmomgmjmbaa

/-! The walk of catchmentref21's Same, and of the law PlanTexts. -/
namespace Go.Proofs.Ytjpogmomgmjmbaa
open Go.RowKit LexS ParS BigFrame
set_option maxHeartbeats 4000000
set_option linter.unusedVariables false
set_option linter.unusedSimpArgs false
attribute [local go_sem] World.cell?_alloc_some cell_drewN_new free_drewN_new cell_drew_new free_drew_new

theorem two_plans (W : World) (a b : Array Value) : Below W.heap.size W ((W.alloc (.cells a 31)).alloc (.cells b 31)) ∧ Blk ((W.alloc (.cells a 31)).alloc (.cells b 31)) W.heap.size 31 a ∧ Blk ((W.alloc (.cells a 31)).alloc (.cells b 31)) (W.heap.size + 1) 31 b := by
  have e1 : (W.alloc (.cells a 31)).heap.size = W.heap.size + 1 := World.size_alloc _ _
  refine ⟨((Below.refl _ _).alloc (Nat.le_refl _) _).alloc (by rw [e1]; omega) _, (Blk.new _ _ _).alloc _, ?_⟩
  rw [← e1]
  exact Blk.new _ _ _
set_option maxRecDepth 100000 in
theorem same21_any {W : World} {va ra vb rb : Value} {xs ys : List Value} {parts : List (List Nd)} {rest : List Nd} (ha : QRow W 0 va xs parts) (hb : QRow W 0 vb ys parts) (na : NO W 0 ra rest) (nb : NO W 0 rb rest) (hpl : parts.length ≤ 1000) (hpk : ∀ p ∈ parts, p.length ≤ 1000) (hrl : rest.length ≤ 1000) :
    Calls Try.prog 9 #[.agg #[va, ra], .agg #[vb, rb]] W fun e W' => e = .returned (.bool true) ∧ Below W.heap.size W W' := by
  obtain ⟨oa, ca, rfl⟩ := row_slice ha.row
  obtain ⟨ob, cb, rfl⟩ := row_slice hb.row
  obtain ⟨oc, cc, rfl⟩ := na.slice
  obtain ⟨od, cd, rfl⟩ := nb.slice
  obtain ⟨x1, x2, x3⟩ := two_plans W #[.slice oa parts.length ca, .slice oc rest.length cc] #[.slice ob parts.length cb, .slice od rest.length cd]
  have HX := Lib.hid (And.intro x1 (And.intro x2 x3))
  have HAB := Lib.hid (And.intro ha (And.intro hb (And.intro na nb)))
  have HPK := Lib.hid hpk
  clear ha hb na nb hpk x1 x2 x3
  go_enter Try.func9, Try.ntmps9
  go_upto_region 1 with fail
  generalize World.alloc (World.alloc W _) _ = w0 at HX ⊢
  obtain ⟨xa, hxa⟩ : ∃ b, b = W.heap.size := ⟨_, rfl⟩
  obtain ⟨xb, hxb⟩ : ∃ b, b = W.heap.size + 1 := ⟨_, rfl⟩
  have HX1 := Lib.hid (show Below W.heap.size W w0 ∧ Blk w0 xa 31 #[.slice oa parts.length ca, .slice oc rest.length cc] ∧ Blk w0 xb 31 #[.slice ob parts.length cb, .slice od rest.length cd] from by rw [hxa, hxb]; exact HX.out)
  rw [← hxb, ← hxa]
  clear hxa hxb HX
  have x0 : w0.cell? ⟨xa, 0, none⟩ = some (.slice oa parts.length ca) := HX1.out.2.1.cell 0
  have y0 : w0.cell? ⟨xb, 0, none⟩ = some (.slice ob parts.length cb) := HX1.out.2.2.cell 0
  go_wp2_with fail
  go_loopg [5] (parts.length + 1) (fun gk c wr => ∃ i : Nat, i ≤ parts.length ∧ parts.length < i + gk ∧ c = .int .i64 (i : Int) ∧ Below W.heap.size W wr ∧ Blk wr xa 31 #[.slice oa parts.length ca, .slice oc rest.length cc] ∧ Blk wr xb 31 #[.slice ob parts.length cb, .slice od rest.length cd])
  case atStart => exact ⟨0, Nat.zero_le _, by omega, rfl, HX1.out⟩
  case round =>
    obtain ⟨i, hi, hgk, rfl, h1, h2, h3⟩ := hrel
    clear x0 y0
    have HR := Lib.hid (And.intro h1 (And.intro h2 h3))
    have x0 : wr.cell? ⟨xa, 0, none⟩ = some (.slice oa parts.length ca) := h2.cell 0
    have y0 : wr.cell? ⟨xb, 0, none⟩ = some (.slice ob parts.length cb) := h3.cell 0
    have z0 : (0 : Int) ≤ (i : Int) := by omega
    by_cases hlt : i < parts.length
    · obtain ⟨p, hp⟩ : ∃ p, parts[i]? = some p := ⟨parts[i], List.getElem?_eq_getElem hlt⟩
      obtain ⟨g1, c1, u1, q1, k1, n1⟩ := qrow_get (HAB.out.1.kept h1) hp
      obtain ⟨g2, c2, u2, q2, k2, n2⟩ := qrow_get (HAB.out.2.1.kept h1) hp
      injection q1 with e1 e2 e3
      injection q2 with e4 e5 e6
      subst e1 e3 e4 e6
      obtain ⟨o1, d1, rfl⟩ := n1.slice
      obtain ⟨o2, d2, rfl⟩ := n2.slice
      have z1 : (i : Int) < (parts.length : Int) := by omega
      have z2 : decide ((i : Int) < (parts.length : Int)) = true := decide_eq_true z1
      have w1_ : IntKind.i64.wrap ((i : Int) + 1) = (i : Int) + 1 := IntWalk.i64_in _ (by omega)
      clear h1 h2 h3 e2 e5
      go_wp2_with fail
      have HSD := Lib.hid (show wr.drew.cell? _ = _ ∧ wr.drew.cell? _ = _ ∧ wr.drew.cell? _ = _ ∧ wr.drew.cell? _ = _ from ⟨x0, k1, y0, k2⟩)
      have hbd : Below wr.heap.size wr wr.drew := ⟨rfl, rfl, rfl, Nat.le_refl _, fun _ _ => rfl⟩
      have HND := Lib.hid (nodes_any (n1.kept hbd).nr (n2.kept hbd).nr (HPK.out p (List.mem_of_getElem? hp)))
      have HRD := Lib.hid (And.intro (chain HR.out.1 hbd) (And.intro (HR.out.2.1.kept hbd) (HR.out.2.2.kept hbd)))
      refine wp_region_held_drew (S := fun w' => w'.cell? ⟨xa, 0, none⟩ = some (.slice (some ⟨g1, 0, none⟩) parts.length ca) ∧ w'.cell? ⟨g1, i, none⟩ = some (.slice o1 p.length d1) ∧ w'.cell? ⟨xb, 0, none⟩ = some (.slice (some ⟨g2, 0, none⟩) parts.length cb) ∧ w'.cell? ⟨g2, i, none⟩ = some (.slice o2 p.length d2)) (by kernel_rfl) HSD.out (fun hHeld => ?_)
      clear x0 k1 y0 k2 n1 n2 hp hbd
      generalize wr.drew = wd at hHeld HSD HND HRD ⊢
      refine wpAnyH_take (i := 0) (oi := { dst := some 20, op := Go.Op.fieldAddr 31 (Go.Operand.tmp 2) 0, type := 0, pos := "ref.go:260", after := #[], guard := none }) (v := ?v1) rfl (by kernel_rfl) (by kernel_rfl) (by kernel_rfl) (fun _ _ _ h => h) (Or.inl ⟨by rfl, ?hy1⟩) (by assumption) ?rest1
      case hy1 =>
        intro w hSw
        (try dsimp only at hSw)
        go_simp
        try with_reducible rfl
      try simp only [Act.put, List.setIfInBounds_toArray, List.set_cons_zero, List.set_cons_succ]
      refine wpAnyH_take (i := 1) (oi := { dst := some 21, op := Go.Op.load 29 (Go.Operand.tmp 20), type := 29, pos := "ref.go:260", after := #[{ on := 0, ground := Go.Ground.data }], guard := none }) (v := ?v2) rfl (by kernel_rfl) (by kernel_rfl) (by kernel_rfl) (fun _ _ _ h => h) (Or.inl ⟨by rfl, ?hy2⟩) (by assumption) ?rest2
      case hy2 =>
        intro w hSw
        (try dsimp only at hSw)
        go_simp
        try with_reducible rfl
      try simp only [Act.put, List.setIfInBounds_toArray, List.set_cons_zero, List.set_cons_succ]
      refine wpAnyH_take (i := 2) (oi := { dst := some 22, op := Go.Op.move (Go.Operand.tmp 5), type := 3, pos := "ref.go:260", after := #[], guard := none }) (v := ?v3) rfl (by kernel_rfl) (by kernel_rfl) (by kernel_rfl) (fun _ _ _ h => h) (Or.inl ⟨by rfl, ?hy3⟩) (by assumption) ?rest3
      case hy3 =>
        intro w hSw
        (try dsimp only at hSw)
        go_simp
        try with_reducible rfl
      try simp only [Act.put, List.setIfInBounds_toArray, List.set_cons_zero, List.set_cons_succ]
      refine wpAnyH_take (i := 3) (oi := { dst := some 23, op := Go.Op.indexAddr 29 (Go.Operand.tmp 21) (Go.Operand.tmp 22), type := 0, pos := "ref.go:260", after := #[{ on := 1, ground := Go.Ground.data }, { on := 2, ground := Go.Ground.data }], guard := none }) (v := ?v4) rfl (by kernel_rfl) (by kernel_rfl) (by kernel_rfl) (fun _ _ _ h => h) (Or.inl ⟨by rfl, ?hy4⟩) (by assumption) ?rest4
      case hy4 =>
        intro w hSw
        (try dsimp only at hSw)
        go_simp
        try with_reducible rfl
      try simp only [Act.put, List.setIfInBounds_toArray, List.set_cons_zero, List.set_cons_succ]
      refine wpAnyH_take (i := 4) (oi := { dst := some 24, op := Go.Op.fieldAddr 25 (Go.Operand.tmp 23) 0, type := 0, pos := "ref.go:260", after := #[{ on := 3, ground := Go.Ground.data }], guard := none }) (v := ?v5) rfl (by kernel_rfl) (by kernel_rfl) (by kernel_rfl) (fun _ _ _ h => h) (Or.inl ⟨by rfl, ?hy5⟩) (by assumption) ?rest5
      case hy5 =>
        intro w hSw
        (try dsimp only at hSw)
        go_simp
        try with_reducible rfl
      try simp only [Act.put, List.setIfInBounds_toArray, List.set_cons_zero, List.set_cons_succ]
      refine wpAnyH_take (i := 5) (oi := { dst := some 25, op := Go.Op.load 23 (Go.Operand.tmp 24), type := 23, pos := "ref.go:260", after := #[{ on := 4, ground := Go.Ground.data }], guard := none }) (v := ?v6) rfl (by kernel_rfl) (by kernel_rfl) (by kernel_rfl) (fun _ _ _ h => h) (Or.inl ⟨by rfl, ?hy6⟩) (by assumption) ?rest6
      case hy6 =>
        intro w hSw
        (try dsimp only at hSw)
        go_simp
        try with_reducible rfl
      try simp only [Act.put, List.setIfInBounds_toArray, List.set_cons_zero, List.set_cons_succ]
      refine wpAnyH_take (i := 6) (oi := { dst := some 26, op := Go.Op.fieldAddr 31 (Go.Operand.tmp 3) 0, type := 0, pos := "ref.go:260", after := #[], guard := none }) (v := ?v7) rfl (by kernel_rfl) (by kernel_rfl) (by kernel_rfl) (fun _ _ _ h => h) (Or.inl ⟨by rfl, ?hy7⟩) (by assumption) ?rest7
      case hy7 =>
        intro w hSw
        (try dsimp only at hSw)
        go_simp
        try with_reducible rfl
      try simp only [Act.put, List.setIfInBounds_toArray, List.set_cons_zero, List.set_cons_succ]
      refine wpAnyH_take (i := 7) (oi := { dst := some 27, op := Go.Op.load 29 (Go.Operand.tmp 26), type := 29, pos := "ref.go:260", after := #[{ on := 6, ground := Go.Ground.data }], guard := none }) (v := ?v8) rfl (by kernel_rfl) (by kernel_rfl) (by kernel_rfl) (fun _ _ _ h => h) (Or.inl ⟨by rfl, ?hy8⟩) (by assumption) ?rest8
      case hy8 =>
        intro w hSw
        (try dsimp only at hSw)
        go_simp
        try with_reducible rfl
      try simp only [Act.put, List.setIfInBounds_toArray, List.set_cons_zero, List.set_cons_succ]
      refine wpAnyH_take (i := 8) (oi := { dst := some 28, op := Go.Op.move (Go.Operand.tmp 5), type := 3, pos := "ref.go:260", after := #[], guard := none }) (v := ?v9) rfl (by kernel_rfl) (by kernel_rfl) (by kernel_rfl) (fun _ _ _ h => h) (Or.inl ⟨by rfl, ?hy9⟩) (by assumption) ?rest9
      case hy9 =>
        intro w hSw
        (try dsimp only at hSw)
        go_simp
        try with_reducible rfl
      try simp only [Act.put, List.setIfInBounds_toArray, List.set_cons_zero, List.set_cons_succ]
      refine wpAnyH_take (i := 9) (oi := { dst := some 29, op := Go.Op.indexAddr 29 (Go.Operand.tmp 27) (Go.Operand.tmp 28), type := 0, pos := "ref.go:260", after := #[{ on := 7, ground := Go.Ground.data }, { on := 8, ground := Go.Ground.data }], guard := none }) (v := ?v10) rfl (by kernel_rfl) (by kernel_rfl) (by kernel_rfl) (fun _ _ _ h => h) (Or.inl ⟨by rfl, ?hy10⟩) (by assumption) ?rest10
      case hy10 =>
        intro w hSw
        (try dsimp only at hSw)
        go_simp
        try with_reducible rfl
      try simp only [Act.put, List.setIfInBounds_toArray, List.set_cons_zero, List.set_cons_succ]
      refine wpAnyH_take (i := 10) (oi := { dst := some 30, op := Go.Op.fieldAddr 25 (Go.Operand.tmp 29) 0, type := 0, pos := "ref.go:260", after := #[{ on := 9, ground := Go.Ground.data }], guard := none }) (v := ?v11) rfl (by kernel_rfl) (by kernel_rfl) (by kernel_rfl) (fun _ _ _ h => h) (Or.inl ⟨by rfl, ?hy11⟩) (by assumption) ?rest11
      case hy11 =>
        intro w hSw
        (try dsimp only at hSw)
        go_simp
        try with_reducible rfl
      try simp only [Act.put, List.setIfInBounds_toArray, List.set_cons_zero, List.set_cons_succ]
      refine wpAnyH_take (i := 11) (oi := { dst := some 31, op := Go.Op.load 23 (Go.Operand.tmp 30), type := 23, pos := "ref.go:260", after := #[{ on := 10, ground := Go.Ground.data }], guard := none }) (v := ?v12) rfl (by kernel_rfl) (by kernel_rfl) (by kernel_rfl) (fun _ _ _ h => h) (Or.inl ⟨by rfl, ?hy12⟩) (by assumption) ?rest12
      case hy12 =>
        intro w hSw
        (try dsimp only at hSw)
        go_simp
        try with_reducible rfl
      try simp only [Act.put, List.setIfInBounds_toArray, List.set_cons_zero, List.set_cons_succ]
      refine wpAnyH_ready (rs := [12]) (by kernel_rfl) (by simp) ?_
      refine AllReadyH.cons (o := { dst := some 32, op := Go.Op.call { callee := Go.Callee.value (Go.Operand.func 25), args := #[Go.Operand.tmp 25, Go.Operand.tmp 31], argTypes := #[23, 23] }, type := 4, pos := "ref.go:260", after := #[{ on := 5, ground := Go.Ground.data }, { on := 11, ground := Go.Ground.data }], guard := none }) rfl (fun K hK => ?_) ?_
      · go_simp
        go_at_call 25
        (with_reducible refine HND.out.mono ?_)
        rintro e w5 ⟨rfl, b5⟩
        have B5 := Lib.hid b5
        have HR5 := Lib.hid (And.intro (chain HRD.out.1 b5) (And.intro (HRD.out.2.1.kept b5) (HRD.out.2.2.kept b5)))
        clear b5
        refine hK.out _ _ ?_ (fun hHeld => ?_)
        · exact ⟨keepc B5.out HSD.out.1, keepc B5.out HSD.out.2.1, keepc B5.out HSD.out.2.2.1, keepc B5.out HSD.out.2.2.2⟩
        · clear hK K
          try simp only [Act.put, List.setIfInBounds_toArray, List.set_cons_zero, List.set_cons_succ]
          refine wpAnyH_take (i := 13) (oi := { dst := some 33, op := Go.Op.unOp Go.UnOp.not 4 (Go.Operand.tmp 32), type := 4, pos := "ref.go:260", after := #[{ on := 12, ground := Go.Ground.data }], guard := none }) (v := ?v13) rfl (by kernel_rfl) (by kernel_rfl) (by kernel_rfl) (fun _ _ _ h => h) (Or.inl ⟨by rfl, ?hy13⟩) (by assumption) ?rest13
          case hy13 =>
            intro w hSw
            (try dsimp only at hSw)
            go_simp
            try with_reducible rfl
          try simp only [Act.put, List.setIfInBounds_toArray, List.set_cons_zero, List.set_cons_succ]
          refine wpAnyH_done (by kernel_rfl) ?_ _
          go_wp2_with fail
          go_roundg (parts.length - i)
          case measure => omega
          case rel => exact ⟨i + 1, by omega, by omega, rfl, HR5.out⟩
      exact AllReadyH.nil
    · have hin : i = parts.length := by omega
      subst hin
      have z1 : ¬ (parts.length : Int) < (parts.length : Int) := by omega
      have z2 : decide ((parts.length : Int) < (parts.length : Int)) = false := decide_eq_false z1
      have x1 : wr.cell? ⟨xa, 1, none⟩ = some (.slice oc rest.length cc) := h2.cell 1
      have y1 : wr.cell? ⟨xb, 1, none⟩ = some (.slice od rest.length cd) := h3.cell 1
      have HND := Lib.hid (nodes_any (HAB.out.2.2.1.kept h1).nr (HAB.out.2.2.2.kept h1).nr hrl)
      clear h1 h2 h3
      go_wp2_with fail
      refine HND.out.mono ?_
      rintro e w5 ⟨rfl, b5⟩
      have HB5 := Lib.hid (chain HR.out.1 b5)
      clear b5
      go_wp2_with fail
      go_ret
      exact ⟨rfl, HB5.out⟩
theorem rsplit_nr {W : World} {v : Value} {ns : List Nd} {push : Bool} (hn : NR W v ns) (hq : QNs ns) (hs : ns.length ≤ 128) :
    Calls Try.prog 8 #[.agg #[v], .bool push] W (SplitR W (splitParts ns push) (splitRest ns push)) := by
  have h := hn
  obtain ⟨p, cap, rfl, hcap, _, h4⟩ := hn
  obtain ⟨g, rfl, _⟩ := h4 hq.tree.ne
  exact rsplit_any h hq hcap hs
theorem part_le {ns : List Nd} {push : Bool} {p : List Nd} (h : p ∈ splitParts ns push) : p.length ≤ ns.length := by
  obtain ⟨k, hk⟩ := List.getElem?_of_mem h
  rw [(parts_at hk).1]
  exact take_le ns _ _ _
set_option maxRecDepth 100000 in
theorem texts21_any (s : ByteArray) (push : Bool) (hs : s.size ≤ 140737488351232) (w : World) :
    Calls Try.prog 3 #[.string s, .bool push] w fun e w' => e = .returned (.bool true) ∧ Below w.heap.size w w' := by
  obtain ⟨⟨ns, a, er⟩, hx⟩ : ∃ x, queryS s.data.toList = x := ⟨_, rfl⟩
  have HT := Lib.hid (rquery_text s hs)
  have HX := Lib.hid hx
  clear hx
  go_enter Try.func3, Try.ntmps3
  go_wp2_with fail
  refine (shown_21 _).mono ?_
  rintro e w1 ⟨rfl, b1⟩
  have HB1 := Lib.hid b1
  clear b1
  go_wp2_with fail
  refine (HT.out _).mono ?_
  rw [HX.out]
  rintro e w2 ⟨nv, rfl, hns, b2⟩
  dsimp only at hns ⊢
  obtain ⟨o1, cp1, rfl⟩ := hns.slice
  by_cases he : er = 0
  case neg =>
    have v1 : ((er : Int) != 0) = true := by rw [bne_iff_ne]; omega
    have v2 : ¬ (er : Int) = 0 := by omega
    have HF := Lib.hid (chain (chain HB1.out b2) ((Below.refl w2.heap.size w2).alloc (Nat.le_refl _) (.cells #[.slice o1 ns.length cp1] 25)))
    clear he hns b2
    go_wp2_with fail
    go_ret
    exact ⟨rfl, HF.out⟩
  case pos =>
    subst he
    obtain ⟨hq, h128⟩ := query_qns HX.out
    have HQ := Lib.hid hq
    have hal : Below w2.heap.size w2 (w2.alloc (.cells #[.slice o1 ns.length cp1] 25)) := (Below.refl _ _).alloc (Nat.le_refl _) _
    have HN2 := Lib.hid (show NR (w2.alloc (.cells #[.slice o1 ns.length cp1] 25)) _ ns ∧ Below w.heap.size w (w2.alloc (.cells #[.slice o1 ns.length cp1] 25)) ∧ Blk (w2.alloc (.cells #[.slice o1 ns.length cp1] 25)) w2.heap.size 25 #[.slice o1 ns.length cp1] from
      ⟨(hns.kept hal).nr, chain (chain HB1.out b2) hal, Blk.new _ _ _⟩)
    clear hns b2 hal hq
    go_upto_region 5 with fail
    obtain ⟨qa, hqa⟩ : ∃ b, b = w2.heap.size := ⟨_, rfl⟩
    rw [← hqa] at HN2 ⊢
    generalize w2.alloc _ = u2 at HN2 ⊢
    clear hqa
    have q0 : u2.cell? ⟨qa, 0, none⟩ = some (.slice o1 ns.length cp1) := HN2.out.2.2.cell 0
    go_wp2_with fail
    refine (split_nr HN2.out.1 HQ.out h128).mono ?_
    rintro e w3 ⟨pv, rv, vs, rfl, hqr, hno, b3⟩
    obtain ⟨op, cpp, rfl⟩ := row_slice hqr.row
    obtain ⟨o3, cp3, rfl⟩ := hno.slice
    have hal : Below w3.heap.size w3 (w3.alloc (.cells #[.slice op (splitParts ns push).length cpp, .slice o3 (splitRest ns push).length cp3] 31)) := (Below.refl _ _).alloc (Nat.le_refl _) _
    have HP := Lib.hid (And.intro (plan_new hqr hno (chain HN2.out.2.1 b3)) (And.intro (NR.stay (chain b3 hal) HN2.out.1) ((HN2.out.2.2.kept b3).kept hal)))
    clear hqr hno b3 hal q0 HN2
    go_upto_region 6 with fail
    obtain ⟨pa, hpa⟩ : ∃ b, b = w3.heap.size := ⟨_, rfl⟩
    rw [← hpa] at HP ⊢
    generalize w3.alloc _ = u3 at HP ⊢
    clear hpa
    have q0 : u3.cell? ⟨qa, 0, none⟩ = some (.slice o1 ns.length cp1) := HP.out.2.2.cell 0
    go_wp2_with fail
    refine (rsplit_nr HP.out.2.1 HQ.out h128).mono ?_
    rintro e w4 ⟨pv2, rv2, vs2, rfl, hqr, hno, b4⟩
    obtain ⟨op2, cpp2, rfl⟩ := row_slice hqr.row
    obtain ⟨o4, cp4, rfl⟩ := hno.slice
    have hal : Below w4.heap.size w4 (w4.alloc (.cells #[.slice op2 (splitParts ns push).length cpp2, .slice o4 (splitRest ns push).length cp4] 31)) := (Below.refl _ _).alloc (Nat.le_refl _) _
    have HP2 := Lib.hid (And.intro (plan_new hqr hno (chain HP.out.1.2 b4)) (HP.out.1.1.kept (chain b4 hal)))
    clear hqr hno b4 hal q0 HP
    go_upto_region 7 with fail
    obtain ⟨pb, hpb⟩ : ∃ b, b = w4.heap.size := ⟨_, rfl⟩
    rw [← hpb] at HP2 ⊢
    generalize w4.alloc _ = u4 at HP2 ⊢
    clear hpb
    have p0 : u4.cell? ⟨pa, 0, none⟩ = some (.slice op (splitParts ns push).length cpp) := HP2.out.2.blk.cell 0
    have p1 : u4.cell? ⟨pa, 1, none⟩ = some (.slice o3 (splitRest ns push).length cp3) := HP2.out.2.blk.cell 1
    have p2 : u4.cell? ⟨pb, 0, none⟩ = some (.slice op2 (splitParts ns push).length cpp2) := HP2.out.1.1.blk.cell 0
    have p3 : u4.cell? ⟨pb, 1, none⟩ = some (.slice o4 (splitRest ns push).length cp4) := HP2.out.1.1.blk.cell 1
    have hpl : (splitParts ns push).length ≤ 1000 := by
      have : (splitParts ns push).length = (lastS ns push).length := by simp [splitParts]
      rw [this, lasts_len]
      exact Nat.le_trans (fets_le ns _) (by omega)
    have hrl : (splitRest ns push).length ≤ 1000 := Nat.le_trans (take_le ns _ _ _) (by omega)
    have HSA := Lib.hid (same21_any HP2.out.2.qr HP2.out.1.1.qr HP2.out.2.no HP2.out.1.1.no hpl (fun p hp => Nat.le_trans (part_le hp) (by omega)) hrl)
    clear hpl hrl
    go_wp2_with fail
    refine HSA.out.mono ?_
    rintro e w5 ⟨rfl, b5⟩
    have HF := Lib.hid (chain HP2.out.1.2 b5)
    clear b5
    go_wp2_with fail
    go_ret
    exact ⟨rfl, HF.out⟩
end Go.Proofs.Ytjpogmomgmjmbaa
