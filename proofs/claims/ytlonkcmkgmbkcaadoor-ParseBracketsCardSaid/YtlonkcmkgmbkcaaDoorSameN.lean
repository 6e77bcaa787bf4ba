/- The walks of catchmentref12's SameNode and Same, at two trees that are alike. -/
import Derived.Test.YtlonkcmkgmbkcaaDoorRdX
import Derived.Laws.StructEq
namespace Go.Proofs.YtlonkcmkgmbkcaaDoor
open Go.RowKit LexS ParS BigFrame
set_option maxHeartbeats 4000000
set_option linter.unusedVariables false
set_option linter.unusedSimpArgs false

theorem undVal : Tryd.prog.underlying 45 = some (.struct (Tryd.prog.fieldsOf 45)) := by kernel_rfl
theorem stVal : Tryd.prog.stoodInHeld 45 = false := by kernel_rfl
theorem fldVal : (Tryd.prog.fieldsOf 45).toList = [⟨"Kind", 3, 0, false, "", "", 0⟩, ⟨"N", 3, 1, false, "", "", 8⟩, ⟨"S", 9, 2, false, "", "", 16⟩, ⟨"H", 43, 3, false, "", "", 32⟩] := by kernel_rfl
abbrev zero8 : Value := .agg #[.int .i64 0, .int .i64 0, .int .i64 0, .int .i64 0, .int .i64 0, .int .i64 0, .int .i64 0, .int .i64 0]
theorem eqZero (W : World) : (Op.equalIn 9999 43 zero8 zero8).run Tryd.prog W = .ok true W := by kernel_rfl
theorem partH (v : Val) (W : World) : (part 43 (valA v) 3).run Tryd.prog W = .ok zero8 W := by kernel_rfl
theorem partS (v : Val) (W : World) : (part 9 (valA v) 2).run Tryd.prog W = .ok (.string (BA v.s)) W := by kernel_rfl
theorem partN (v : Val) (W : World) : (part 3 (valA v) 1).run Tryd.prog W = .ok (.int .i64 v.n) W := by kernel_rfl
theorem partK (v : Val) (W : World) : (part 3 (valA v) 0).run Tryd.prog W = .ok (.int .i64 (v.kind : Int)) W := by kernel_rfl
theorem undI : Tryd.prog.underlying 3 = some (.int .i64) := by kernel_rfl
theorem undS : Tryd.prog.underlying 9 = some .string := by kernel_rfl
theorem eq_val (v : Val) (W : World) : (Op.equalIn 10000 45 (.agg (valA v)) (.agg (valA v))).run Tryd.prog W = .ok true W := by
  rw [run_equalIn_agg (P := Tryd.prog) W 9999 45 (valA v) (valA v) undVal stVal, fldVal]
  simp only [Op.eqFields, Sem.run_bind, Sem.run_ite, partK, partN, partS, partH, Result.andThen_ok, eqZero, run_equalIn_int (P := Tryd.prog) _ 9998 3 .i64 .i64 _ _ undI, run_equalIn_string (P := Tryd.prog) _ 9998 9 _ _ undS, beq_self_eq_true]
  simp
theorem neq_val (v : Val) (W : World) : (binOp .neq 45 (.agg (valA v)) (.agg (valA v))).run Tryd.prog W = .ok (.bool false) W := by
  rw [run_neq_struct, eq_val]
  rfl
theorem undAgg : Tryd.prog.underlying 72 = some (.struct (Tryd.prog.fieldsOf 72)) := by kernel_rfl
theorem stAgg : Tryd.prog.stoodInHeld 72 = false := by kernel_rfl
abbrev aggA (k : Nat) (s : Bytes) : Array Value := #[.int .i64 (k : Int), .string (BA s)]
theorem fldAgg : (Tryd.prog.fieldsOf 72).toList = [⟨"Kind", 3, 0, false, "", "", 0⟩, ⟨"Col", 9, 1, false, "", "", 8⟩] := by kernel_rfl
theorem partA0 (k : Nat) (s : Bytes) (W : World) : (part 3 (aggA k s) 0).run Tryd.prog W = .ok (.int .i64 (k : Int)) W := by kernel_rfl
theorem partA1 (k : Nat) (s : Bytes) (W : World) : (part 9 (aggA k s) 1).run Tryd.prog W = .ok (.string (BA s)) W := by kernel_rfl
theorem eq_agg (k : Nat) (s : Bytes) (W : World) : (Op.equalIn 10000 72 (.agg (aggA k s)) (.agg (aggA k s))).run Tryd.prog W = .ok true W := by
  rw [run_equalIn_agg (P := Tryd.prog) W 9999 72 (aggA k s) (aggA k s) undAgg stAgg, fldAgg]
  simp only [Op.eqFields, Sem.run_bind, Sem.run_ite, partA0, partA1, Result.andThen_ok, run_equalIn_int (P := Tryd.prog) _ 9998 3 .i64 .i64 _ _ undI, run_equalIn_string (P := Tryd.prog) _ 9998 9 _ _ undS, beq_self_eq_true]
  simp
theorem neq_agg (k : Nat) (s : Bytes) (W : World) : (binOp .neq 72 (.agg (aggA k s)) (.agg (aggA k s))).run Tryd.prog W = .ok (.bool false) W := by
  rw [run_neq_struct, eq_agg]
  rfl
attribute [local go_sem] eqZero
/-- A row's cells. -/
theorem row_cells {W : World} {base size n : Nat} {e : TypeId} {v : Value} {xs : List Value} (h : W.ownsRow base e size v n xs) :
    ∃ p cap, v = .slice p n cap ∧ n ≤ cap ∧ n ≤ maxLen ∧ (0 < n → ∃ g, p = some ⟨g, 0, none⟩ ∧ ∀ (j : Nat) (u : Value), xs[j]? = some u → W.cell? ⟨g, j, none⟩ = some u) := by
  have hf := fun g hg => h.cells (g := g) hg
  rcases h.2 with ⟨h1, h2⟩ | ⟨g, cap, cur, h2, h3, h4, h5, h6, _⟩
  · exact ⟨none, 0, by rw [h2]; exact h1, by omega, by rw [h2]; exact Nat.zero_le _, fun hc => by omega⟩
  · subst h2
    refine ⟨_, cap, rfl, h5, Nat.le_trans h5 h6, fun _ => ⟨g, rfl, fun j u hj => ?_⟩⟩
    have := hf g rfl j u hj
    rwa [Addr.add_lit, Nat.zero_add] at this
theorem intsL_get {l : List Nat} {i x : Nat} (h : l[i]? = some x) : (intsL l)[i]? = some (.int .i64 (x : Int)) := by
  unfold intsL
  rw [List.getElem?_map, h]
  rfl
theorem strsL_get {l : List Bytes} {i : Nat} {x : Bytes} (h : l[i]? = some x) : (strsL l)[i]? = some (.string (BA x)) := by
  unfold strsL
  rw [List.getElem?_map, h]
  rfl
theorem aggsL_cons (a : Nat × Bytes) (l : List (Nat × Bytes)) : aggsL (a :: l) = [.int .i64 (a.1 : Int), .string (BA a.2)] ++ aggsL l := by simp [aggsL]
theorem aggsL_get : ∀ (l : List (Nat × Bytes)) (i : Nat) (a : Nat × Bytes), l[i]? = some a → (aggsL l)[i * 2]? = some (.int .i64 (a.1 : Int)) ∧ (aggsL l)[i * 2 + 1]? = some (.string (BA a.2))
  | [], i, a, h => by simp at h
  | b :: l, 0, a, h => by
    simp only [List.getElem?_cons_zero, Option.some.injEq] at h
    subst h
    rw [aggsL_cons]
    exact ⟨rfl, rfl⟩
  | b :: l, i + 1, a, h => by
    have := aggsL_get l i a (by simpa using h)
    rw [aggsL_cons, show (i + 1) * 2 = (i * 2) + 2 by omega]
    exact this
set_option maxRecDepth 100000 in
theorem same_node {W : World} {nd : Nd} {lv nv av lv2 nv2 av2 : Value} {b1 b2 : Nat} (h1 : MOk W b1 ⟨nd, lv, nv, av⟩) (h2 : MOk W b2 ⟨nd, lv2, nv2, av2⟩) :
    Calls Tryd.prog 29 #[.agg (NodeM.cells ⟨nd, lv, nv, av⟩).toArray, .agg (NodeM.cells ⟨nd, lv2, nv2, av2⟩).toArray] W fun e W' => e = .returned (.bool true) ∧ Below W.heap.size W W' := by
  obtain ⟨x, hx⟩ : ∃ x, x = (NodeM.cells ⟨nd, lv, nv, av⟩).toArray := ⟨_, rfl⟩
  obtain ⟨y, hy⟩ : ∃ y, y = (NodeM.cells ⟨nd, lv2, nv2, av2⟩).toArray := ⟨_, rfl⟩
  obtain ⟨w2, hw2⟩ : ∃ w2, w2 = (W.alloc (.cells x 48)).alloc (.cells y 48) := ⟨_, rfl⟩
  have hb2 : Below W.heap.size W w2 := by rw [hw2]; exact ((Below.refl _ _).alloc (Nat.le_refl _) _).alloc (by rw [World.size_alloc]; omega) _
  have x0 : Blk w2 W.heap.size 48 (NodeM.cells ⟨nd, lv, nv, av⟩).toArray := by
    rw [hw2, ← hx]
    exact (Blk.new W _ _).kept ((Below.refl _ _).alloc (Nat.le_refl _) _)
  have y0 : Blk w2 (W.heap.size + 1) 48 (NodeM.cells ⟨nd, lv2, nv2, av2⟩).toArray := by
    rw [hw2, ← hy]
    have := Blk.new (W.alloc (.cells x 48)) 48 y
    rwa [World.size_alloc] at this
  rw [← hx, ← hy]
  have M1 := Lib.hid (h1.kept hb2)
  have M2 := Lib.hid (h2.kept hb2)
  have HW2 := Lib.hid hw2
  have HB2 := Lib.hid hb2
  obtain ⟨pl, cl, hlv, _, ql2, ql3⟩ := row_cells (M1.out.l)
  obtain ⟨pl2, cl2, hlv2, _, _, rl3⟩ := row_cells (M2.out.l)
  obtain ⟨pn, cn, hnv, _, qn2, qn3⟩ := row_cells M1.out.names
  obtain ⟨pn2, cn2, hnv2, _, _, rn3⟩ := row_cells M2.out.names
  obtain ⟨pa, ca, hav, _, qa2, qa3⟩ := row_cells M1.out.aggs
  obtain ⟨pa2, ca2, hav2, _, _, ra3⟩ := row_cells M2.out.aggs
  dsimp only at hlv hlv2 hnv hnv2 hav hav2 ql2 ql3 rl3 qn2 qn3 rn3 qa2 qa3 ra3
  have HL := Lib.hid (And.intro ql3 rl3)
  have HN := Lib.hid (And.intro qn3 rn3)
  have HA := Lib.hid (And.intro qa3 ra3)
  simp only [maxLen] at ql2 qn2 qa2
  clear ql3 rl3 qn3 rn3 qa3 ra3
  subst hlv hlv2 hnv hnv2 hav hav2
  have c0 : w2.cell? ⟨W.heap.size, 0, none⟩ = some (.int .i64 (nd.kind : Int)) := x0.cell 0
  have c1 : w2.cell? ⟨W.heap.size, 1, none⟩ = some (.string (BA nd.s)) := x0.cell 1
  have c2 : w2.cell? ⟨W.heap.size, 2, none⟩ = some (.int .i64 nd.n) := x0.cell 2
  have c3 : w2.cell? ⟨W.heap.size, 3, none⟩ = some (.int .i64 nd.from_) := x0.cell 3
  have c4 : w2.cell? ⟨W.heap.size, 4, none⟩ = some (.int .i64 nd.to_) := x0.cell 4
  have c5 : w2.cell? ⟨W.heap.size, 5, none⟩ = some (.int .i64 (nd.v.kind : Int)) := x0.cell 5
  have c6 : w2.cell? ⟨W.heap.size, 6, none⟩ = some (.int .i64 nd.v.n) := x0.cell 6
  have c7 : w2.cell? ⟨W.heap.size, 7, none⟩ = some (.string (BA nd.v.s)) := x0.cell 7
  have c8 : w2.cell? ⟨W.heap.size, 8, none⟩ = some (.int .i64 0) := x0.cell 8
  have c9 : w2.cell? ⟨W.heap.size, 9, none⟩ = some (.int .i64 0) := x0.cell 9
  have c10 : w2.cell? ⟨W.heap.size, 10, none⟩ = some (.int .i64 0) := x0.cell 10
  have c11 : w2.cell? ⟨W.heap.size, 11, none⟩ = some (.int .i64 0) := x0.cell 11
  have c12 : w2.cell? ⟨W.heap.size, 12, none⟩ = some (.int .i64 0) := x0.cell 12
  have c13 : w2.cell? ⟨W.heap.size, 13, none⟩ = some (.int .i64 0) := x0.cell 13
  have c14 : w2.cell? ⟨W.heap.size, 14, none⟩ = some (.int .i64 0) := x0.cell 14
  have c15 : w2.cell? ⟨W.heap.size, 15, none⟩ = some (.int .i64 0) := x0.cell 15
  have c16 : w2.cell? ⟨W.heap.size, 16, none⟩ = some (.slice pl nd.l.length cl) := x0.cell 16
  have c17 : w2.cell? ⟨W.heap.size, 17, none⟩ = some (.slice pn nd.names.length cn) := x0.cell 17
  have c18 : w2.cell? ⟨W.heap.size, 18, none⟩ = some (.slice pa nd.aggs.length ca) := x0.cell 18
  have d0 : w2.cell? ⟨W.heap.size + 1, 0, none⟩ = some (.int .i64 (nd.kind : Int)) := y0.cell 0
  have d1 : w2.cell? ⟨W.heap.size + 1, 1, none⟩ = some (.string (BA nd.s)) := y0.cell 1
  have d2 : w2.cell? ⟨W.heap.size + 1, 2, none⟩ = some (.int .i64 nd.n) := y0.cell 2
  have d3 : w2.cell? ⟨W.heap.size + 1, 3, none⟩ = some (.int .i64 nd.from_) := y0.cell 3
  have d4 : w2.cell? ⟨W.heap.size + 1, 4, none⟩ = some (.int .i64 nd.to_) := y0.cell 4
  have d5 : w2.cell? ⟨W.heap.size + 1, 5, none⟩ = some (.int .i64 (nd.v.kind : Int)) := y0.cell 5
  have d6 : w2.cell? ⟨W.heap.size + 1, 6, none⟩ = some (.int .i64 nd.v.n) := y0.cell 6
  have d7 : w2.cell? ⟨W.heap.size + 1, 7, none⟩ = some (.string (BA nd.v.s)) := y0.cell 7
  have d8 : w2.cell? ⟨W.heap.size + 1, 8, none⟩ = some (.int .i64 0) := y0.cell 8
  have d9 : w2.cell? ⟨W.heap.size + 1, 9, none⟩ = some (.int .i64 0) := y0.cell 9
  have d10 : w2.cell? ⟨W.heap.size + 1, 10, none⟩ = some (.int .i64 0) := y0.cell 10
  have d11 : w2.cell? ⟨W.heap.size + 1, 11, none⟩ = some (.int .i64 0) := y0.cell 11
  have d12 : w2.cell? ⟨W.heap.size + 1, 12, none⟩ = some (.int .i64 0) := y0.cell 12
  have d13 : w2.cell? ⟨W.heap.size + 1, 13, none⟩ = some (.int .i64 0) := y0.cell 13
  have d14 : w2.cell? ⟨W.heap.size + 1, 14, none⟩ = some (.int .i64 0) := y0.cell 14
  have d15 : w2.cell? ⟨W.heap.size + 1, 15, none⟩ = some (.int .i64 0) := y0.cell 15
  have d16 : w2.cell? ⟨W.heap.size + 1, 16, none⟩ = some (.slice pl2 nd.l.length cl2) := y0.cell 16
  have d17 : w2.cell? ⟨W.heap.size + 1, 17, none⟩ = some (.slice pn2 nd.names.length cn2) := y0.cell 17
  have d18 : w2.cell? ⟨W.heap.size + 1, 18, none⟩ = some (.slice pa2 nd.aggs.length ca2) := y0.cell 18
  have r2 : ∀ (K : World → Prop), K w2 → K ((W.alloc (.cells x 48)).alloc (.cells y 48)) := fun K h => by rw [← HW2.out]; exact h
  have HR2 := Lib.hid r2
  clear hx hy hw2 r2 x0 y0 hb2 h1 h2
  go_enter Tryd.func29, Tryd.ntmps29
  go_upto_region 1 with fail
  refine HR2.out _ ?_
  go_wp2_with fail
  go_loopg [5] (nd.l.length + 1) (fun gk c wr => ∃ i : Nat, i ≤ nd.l.length ∧ nd.l.length < i + gk ∧ c = .int .i64 (i : Int) ∧ Drawn w2 wr)
  case atStart => exact ⟨0, Nat.zero_le _, by omega, rfl, 0, rfl⟩
  case round =>
    obtain ⟨i, hi, hgk, rfl, k, rfl⟩ := hrel
    by_cases hlt : i < nd.l.length
    · obtain ⟨g, rfl, hg⟩ := HL.out.1 (by omega)
      obtain ⟨g2, rfl, hg2⟩ := HL.out.2 (by omega)
      obtain ⟨x_, hx_⟩ : ∃ x, nd.l[i]? = some x := ⟨nd.l[i], List.getElem?_eq_getElem hlt⟩
      have u1 := hg _ _ (intsL_get hx_)
      have u2 := hg2 _ _ (intsL_get hx_)
      have n1 : (i : Int) < (nd.l.length : Int) := by omega
      have n2 : (0 : Int) ≤ (i : Int) := by omega
      have n3 : decide ((i : Int) < (nd.l.length : Int)) = true := decide_eq_true n1
      have w1_ : IntKind.i64.wrap ((i : Int) + 1) = (i : Int) + 1 := IntWalk.i64_in _ (by omega)
      clear hg hg2 hx_
      go_wp2_with fail
      go_region
      go_wp2_with fail
      go_roundg (nd.l.length - i)
      case measure => omega
      case rel => exact ⟨i + 1, by omega, by omega, rfl, Drawn.more ⟨k, rfl⟩ 1⟩
    · have n1 : ¬ (i : Int) < (nd.l.length : Int) := by omega
      have n3 : decide ((i : Int) < (nd.l.length : Int)) = false := decide_eq_false n1
      clear hi hgk hlt
      go_wp2_with fail
      go_loopg [6] (nd.names.length + 1) (fun gk c wr => ∃ i : Nat, i ≤ nd.names.length ∧ nd.names.length < i + gk ∧ c = .int .i64 (i : Int) ∧ Drawn w2 wr)
      case atStart => exact ⟨0, Nat.zero_le _, by omega, rfl, _, rfl⟩
      case round =>
        obtain ⟨i, hi, hgk, rfl, k, rfl⟩ := hrel
        by_cases hlt : i < nd.names.length
        · obtain ⟨g, rfl, hg⟩ := HN.out.1 (by omega)
          obtain ⟨g2, rfl, hg2⟩ := HN.out.2 (by omega)
          obtain ⟨x_, hx_⟩ : ∃ x, nd.names[i]? = some x := ⟨nd.names[i], List.getElem?_eq_getElem hlt⟩
          have u1 := hg _ _ (strsL_get hx_)
          have u2 := hg2 _ _ (strsL_get hx_)
          have n1 : (i : Int) < (nd.names.length : Int) := by omega
          have n2 : (0 : Int) ≤ (i : Int) := by omega
          have n3 : decide ((i : Int) < (nd.names.length : Int)) = true := decide_eq_true n1
          have w1_ : IntKind.i64.wrap ((i : Int) + 1) = (i : Int) + 1 := IntWalk.i64_in _ (by omega)
          clear hg hg2 hx_
          go_wp2_with fail
          go_region
          go_wp2_with fail
          go_roundg (nd.names.length - i)
          case measure => omega
          case rel => exact ⟨i + 1, by omega, by omega, rfl, Drawn.more ⟨k, rfl⟩ 1⟩
        · have n1 : ¬ (i : Int) < (nd.names.length : Int) := by omega
          have n3 : decide ((i : Int) < (nd.names.length : Int)) = false := decide_eq_false n1
          clear hi hgk hlt
          go_wp2_with fail
          go_loopg [7] (nd.aggs.length + 1) (fun gk c wr => ∃ i : Nat, i ≤ nd.aggs.length ∧ nd.aggs.length < i + gk ∧ c = .int .i64 (i : Int) ∧ Drawn w2 wr)
          case atStart => exact ⟨0, Nat.zero_le _, by omega, rfl, _, rfl⟩
          case round =>
            obtain ⟨i, hi, hgk, rfl, k, rfl⟩ := hrel
            by_cases hlt : i < nd.aggs.length
            · obtain ⟨g, rfl, hg⟩ := HA.out.1 (by omega)
              obtain ⟨g2, rfl, hg2⟩ := HA.out.2 (by omega)
              obtain ⟨x_, hx_⟩ : ∃ x, nd.aggs[i]? = some x := ⟨nd.aggs[i], List.getElem?_eq_getElem hlt⟩
              have u1 := hg _ _ (aggsL_get _ _ _ hx_).1
              have u2 := hg _ _ (aggsL_get _ _ _ hx_).2
              have u3 := hg2 _ _ (aggsL_get _ _ _ hx_).1
              have u4 := hg2 _ _ (aggsL_get _ _ _ hx_).2
              have n1 : (i : Int) < (nd.aggs.length : Int) := by omega
              have n2 : (0 : Int) ≤ (i : Int) := by omega
              have n3 : decide ((i : Int) < (nd.aggs.length : Int)) = true := decide_eq_true n1
              have w1_ : IntKind.i64.wrap ((i : Int) + 1) = (i : Int) + 1 := IntWalk.i64_in _ (by omega)
              clear hg hg2 hx_
              go_wp2_with fail
              go_region
              go_wp2_with fail
              go_roundg (nd.aggs.length - i)
              case measure => omega
              case rel => exact ⟨i + 1, by omega, by omega, rfl, Drawn.more ⟨k, rfl⟩ 1⟩
            · have n1 : ¬ (i : Int) < (nd.aggs.length : Int) := by omega
              have n3 : decide ((i : Int) < (nd.aggs.length : Int)) = false := decide_eq_false n1
              clear hi hgk hlt
              go_wp2_with fail
              exact bodyPost_ret (results_tmp rfl _ _ _) rfl ⟨rfl, HB2.out.trans ⟨rfl, rfl, rfl, Nat.le_refl _, fun _ _ => rfl⟩⟩
end Go.Proofs.YtlonkcmkgmbkcaaDoor
