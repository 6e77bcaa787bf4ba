/- Several texts of the proof, joined. -/
import Derived.Test.YtnaehhpikhlppaaGreatDoorD24
import Derived.Laws.StructEq
import Derived.Test.YtnaehhpikhlppaaGreatDoorD14
import Derived.Test.YtnaehhpikhlppaaGreatDoorD17
import Derived.Test.YtnaehhpikhlppaaGreatDoorD18
import Derived.Test.YtnaehhpikhlppaaGreatDoorD19
import Derived.Test.YtnaehhpikhlppaaGreatDoorD22
import Derived.Deep.RegionHeld3
set_option maxHeartbeats 4000000
set_option linter.unusedVariables false
set_option linter.unusedSimpArgs false
namespace Go.Proofs.YtnaehhpikhlppaaGreatDoor
open Go.RowKit LexS ParS BigFrame

theorem undVal : Tryz.prog.underlying 37 = some (.struct (Tryz.prog.fieldsOf 37)) := by kernel_rfl
theorem stVal : Tryz.prog.stoodInHeld 37 = false := by kernel_rfl
theorem fldVal : (Tryz.prog.fieldsOf 37).toList = [⟨"Kind", 3, 0, false, "", "", 0⟩, ⟨"N", 3, 1, false, "", "", 8⟩, ⟨"S", 9, 2, false, "", "", 16⟩, ⟨"H", 35, 3, false, "", "", 32⟩] := by kernel_rfl
abbrev zero8 : Value := .agg #[.int .i64 0, .int .i64 0, .int .i64 0, .int .i64 0, .int .i64 0, .int .i64 0, .int .i64 0, .int .i64 0]
theorem eqZero (W : World) : (Op.equalIn 9999 35 zero8 zero8).run Tryz.prog W = .ok true W := by kernel_rfl
theorem partH (v : Val) (W : World) : (part 35 (valA v) 3).run Tryz.prog W = .ok zero8 W := by kernel_rfl
theorem partS (v : Val) (W : World) : (part 9 (valA v) 2).run Tryz.prog W = .ok (.string (BA v.s)) W := by kernel_rfl
theorem partN (v : Val) (W : World) : (part 3 (valA v) 1).run Tryz.prog W = .ok (.int .i64 v.n) W := by kernel_rfl
theorem partK (v : Val) (W : World) : (part 3 (valA v) 0).run Tryz.prog W = .ok (.int .i64 (v.kind : Int)) W := by kernel_rfl
theorem undI : Tryz.prog.underlying 3 = some (.int .i64) := by kernel_rfl
theorem undS : Tryz.prog.underlying 9 = some .string := by kernel_rfl
theorem eq_val (v : Val) (W : World) : (Op.equalIn 10000 37 (.agg (valA v)) (.agg (valA v))).run Tryz.prog W = .ok true W := by
  rw [run_equalIn_agg (P := Tryz.prog) W 9999 37 (valA v) (valA v) undVal stVal, fldVal]
  simp only [Op.eqFields, Sem.run_bind, Sem.run_ite, partK, partN, partS, partH, Result.andThen_ok, eqZero, run_equalIn_int (P := Tryz.prog) _ 9998 3 .i64 .i64 _ _ undI, run_equalIn_string (P := Tryz.prog) _ 9998 9 _ _ undS, beq_self_eq_true]
  simp
attribute [local go_sem] eqZero
/-- A row's cells. -/
theorem row_cells {W : World} {base size n : Nat} {e : TypeId} {v : Value} {xs : List Value} (h : W.ownsRow base e size v n xs) :
    ∃ p cap, v = .slice p n cap ∧ n ≤ cap ∧ n ≤ maxLen ∧ (0 < n → ∃ g, p = some ⟨g, 0, none⟩ ∧ ∀ (j : Nat) (u : Value), xs[j]? = some u → W.cell? ⟨g, j, none⟩ = some u) := by
  have hf := fun g hg => h.cells (g := g) hg
  rcases h.2 with ⟨h1, h2⟩ | ⟨g, cap, cur, h2, h3, h4, h5, h6, _⟩
  · exact ⟨none, 0, by rw [h2]; exact h1, by omega, by rw [h2]; exact Nat.zero_le _, fun hc => by omega⟩
  · subst h2
    refine ⟨_, cap, rfl, h5, Nat.le_trans h5 h6, fun _ => ⟨g, rfl, fun j u hj => ?_⟩⟩
    have := hf g rfl j u hj
    rwa [Addr.add_lit, Nat.zero_add] at this
theorem intsL_get {l : List Nat} {i x : Nat} (h : l[i]? = some x) : (intsL l)[i]? = some (.int .i64 (x : Int)) := by
  unfold intsL
  rw [List.getElem?_map, h]
  rfl
theorem strsL_get {l : List Bytes} {i : Nat} {x : Bytes} (h : l[i]? = some x) : (strsL l)[i]? = some (.string (BA x)) := by
  unfold strsL
  rw [List.getElem?_map, h]
  rfl
theorem aggsL_cons (a : Nat × Bytes) (l : List (Nat × Bytes)) : aggsL (a :: l) = [.int .i64 (a.1 : Int), .string (BA a.2)] ++ aggsL l := by simp [aggsL]
theorem aggsL_get : ∀ (l : List (Nat × Bytes)) (i : Nat) (a : Nat × Bytes), l[i]? = some a → (aggsL l)[i * 2]? = some (.int .i64 (a.1 : Int)) ∧ (aggsL l)[i * 2 + 1]? = some (.string (BA a.2))
  | [], i, a, h => by simp at h
  | b :: l, 0, a, h => by
    simp only [List.getElem?_cons_zero, Option.some.injEq] at h
    subst h
    rw [aggsL_cons]
    exact ⟨rfl, rfl⟩
  | b :: l, i + 1, a, h => by
    have := aggsL_get l i a (by simpa using h)
    rw [aggsL_cons, show (i + 1) * 2 = (i * 2) + 2 by omega]
    exact this
set_option maxRecDepth 100000 in
theorem same_node {W : World} {nd : Nd} {lv nv av lv2 nv2 av2 : Value} {b1 b2 : Nat} (h1 : MOk W b1 ⟨nd, lv, nv, av⟩) (h2 : MOk W b2 ⟨nd, lv2, nv2, av2⟩) :
    Calls Tryz.prog 16 #[.agg (NodeM.cells ⟨nd, lv, nv, av⟩).toArray, .agg (NodeM.cells ⟨nd, lv2, nv2, av2⟩).toArray] W fun e W' => e = .returned (.bool true) ∧ Below W.heap.size W W' := by
  obtain ⟨x, hx⟩ : ∃ x, x = (NodeM.cells ⟨nd, lv, nv, av⟩).toArray := ⟨_, rfl⟩
  obtain ⟨y, hy⟩ : ∃ y, y = (NodeM.cells ⟨nd, lv2, nv2, av2⟩).toArray := ⟨_, rfl⟩
  obtain ⟨w2, hw2⟩ : ∃ w2, w2 = (W.alloc (.cells x 42)).alloc (.cells y 42) := ⟨_, rfl⟩
  have hb2 : Below W.heap.size W w2 := by rw [hw2]; exact ((Below.refl _ _).alloc (Nat.le_refl _) _).alloc (by rw [World.size_alloc]; omega) _
  have x0 : Blk w2 W.heap.size 42 (NodeM.cells ⟨nd, lv, nv, av⟩).toArray := by
    rw [hw2, ← hx]
    exact (Blk.new W _ _).kept ((Below.refl _ _).alloc (Nat.le_refl _) _)
  have y0 : Blk w2 (W.heap.size + 1) 42 (NodeM.cells ⟨nd, lv2, nv2, av2⟩).toArray := by
    rw [hw2, ← hy]
    have := Blk.new (W.alloc (.cells x 42)) 42 y
    rwa [World.size_alloc] at this
  rw [← hx, ← hy]
  have M1 := Lib.hid (h1.kept hb2)
  have M2 := Lib.hid (h2.kept hb2)
  have HW2 := Lib.hid hw2
  have HB2 := Lib.hid hb2
  obtain ⟨pl, cl, hlv, _, ql2, ql3⟩ := row_cells (M1.out.l)
  obtain ⟨pl2, cl2, hlv2, _, _, rl3⟩ := row_cells (M2.out.l)
  obtain ⟨pn, cn, hnv, _, qn2, qn3⟩ := row_cells M1.out.names
  obtain ⟨pn2, cn2, hnv2, _, _, rn3⟩ := row_cells M2.out.names
  obtain ⟨pa, ca, hav, _, qa2, qa3⟩ := row_cells M1.out.aggs
  obtain ⟨pa2, ca2, hav2, _, _, ra3⟩ := row_cells M2.out.aggs
  dsimp only at hlv hlv2 hnv hnv2 hav hav2 ql2 ql3 rl3 qn2 qn3 rn3 qa2 qa3 ra3
  have HL := Lib.hid (And.intro ql3 rl3)
  have HN := Lib.hid (And.intro qn3 rn3)
  have HA := Lib.hid (And.intro qa3 ra3)
  simp only [maxLen] at ql2 qn2 qa2
  clear ql3 rl3 qn3 rn3 qa3 ra3
  subst hlv hlv2 hnv hnv2 hav hav2
  have c0 : w2.cell? ⟨W.heap.size, 0, none⟩ = some (.int .i64 (nd.kind : Int)) := x0.cell 0
  have c1 : w2.cell? ⟨W.heap.size, 1, none⟩ = some (.string (BA nd.s)) := x0.cell 1
  have c2 : w2.cell? ⟨W.heap.size, 2, none⟩ = some (.int .i64 nd.n) := x0.cell 2
  have c3 : w2.cell? ⟨W.heap.size, 3, none⟩ = some (.int .i64 nd.from_) := x0.cell 3
  have c4 : w2.cell? ⟨W.heap.size, 4, none⟩ = some (.int .i64 nd.to_) := x0.cell 4
  have c5 : w2.cell? ⟨W.heap.size, 5, none⟩ = some (.int .i64 (nd.v.kind : Int)) := x0.cell 5
  have c6 : w2.cell? ⟨W.heap.size, 6, none⟩ = some (.int .i64 nd.v.n) := x0.cell 6
  have c7 : w2.cell? ⟨W.heap.size, 7, none⟩ = some (.string (BA nd.v.s)) := x0.cell 7
  have c8 : w2.cell? ⟨W.heap.size, 8, none⟩ = some (.int .i64 0) := x0.cell 8
  have c9 : w2.cell? ⟨W.heap.size, 9, none⟩ = some (.int .i64 0) := x0.cell 9
  have c10 : w2.cell? ⟨W.heap.size, 10, none⟩ = some (.int .i64 0) := x0.cell 10
  have c11 : w2.cell? ⟨W.heap.size, 11, none⟩ = some (.int .i64 0) := x0.cell 11
  have c12 : w2.cell? ⟨W.heap.size, 12, none⟩ = some (.int .i64 0) := x0.cell 12
  have c13 : w2.cell? ⟨W.heap.size, 13, none⟩ = some (.int .i64 0) := x0.cell 13
  have c14 : w2.cell? ⟨W.heap.size, 14, none⟩ = some (.int .i64 0) := x0.cell 14
  have c15 : w2.cell? ⟨W.heap.size, 15, none⟩ = some (.int .i64 0) := x0.cell 15
  have c16 : w2.cell? ⟨W.heap.size, 16, none⟩ = some (.slice pl nd.l.length cl) := x0.cell 16
  have c17 : w2.cell? ⟨W.heap.size, 17, none⟩ = some (.slice pn nd.names.length cn) := x0.cell 17
  have c18 : w2.cell? ⟨W.heap.size, 18, none⟩ = some (.slice pa nd.aggs.length ca) := x0.cell 18
  have d0 : w2.cell? ⟨W.heap.size + 1, 0, none⟩ = some (.int .i64 (nd.kind : Int)) := y0.cell 0
  have d1 : w2.cell? ⟨W.heap.size + 1, 1, none⟩ = some (.string (BA nd.s)) := y0.cell 1
  have d2 : w2.cell? ⟨W.heap.size + 1, 2, none⟩ = some (.int .i64 nd.n) := y0.cell 2
  have d3 : w2.cell? ⟨W.heap.size + 1, 3, none⟩ = some (.int .i64 nd.from_) := y0.cell 3
  have d4 : w2.cell? ⟨W.heap.size + 1, 4, none⟩ = some (.int .i64 nd.to_) := y0.cell 4
  have d5 : w2.cell? ⟨W.heap.size + 1, 5, none⟩ = some (.int .i64 (nd.v.kind : Int)) := y0.cell 5
  have d6 : w2.cell? ⟨W.heap.size + 1, 6, none⟩ = some (.int .i64 nd.v.n) := y0.cell 6
  have d7 : w2.cell? ⟨W.heap.size + 1, 7, none⟩ = some (.string (BA nd.v.s)) := y0.cell 7
  have d8 : w2.cell? ⟨W.heap.size + 1, 8, none⟩ = some (.int .i64 0) := y0.cell 8
  have d9 : w2.cell? ⟨W.heap.size + 1, 9, none⟩ = some (.int .i64 0) := y0.cell 9
  have d10 : w2.cell? ⟨W.heap.size + 1, 10, none⟩ = some (.int .i64 0) := y0.cell 10
  have d11 : w2.cell? ⟨W.heap.size + 1, 11, none⟩ = some (.int .i64 0) := y0.cell 11
  have d12 : w2.cell? ⟨W.heap.size + 1, 12, none⟩ = some (.int .i64 0) := y0.cell 12
  have d13 : w2.cell? ⟨W.heap.size + 1, 13, none⟩ = some (.int .i64 0) := y0.cell 13
  have d14 : w2.cell? ⟨W.heap.size + 1, 14, none⟩ = some (.int .i64 0) := y0.cell 14
  have d15 : w2.cell? ⟨W.heap.size + 1, 15, none⟩ = some (.int .i64 0) := y0.cell 15
  have d16 : w2.cell? ⟨W.heap.size + 1, 16, none⟩ = some (.slice pl2 nd.l.length cl2) := y0.cell 16
  have d17 : w2.cell? ⟨W.heap.size + 1, 17, none⟩ = some (.slice pn2 nd.names.length cn2) := y0.cell 17
  have d18 : w2.cell? ⟨W.heap.size + 1, 18, none⟩ = some (.slice pa2 nd.aggs.length ca2) := y0.cell 18
  have r2 : ∀ (K : World → Prop), K w2 → K ((W.alloc (.cells x 42)).alloc (.cells y 42)) := fun K h => by rw [← HW2.out]; exact h
  have HR2 := Lib.hid r2
  clear hx hy hw2 r2 x0 y0 hb2 h1 h2
  go_enter Tryz.func16, Tryz.ntmps16
  go_upto_region 1 with fail
  refine HR2.out _ ?_
  go_wp2_with fail
  go_loopg [5] (nd.l.length + 1) (fun gk c wr => ∃ i : Nat, i ≤ nd.l.length ∧ nd.l.length < i + gk ∧ c = .int .i64 (i : Int) ∧ Drawn w2 wr)
  case atStart => exact ⟨0, Nat.zero_le _, by omega, rfl, 0, rfl⟩
  case round =>
    obtain ⟨i, hi, hgk, rfl, k, rfl⟩ := hrel
    by_cases hlt : i < nd.l.length
    · obtain ⟨g, rfl, hg⟩ := HL.out.1 (by omega)
      obtain ⟨g2, rfl, hg2⟩ := HL.out.2 (by omega)
      obtain ⟨x_, hx_⟩ : ∃ x, nd.l[i]? = some x := ⟨nd.l[i], List.getElem?_eq_getElem hlt⟩
      have u1 := hg _ _ (intsL_get hx_)
      have u2 := hg2 _ _ (intsL_get hx_)
      have n1 : (i : Int) < (nd.l.length : Int) := by omega
      have n2 : (0 : Int) ≤ (i : Int) := by omega
      have n3 : decide ((i : Int) < (nd.l.length : Int)) = true := decide_eq_true n1
      have w1_ : IntKind.i64.wrap ((i : Int) + 1) = (i : Int) + 1 := IntWalk.i64_in _ (by omega)
      clear hg hg2 hx_
      go_wp2_with fail
      go_region
      go_wp2_with fail
      go_roundg (nd.l.length - i)
      case measure => omega
      case rel => exact ⟨i + 1, by omega, by omega, rfl, Drawn.more ⟨k, rfl⟩ 1⟩
    · have n1 : ¬ (i : Int) < (nd.l.length : Int) := by omega
      have n3 : decide ((i : Int) < (nd.l.length : Int)) = false := decide_eq_false n1
      clear hi hgk hlt
      go_wp2_with fail
      go_loopg [6] (nd.names.length + 1) (fun gk c wr => ∃ i : Nat, i ≤ nd.names.length ∧ nd.names.length < i + gk ∧ c = .int .i64 (i : Int) ∧ Drawn w2 wr)
      case atStart => exact ⟨0, Nat.zero_le _, by omega, rfl, _, rfl⟩
      case round =>
        obtain ⟨i, hi, hgk, rfl, k, rfl⟩ := hrel
        by_cases hlt : i < nd.names.length
        · obtain ⟨g, rfl, hg⟩ := HN.out.1 (by omega)
          obtain ⟨g2, rfl, hg2⟩ := HN.out.2 (by omega)
          obtain ⟨x_, hx_⟩ : ∃ x, nd.names[i]? = some x := ⟨nd.names[i], List.getElem?_eq_getElem hlt⟩
          have u1 := hg _ _ (strsL_get hx_)
          have u2 := hg2 _ _ (strsL_get hx_)
          have n1 : (i : Int) < (nd.names.length : Int) := by omega
          have n2 : (0 : Int) ≤ (i : Int) := by omega
          have n3 : decide ((i : Int) < (nd.names.length : Int)) = true := decide_eq_true n1
          have w1_ : IntKind.i64.wrap ((i : Int) + 1) = (i : Int) + 1 := IntWalk.i64_in _ (by omega)
          clear hg hg2 hx_
          go_wp2_with fail
          go_region
          go_wp2_with fail
          go_roundg (nd.names.length - i)
          case measure => omega
          case rel => exact ⟨i + 1, by omega, by omega, rfl, Drawn.more ⟨k, rfl⟩ 1⟩
        · have n1 : ¬ (i : Int) < (nd.names.length : Int) := by omega
          have n3 : decide ((i : Int) < (nd.names.length : Int)) = false := decide_eq_false n1
          clear hi hgk hlt
          go_wp2_with fail
          go_loopg [7] (nd.aggs.length + 1) (fun gk c wr => ∃ i : Nat, i ≤ nd.aggs.length ∧ nd.aggs.length < i + gk ∧ c = .int .i64 (i : Int) ∧ Drawn w2 wr)
          case atStart => exact ⟨0, Nat.zero_le _, by omega, rfl, _, rfl⟩
          case round =>
            obtain ⟨i, hi, hgk, rfl, k, rfl⟩ := hrel
            by_cases hlt : i < nd.aggs.length
            · obtain ⟨g, rfl, hg⟩ := HA.out.1 (by omega)
              obtain ⟨g2, rfl, hg2⟩ := HA.out.2 (by omega)
              obtain ⟨x_, hx_⟩ : ∃ x, nd.aggs[i]? = some x := ⟨nd.aggs[i], List.getElem?_eq_getElem hlt⟩
              have u1 := hg _ _ (aggsL_get _ _ _ hx_).1
              have u2 := hg _ _ (aggsL_get _ _ _ hx_).2
              have u3 := hg2 _ _ (aggsL_get _ _ _ hx_).1
              have u4 := hg2 _ _ (aggsL_get _ _ _ hx_).2
              have n1 : (i : Int) < (nd.aggs.length : Int) := by omega
              have n2 : (0 : Int) ≤ (i : Int) := by omega
              have n3 : decide ((i : Int) < (nd.aggs.length : Int)) = true := decide_eq_true n1
              have w1_ : IntKind.i64.wrap ((i : Int) + 1) = (i : Int) + 1 := IntWalk.i64_in _ (by omega)
              clear hg hg2 hx_
              go_wp2_with fail
              go_region
              go_wp2_with fail
              go_roundg (nd.aggs.length - i)
              case measure => omega
              case rel => exact ⟨i + 1, by omega, by omega, rfl, Drawn.more ⟨k, rfl⟩ 1⟩
            · have n1 : ¬ (i : Int) < (nd.aggs.length : Int) := by omega
              have n3 : decide ((i : Int) < (nd.aggs.length : Int)) = false := decide_eq_false n1
              clear hi hgk hlt
              go_wp2_with fail
              exact bodyPost_ret (results_tmp rfl _ _ _) rfl ⟨rfl, HB2.out.trans ⟨rfl, rfl, rfl, Nat.le_refl _, fun _ _ => rfl⟩⟩
end Go.Proofs.YtnaehhpikhlppaaGreatDoor

namespace Go.Proofs.YtnaehhpikhlppaaGreatDoor
open Go.RowKit LexS ParS BigFrame
attribute [local go_sem] World.cell?_alloc_some cell_drewN_new free_drewN_new cell_drew_new free_drew_new

/-- A tree's nodes, as they are read. -/
def NR (W : World) (v : Value) (ns : List Nd) : Prop := ∃ p cap, v = .slice p ns.length cap ∧ ns.length ≤ cap ∧ ns.length ≤ maxLen ∧ (ns ≠ [] → ∃ g, p = some ⟨g, 0, none⟩ ∧
  ∀ (i : Nat) (nd : Nd), ns[i]? = some nd → ∃ (m : NodeM) (b : Nat), m.node = nd ∧ MOk W b m ∧ W.rangeAt g (i * 19) m.cells)
theorem NS.nr {W : World} {b : Nat} {v : Value} {ns : List Nd} (h : NS W b v ns) : NR W v ns := by
  obtain ⟨p, cap, h1, h2, h3, h4⟩ := nodes_row h
  refine ⟨p, cap, h1, h2, h3, fun hne => ?_⟩
  obtain ⟨g, hg, _, _, hc⟩ := h4 hne
  refine ⟨g, hg, fun i nd hi => ?_⟩
  obtain ⟨m, hm, hk, hcell⟩ := hc i nd hi
  exact ⟨m, b, hm, hk, fun j u hj => hcell j u (List.getElem?_eq_some_iff.1 hj).1 hj⟩
theorem range_kept {W W' : World} {g o : Nat} {cs : List Value} (hb : Below W.heap.size W W') (h : W.rangeAt g o cs) : W'.rangeAt g o cs := fun j u hj => keepc hb (h j u hj)
end Go.Proofs.YtnaehhpikhlppaaGreatDoor

namespace Go.Proofs.YtnaehhpikhlppaaGreatDoor
open Go.RowKit LexS ParS BigFrame

def signB (k : Nat) : Bytes := if k = 0 then [] else 32 :: (signW k ++ [32])
def stepB (k : Nat) : Bytes := if k < 2 then [] else if k < 7 then stepW k ++ [32] else stepW k ++ [32, 40]
def aggC (k : Nat) : Bytes := if k = 0 then [] else if k = 1 then aggW 1 else aggW k ++ [32]
theorem signB_len (k : Nat) : (signB k).length ≤ 4 := by
  unfold signB
  split
  · exact Nat.zero_le _
  · have : (signW k).length ≤ 2 := by
      unfold signW kw_signs
      have h : k - 1 = 0 ∨ k - 1 = 1 ∨ k - 1 = 2 ∨ k - 1 = 3 ∨ k - 1 = 4 ∨ k - 1 = 5 ∨ 6 ≤ k - 1 := by omega
      rcases h with h | h | h | h | h | h | h
      · rw [h]; decide
      · rw [h]; decide
      · rw [h]; decide
      · rw [h]; decide
      · rw [h]; decide
      · rw [h]; decide
      · rw [List.getD_eq_getElem?_getD, List.getElem?_eq_none (by simpa using h)]
        exact Nat.zero_le _
    simp
    omega
theorem valB_len {v : Val} (hv : ValOk v) (hn : -9223372036854775808 ≤ v.n ∧ v.n ≤ 9223372036854775807) (hs : v.s.length ≤ 64) : (valB v).length ≤ 130 := by
  unfold valB
  split
  · have := (itoa_small v.n hn.1 hn.2).1
    omega
  · split
    · have := quote_len v.s
      omega
    · split <;> decide
/-- The library's variables and package print's, as they are laid. -/
structure PW (W : World) : Prop where
  gw : GW W
  signs : ∀ k, k < 7 → W.cell? ⟨0, k, none⟩ = some (.string (BA (signB k)))
  steps : ∀ k, k < 9 → W.cell? ⟨1, k, none⟩ = some (.string (BA (stepB k)))
  aggs : ∀ k, k < 7 → W.cell? ⟨2, k, none⟩ = some (.string (BA (aggC k)))
theorem PW.kept {W W1 : World} (h : PW W) (hb : Below W.heap.size W W1) : PW W1 :=
  ⟨h.gw.kept hb, fun k hk => keepc hb (h.signs k hk), fun k hk => keepc hb (h.steps k hk), fun k hk => keepc hb (h.aggs k hk)⟩
theorem NR.stayP {W W' : World} {v : Value} {ns : List Nd} (hb : Below W.heap.size W W') (h : NR W v ns) : NR W' v ns := by
  obtain ⟨p, cap, h1, h2, h3, h4⟩ := h
  refine ⟨p, cap, h1, h2, h3, fun hne => ?_⟩
  obtain ⟨g, hg, hc⟩ := h4 hne
  refine ⟨g, hg, fun i nd hi => ?_⟩
  obtain ⟨m, b, hm, hk, hr⟩ := hc i nd hi
  exact ⟨m, b, hm, hk.kept hb, range_kept hb hr⟩
theorem nr_rangeP {W : World} {g n cap : Nat} {ns : List Nd} (h : NR W (.slice (some ⟨g, 0, none⟩) n cap) ns) {i : Nat} {nd : Nd} (hi : ns[i]? = some nd) : ∃ (m : NodeM) (b : Nat), m.node = nd ∧ MOk W b m ∧ W.rangeAt g (i * 19) m.cells ∧ n = ns.length ∧ ns.length ≤ maxLen := by
  obtain ⟨p, c, h1, _, h3, h4⟩ := h
  obtain ⟨g', hg, hc⟩ := h4 (by rintro rfl; simp at hi)
  injection h1 with e1 e2 e3
  rw [hg] at e1
  injection e1 with e1
  injection e1 with e1
  subst e1
  obtain ⟨m, b, k1, k2, k3⟩ := hc i nd hi
  exact ⟨m, b, k1, k2, k3, e2, h3⟩
theorem MOk.onesP {W : World} {b : Nat} {m : NodeM} (h : MOk W b m) : m.cells.toArray.all (·.oneCell') = true := by
  obtain ⟨nd, lv, nv, av⟩ := m
  obtain ⟨kd, s, n, fr, to_, v, l, nm, ag⟩ := nd
  obtain ⟨p1, c1, e1⟩ := row_slice h.l
  obtain ⟨p2, c2, e2⟩ := row_slice h.names
  obtain ⟨p3, c3, e3⟩ := row_slice h.aggs
  dsimp only at e1 e2 e3
  exact one_nd kd s n fr to_ v (by rw [e1]; rfl) (by rw [e2]; rfl) (by rw [e3]; rfl) l nm ag
/-- A call of a writer: its own box and node. -/
structure CK (w : World) (nb : Nat) (nv : Value) (ns : List Nd) (m : NodeM) (W : World) : Prop where
  below : Below w.heap.size w W
  pw : PW W
  box : Blk W w.heap.size 75 #[nv]
  nd : Blk W nb 42 m.cells.toArray
  nr : NR W nv ns
  rows : ∃ b, MOk W b m
theorem CK.kept {w W W' : World} {nb : Nat} {nv : Value} {ns : List Nd} {m : NodeM} (h : CK w nb nv ns m W) (hb : Below W.heap.size W W') : CK w nb nv ns m W' :=
  ⟨chain h.below hb, h.pw.kept hb, h.box.kept hb, h.nd.kept hb, h.nr.stayP hb, by obtain ⟨b, hm⟩ := h.rows; exact ⟨b, hm.kept hb⟩⟩
theorem CK.drew {w W : World} {nb : Nat} {nv : Value} {ns : List Nd} {m : NodeM} (h : CK w nb nv ns m W) : CK w nb nv ns m W.drew := h.kept (Below.refl _ _).drew
abbrev boxed (w : World) (nv : Value) : World := w.alloc (.cells #[nv] 75)
theorem CK.start {w w4 : World} {nv : Value} {ns : List Nd} {m : NodeM} {b : Nat} (hp : PW w) (hn : NR w nv ns) (hm : MOk w b m) (h4 : ((boxed w nv).alloc (.cells zeroNd 42)).setCells (w.heap.size + 1) 0 m.cells = w4) : CK w (w.heap.size + 1) nv ns m w4 := by
  have hb1 : Below w.heap.size w (boxed w nv) := (Below.refl _ _).alloc (Nat.le_refl _) _
  have hs1 : (boxed w nv).heap.size = w.heap.size + 1 := by rw [World.size_alloc]
  rw [← hs1] at h4
  obtain ⟨hb4, hk4⟩ := nd_stored (m := m) h4
  have hb := chain hb1 hb4
  have hx : Blk (boxed w nv) w.heap.size 75 #[nv] := Blk.new _ _ _
  exact ⟨hb, hp.kept hb, hx.kept hb4, by rw [← hs1]; exact hk4, hn.stayP hb, b, hm.kept hb⟩
theorem CK.there (w : World) (nv : Value) : ((boxed w nv).alloc (.cells zeroNd 42)).there (w.heap.size + 1) 0 19 := by
  have := nd_there (boxed w nv)
  rwa [World.size_alloc] at this
section
variable {w W : World} {nb : Nat} {nv : Value} {ns : List Nd} {m : NodeM} {nd : Nd}
theorem CK.c0 (h : CK w nb nv ns m W) (hm : m.node = nd) : W.cell? ⟨nb, 0, none⟩ = some (.int .i64 (nd.kind : Int)) := by subst hm; exact h.nd.cell 0
theorem CK.c1 (h : CK w nb nv ns m W) (hm : m.node = nd) : W.cell? ⟨nb, 1, none⟩ = some (.string (BA nd.s)) := by subst hm; exact h.nd.cell 1
theorem CK.c2 (h : CK w nb nv ns m W) (hm : m.node = nd) : W.cell? ⟨nb, 2, none⟩ = some (.int .i64 nd.n) := by subst hm; exact h.nd.cell 2
theorem CK.c7 (h : CK w nb nv ns m W) (hm : m.node = nd) : W.cell? ⟨nb, 7, none⟩ = some (.string (BA nd.v.s)) := by subst hm; exact h.nd.cell 7
theorem CK.cv (h : CK w nb nv ns m W) (hm : m.node = nd) : W.cell? ⟨nb, 5, none⟩ = some (.int .i64 (nd.v.kind : Int)) ∧ W.cell? ⟨nb, 6, none⟩ = some (.int .i64 nd.v.n) ∧ W.cell? ⟨nb, 7, none⟩ = some (.string (BA nd.v.s)) ∧ W.cell? ⟨nb, 8, none⟩ = some (.int .i64 0) ∧ W.cell? ⟨nb, 9, none⟩ = some (.int .i64 0) ∧ W.cell? ⟨nb, 10, none⟩ = some (.int .i64 0) ∧ W.cell? ⟨nb, 11, none⟩ = some (.int .i64 0) ∧ W.cell? ⟨nb, 12, none⟩ = some (.int .i64 0) ∧ W.cell? ⟨nb, 13, none⟩ = some (.int .i64 0) ∧ W.cell? ⟨nb, 14, none⟩ = some (.int .i64 0) ∧ W.cell? ⟨nb, 15, none⟩ = some (.int .i64 0) := by
  subst hm
  exact ⟨h.nd.cell 5, h.nd.cell 6, h.nd.cell 7, h.nd.cell 8, h.nd.cell 9, h.nd.cell 10, h.nd.cell 11, h.nd.cell 12, h.nd.cell 13, h.nd.cell 14, h.nd.cell 15⟩
theorem CK.gw (h : CK w nb nv ns m W) : GW W := h.pw.gw
end
/-- What a condition's call answers. -/
def CondP (w : World) (t : Bytes) (e : Ending) (w' : World) : Prop := e = .returned (.string (BA t)) ∧ Below w.heap.size w w'
section
variable {w : World} {g cap i : Nat} {ns : List Nd}
set_option maxRecDepth 100000 in
theorem cond_has {s t : Bytes} (wanted : Nat) (hw : wanted ≤ 3) (hi : ns[i]? = some { node 15 [] with s := s, v := ⟨2, 0, t⟩ }) (hn : NR w (.slice (some ⟨g, 0, none⟩) ns.length cap) ns) (hp : PW w) (hs : s.length ≤ 130) (ht : t.length ≤ 64) :
    Calls Tryz.prog 32 #[.agg #[.slice (some ⟨g, 0, none⟩) ns.length cap], .int .i64 (i : Int), .int .i64 (wanted : Int)] w (CondP w (s ++ [32, 104, 97, 115, 32] ++ quoteS t)) := by
  obtain ⟨m, b, hm, hk, hr, _, hml⟩ := nr_rangeP hn hi
  have hlt : i < ns.length := (List.getElem?_eq_some_iff.1 hi).1
  simp only [maxLen] at hml
  have a0 : (0 : Int) ≤ (i : Int) := by omega
  have a1 : (i : Int) < (ns.length : Int) := by omega
  have w0 : decide ((3 : Int) < (wanted : Int)) = false := decide_eq_false (by omega)
  have w1' : ¬ (3 : Int) < (wanted : Int) := by omega
  have hone := hk.onesP
  have HR := Lib.hid (range_kept (W' := boxed w (.slice (some ⟨g, 0, none⟩) ns.length cap)) ((Below.refl _ _).alloc (Nat.le_refl _) _) hr)
  have hth := CK.there w (.slice (some ⟨g, 0, none⟩) ns.length cap)
  have ht1 := tight_any 15
  have HS := Lib.hid (fun w4 h4 => CK.start (w4 := w4) hp hn hk h4)
  have HM := Lib.hid hm
  have hq := quote_any (BA t) (by rw [text_size]; omega)
  rw [text_list] at hq
  have z1 : (BA s).size ≤ 130 := by rw [text_size]; exact hs
  have z1' : ((BA s).size : Int) ≤ 130 := by omega
  have z2 : (BA (quoteS t)).size ≤ 130 := by rw [text_size]; have := quote_len t; omega
  have z2' : ((BA (quoteS t)).size : Int) ≤ 130 := by omega
  have HQ := Lib.hid hq
  have y1 : s.length + 5 ≤ 9223372036854775807 := by omega
  have y2 : (BA s).size + (⟨#[32, 104, 97, 115, 32]⟩ : ByteArray).size ≤ 9223372036854775807 := by rw [text_size]; show s.length + 5 ≤ _; omega
  have hql := quote_len t
  have y3 : s.length + 5 + (quoteS t).length ≤ 9223372036854775807 := by omega
  have y4 : (BA s ++ (⟨#[32, 104, 97, 115, 32]⟩ : ByteArray)).size + (BA (quoteS t)).size ≤ 9223372036854775807 := by rw [ByteArray.size_append, text_size, text_size]; show s.length + 5 + _ ≤ _; omega
  have y5 : (BA s ++ (⟨#[32, 104, 97, 115, 32]⟩ : ByteArray)).size + (quoteS t).length ≤ 9223372036854775807 := by rw [ByteArray.size_append, text_size]; show s.length + 5 + _ ≤ _; omega
  have v1 := Nat.not_lt.2 y1
  have v2 := Nat.not_lt.2 y2
  have v3 := Nat.not_lt.2 y3
  have v4 := Nat.not_lt.2 y4
  have v5 := Nat.not_lt.2 y5
  clear hq
  clear hi hn hp hm hk hr hml
  go_enter Tryz.func32, Tryz.ntmps32
  go_wp2_with (first
    | (refine wpList_load_mid (by rfl) 42 (.tmp 12) (by rfl) g (i * 19) (by rfl) m.cells _ HR.out undNode (by rfl) sizeNode ?_)
    | (refine wpList_store_mid (by rfl) 42 (.tmp 7) (.tmp 13) (by rfl) (w.heap.size + 1) 0 m.cells.toArray (by rfl) (by rfl) hth sizeNode hone ?_
       generalize hw4 : World.setCells _ _ _ _ = w4
       have hc := HS.out w4 hw4
       have k0 := hc.c0 HM.out
       have c1 := hc.c1 HM.out
       have c7 := hc.c7 HM.out
       dsimp only [node] at k0 c1 c7
       have HC := Lib.hid hc
       clear hw4 hth hone hc))
  refine (ht1 _).mono ?_
  rintro e w5 ⟨rfl, rfl⟩
  go_wp2_with fail
  have hk3 := HC.out.drew
  clear k0
  go_region_held3 (fun w' => w'.cell? ⟨w.heap.size + 1, 1, none⟩ = some (.string (BA s)) ∧ w'.cell? ⟨w.heap.size + 1, 7, none⟩ = some (.string (BA t)))
    (go_keep)
    (first | (go_at_call 58; (with_reducible refine (HQ.out _ (CK.gw (by assumption))).mono ?_); rintro e w9 ⟨rfl, hb1⟩; have hk3 := CK.kept (by assumption) hb1; have c1 := hk3.c1 HM.out; have c7 := hk3.c7 HM.out; dsimp only [node] at c1 c7; clear hb1))
  all_goals go_wp2_with fail
  all_goals exact bodyPost_ret (results_tmp rfl _ _ _) rfl ⟨by show Ending.returned (Value.string (BA s ++ (⟨#[32, 104, 97, 115, 32]⟩ : ByteArray) ++ BA (quoteS t))) = _; exact congrArg (fun x => Ending.returned (Value.string x)) (cat3 s [32, 104, 97, 115, 32] (quoteS t)), hk3.below⟩
set_option maxRecDepth 100000 in
theorem cond_cmp {s : Bytes} {n : Nat} {v : Val} (wanted : Nat) (hw : wanted ≤ 3) (hi : ns[i]? = some { node 14 [] with s := s, n := (n : Int), v := v }) (hn : NR w (.slice (some ⟨g, 0, none⟩) ns.length cap) ns) (hp : PW w) (hs : s.length ≤ 130) (n1 : 1 ≤ n) (n2 : n ≤ 6)
    (hv : ValOk v) (hvn : -9223372036854775808 ≤ v.n ∧ v.n ≤ 9223372036854775807) (hvs : v.s.length ≤ 64) :
    Calls Tryz.prog 32 #[.agg #[.slice (some ⟨g, 0, none⟩) ns.length cap], .int .i64 (i : Int), .int .i64 (wanted : Int)] w (CondP w (s ++ (32 :: (signW n ++ [32])) ++ valB v)) := by
  obtain ⟨m, b, hm, hk, hr, _, hml⟩ := nr_rangeP hn hi
  have hlt : i < ns.length := (List.getElem?_eq_some_iff.1 hi).1
  simp only [maxLen] at hml
  have a0 : (0 : Int) ≤ (i : Int) := by omega
  have a1 : (i : Int) < (ns.length : Int) := by omega
  have w0 : decide ((3 : Int) < (wanted : Int)) = false := decide_eq_false (by omega)
  have w1' : ¬ (3 : Int) < (wanted : Int) := by omega
  have hone := hk.onesP
  have HR := Lib.hid (range_kept (W' := boxed w (.slice (some ⟨g, 0, none⟩) ns.length cap)) ((Below.refl _ _).alloc (Nat.le_refl _) _) hr)
  have hth := CK.there w (.slice (some ⟨g, 0, none⟩) ns.length cap)
  have ht1 := tight_any 14
  have HS := Lib.hid (fun w4 h4 => CK.start (w4 := w4) hp hn hk h4)
  have HM := Lib.hid hm
  have hq := vtext_any hv hvn.1 hvn.2 hvs
  have hql := valB_len hv hvn hvs
  have e0 : signB n = 32 :: (signW n ++ [32]) := by unfold signB; rw [if_neg (by omega)]
  have hsl := signB_len n
  obtain ⟨sb, hsb⟩ : ∃ sb, sb = signB n := ⟨_, rfl⟩
  rw [← e0, ← hsb]
  rw [← hsb] at hsl
  obtain ⟨vb, hvb⟩ : ∃ vb, vb = valB v := ⟨_, rfl⟩
  rw [← hvb] at hq hql ⊢
  have b0 : (0 : Int) ≤ (n : Int) := by omega
  have b1 : (n : Int) < 7 := by omega
  have HSB := Lib.hid hsb
  have n7 : n < 7 := by omega
  have y1 : s.length + sb.length ≤ 9223372036854775807 := by omega
  have y2 : (BA s).size + (BA sb).size ≤ 9223372036854775807 := by rw [text_size, text_size]; omega
  have y4 : (BA s ++ BA sb).size + (BA vb).size ≤ 9223372036854775807 := by rw [ByteArray.size_append, text_size, text_size, text_size]; omega
  have y5 : (BA s ++ BA sb).size + vb.length ≤ 9223372036854775807 := by rw [ByteArray.size_append, text_size, text_size]; omega
  have y3 : s.length + sb.length + vb.length ≤ 9223372036854775807 := by omega
  have v1 := Nat.not_lt.2 y1
  have v2 := Nat.not_lt.2 y2
  have v3 := Nat.not_lt.2 y3
  have v4 := Nat.not_lt.2 y4
  have v5 := Nat.not_lt.2 y5
  have HQ := Lib.hid hq
  clear hq e0 hvb hsb hv hvn hvs
  clear hi hn hp hm hk hr hml
  go_enter Tryz.func32, Tryz.ntmps32
  go_wp2_with (first
    | (refine wpList_load_mid (by rfl) 42 (.tmp 12) (by rfl) g (i * 19) (by rfl) m.cells _ HR.out undNode (by rfl) sizeNode ?_)
    | (refine wpList_store_mid (by rfl) 42 (.tmp 7) (.tmp 13) (by rfl) (w.heap.size + 1) 0 m.cells.toArray (by rfl) (by rfl) hth sizeNode hone ?_
       generalize hw4 : World.setCells _ _ _ _ = w4
       have hc := HS.out w4 hw4
       have k0 := hc.c0 HM.out
       have c1 := hc.c1 HM.out
       have c2 := hc.c2 HM.out
       obtain ⟨d5, d6, d7, d8, d9, d10, d11, d12, d13, d14, d15⟩ := hc.cv HM.out
       have gs := hc.pw.signs n n7
       rw [← HSB.out] at gs
       dsimp only [node] at k0 c1 c2 d5 d6 d7
       have HC := Lib.hid hc
       clear hw4 hth hone hc))
  refine (ht1 _).mono ?_
  rintro e w5 ⟨rfl, rfl⟩
  go_wp2_with fail
  have hk3 := HC.out.drew
  clear k0
  go_region_held3 (fun w' => w'.cell? ⟨w.heap.size + 1, 1, none⟩ = some (.string (BA s)) ∧ w'.cell? ⟨w.heap.size + 1, 2, none⟩ = some (.int .i64 (n : Int)) ∧ w'.cell? ⟨0, n, none⟩ = some (.string (BA sb)) ∧
      w'.cell? ⟨w.heap.size + 1, 5, none⟩ = some (.int .i64 (v.kind : Int)) ∧ w'.cell? ⟨w.heap.size + 1, 6, none⟩ = some (.int .i64 v.n) ∧ w'.cell? ⟨w.heap.size + 1, 7, none⟩ = some (.string (BA v.s)) ∧
      w'.cell? ⟨w.heap.size + 1, 8, none⟩ = some (.int .i64 0) ∧ w'.cell? ⟨w.heap.size + 1, 9, none⟩ = some (.int .i64 0) ∧ w'.cell? ⟨w.heap.size + 1, 10, none⟩ = some (.int .i64 0) ∧ w'.cell? ⟨w.heap.size + 1, 11, none⟩ = some (.int .i64 0) ∧
      w'.cell? ⟨w.heap.size + 1, 12, none⟩ = some (.int .i64 0) ∧ w'.cell? ⟨w.heap.size + 1, 13, none⟩ = some (.int .i64 0) ∧ w'.cell? ⟨w.heap.size + 1, 14, none⟩ = some (.int .i64 0) ∧ w'.cell? ⟨w.heap.size + 1, 15, none⟩ = some (.int .i64 0))
    (go_keep)
    (first | (go_at_call 59; (with_reducible refine (HQ.out _ (CK.gw (by assumption))).mono ?_); rintro e w9 ⟨rfl, hb1⟩; have hk3 := CK.kept (by assumption) hb1; have c1 := hk3.c1 HM.out; have c2 := hk3.c2 HM.out; obtain ⟨d5, d6, d7, d8, d9, d10, d11, d12, d13, d14, d15⟩ := hk3.cv HM.out; have gs := hk3.pw.signs n n7; rw [← HSB.out] at gs; dsimp only [node] at c1 c2 d5 d6 d7; clear hb1))
  all_goals go_wp2_with fail
  all_goals exact bodyPost_ret (results_tmp rfl _ _ _) rfl ⟨by show Ending.returned (Value.string (BA s ++ BA sb ++ BA vb)) = _; exact congrArg (fun x => Ending.returned (Value.string x)) (cat3 s sb vb), hk3.below⟩
end
end Go.Proofs.YtnaehhpikhlppaaGreatDoor
