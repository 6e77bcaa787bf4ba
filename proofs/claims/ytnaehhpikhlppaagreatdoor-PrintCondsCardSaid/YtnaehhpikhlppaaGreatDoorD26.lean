/- Several texts of the proof, joined. -/
import Derived.Test.YtnaehhpikhlppaaGreatDoorD3
import Derived.Test.YtnaehhpikhlppaaGreatDoorRows
import Derived.LaidMore
import Derived.LaidHandle
import Derived.LaidSub
import Derived.LaidLaws
import Derived.LaidOnce
import Derived.MakeChecks
import Derived.Handed
import Derived.HandedShaped
import Derived.Shelf.Vars
import Derived.Lib.LaidTab
import Derived.ProofKit
import Derived.Stop.Joined
import Derived.Lay
import Derived.Test.YtnaehhpikhlppaaGreatDoorD25
set_option maxHeartbeats 4000000
set_option linter.unusedVariables false
set_option linter.unusedSimpArgs false
namespace Go.Proofs.YtnaehhpikhlppaaGreatDoor
open Go.ChangeShapes Go.WideShapes Go.ChangeAt Go.RowKit

theorem returnsInHanded_of_laid {H : Type} {enc : TypeId × Value → H} {a : Assume} {C : Checked} {os : Os} {f : FuncId} {fn : Func} {s : ChangeSpec} {conds : List PathCond} {apart fresh handsOn again : Bool} {X : World → Array Value → Prop}
    (hX : ∀ (w w' : World) (args : Array Value), w.heap = w'.heap → X w args → X w' args)
    (own : ownKnob C.prog.godebug = none) (started : os.Started) (noInit : C.prog.inits.idxOf? f = none) (hfn : C.prog.funcs[f]? = some fn)
    (witness : ∃ (w : World) (tape : Tape) (i : Input), w.os = os ∧ (w.forCall tape i).Shaped C.prog ∧ i.vars = [] ∧ Input.okWide C.prog (w.forCall tape i) .any w.heap.size f i ∧
      ((s.pre enc C.prog fn conds apart (w.forCall tape i).memory i.args ∧ X (w.forCall tape i).memory i.args) ∧ sizedMet enc C.prog fn (OpenSpec.ofChange s) apart (w.forCall tape i).memory i.args) ∧ a.holds C.prog (lone (Frame.enter C.prog f i.args .normal) [] (w.forCall tape i)))
    (contract : ∀ (W : World) (base : Nat) (args : Array Value) (ds gs : List (DataW H)) (before : List MemPlace),
      (∀ (j : Nat) t v, fn.params[j]? = some t → args[j]? = some v → Value.okWide C.prog W .any base t v) →
      DataW.Whole enc C.prog fn.params.toList s.vars apart W args.toList ds gs before →
      conds.all (PathCond.test C.prog ⟨fn.params.toList, ds, s.plain.varTypes C.prog, gs⟩) = true →
      (DataW.weightsEach C.prog (fn.params.toList ++ s.plain.varTypes C.prog) (ds ++ gs)).all (· ≤ reachBytes) = true → X W args →
      W.ShapedOpen C.prog →
      a.holds C.prog (lone (Frame.enter C.prog f args .normal) [] W) →
      Calls C.prog f args W fun e W' => ∃ v, e = .returned v ∧ s.post enc C.prog fn apart fresh handsOn again W args v W') :
    ReturnsInHanded a C os f .any (fun w args => (s.pre enc C.prog fn conds apart w args ∧ X w args) ∧ sizedMet enc C.prog fn (OpenSpec.ofChange s) apart w args) (s.post enc C.prog fn apart fresh handsOn again) := by
  refine returnsInHanded_of_calls own started noInit witness ?_
  intro w tape i _ hsh _ hok hpre hholds
  obtain ⟨_, _, _, fn', hfn', _, _, _, _, hval⟩ := hok
  have e : fn' = fn := Option.some.inj (hfn'.symm.trans hfn)
  subst e
  obtain ⟨⟨⟨ds, gs, before, hw, hc⟩, hx⟩, hz⟩ := hpre
  have hw' := DataW.Whole.of_heap (w' := w.forCall tape i) (by rfl) hw
  refine (contract (w.forCall tape i) w.heap.size i.args ds gs before hval hw' hc (hz.weights hw) (hX _ _ _ (by rfl) hx) hsh hholds).mono fun e W' ⟨v, he, hp⟩ => ?_
  subst he
  exact ChangeSpec.post_blind hp
theorem iface_cell {P : Program} {w : World} {base : Nat} {sp : Nat → Bool} {held : Bool} {H : Type} {enc : TypeId × Value → H} {fuel : Nat} {t : TypeId} {cs : List Value} {y : DataW H × List MemPlace} {ms}
    (ht : P.underlying t = some (.interface ms)) (h : DataW.trod enc P w base sp held fuel t cs = some y) : cs = [.nilIface] ∨ ∃ u v, cs = [.iface u v] := by
  cases fuel with
  | zero => simp [DataW.trod] at h
  | succ fuel =>
    match cs with
    | [] => simp [DataW.trod, ht] at h
    | [c] =>
      cases c <;> simp [DataW.trod, ht] at h
      · exact .inr ⟨_, _, rfl⟩
      · exact .inl rfl
    | c :: d :: r => cases c <;> simp [DataW.trod, ht] at h
theorem int_bounds {a : Int} (h : (Lit.int .i64 a).wf = true) : -9223372036854775808 ≤ a ∧ a ≤ 9223372036854775807 := by
  simp [Lit.wf, IntKind.min, IntKind.max, IntKind.signed, IntKind.bits] at h
  omega
def laid10 : List (String × DataW Unit) := [("math/bits.deBruijn32tab", Rows.laid_math_bits_deBruijn32tab), ("math/bits.deBruijn64tab", Rows.laid_math_bits_deBruijn64tab), ("internal/strconv.uint64pow10", Rows.laid_internal_strconv_uint64pow10), ("unicode/utf8.acceptRanges", Rows.laid_unicode_utf8_acceptRanges), ("strconv.ErrRange", Rows.laid_strconv_ErrRange), ("strconv.ErrSyntax", Rows.laid_strconv_ErrSyntax), ("catchment/print.steps", Rows.laid_catchment_print_steps), ("catchment/print.aggs", Rows.laid_catchment_print_aggs), ("catchment/print.signs", Rows.laid_catchment_print_signs), ("unicode/utf8.first", Rows.laid_unicode_utf8_first)]
theorem own : ownKnob Tryz.prog.godebug = none := by kernel_rfl
theorem door_met (os : Os) (args : Array Value) : laidMetH Tryz.prog laid10 ((World.laidAll Tryz.prog os laid10).forCall (fun _ _ => 0) ⟨#[], args, []⟩).memory := by
  rw [MakeChecks.laidMetH_plain _ _ _ (by kernel_rfl)]
  exact laidMet_laidAll _ (by kernel_rfl) (by kernel_rfl)
theorem sentinel_cell {W : World} {n : String} {d : DataW Unit} {g : Nat} (hg : Tryz.prog.globalNamed n = some g) (ht : (Tryz.prog.globals[g]?).map (·.type) = some 166) (h : laidMet Tryz.prog [(n, d)] W) :
    ∃ ev : Value, W.cell? ⟨g, 0, none⟩ = some ev ∧ (ev = .nilIface ∨ ∃ te pe, ev = .iface te pe) := by
  obtain ⟨ps, ⟨g0, t0, cs0, f0, p0, q0, hg0, ht0, hv0, hd0, _, _⟩, _, _⟩ := h
  obtain rfl := Option.some.inj (hg.symm.trans hg0)
  obtain rfl := Option.some.inj (ht.symm.trans ht0)
  have hc := World.var?_cell hg hv0 0
  obtain ⟨l⟩ := cs0
  rcases iface_cell Tryz.underlying166 hd0 with h | ⟨u, v, h⟩
  · dsimp only at h; subst h; exact ⟨_, by simpa using hc, .inl rfl⟩
  · dsimp only at h; subst h; exact ⟨_, by simpa using hc, .inr ⟨_, _, rfl⟩⟩
/-- A table of texts, as a row lists it. -/
def strTab {H : Type} (ss : List (List UInt8)) : DataW H := .agg (ss.map fun s => .lit (.string s))
theorem cells_of_strs {H : Type} {enc : TypeId × Value → H} {P : Program} {w : World} {base : Nat} {sp : Nat → Bool} {held : Bool} {fuel : Nat} {t e : TypeId} {n : Nat} {cs : List Value} {ss : List (List UInt8)} {p : List MemPlace}
    (ht : P.underlying t = some (.array n e)) (he : P.underlying e = some .string) (hce : P.cellsOf e = 1) (hct : P.cellsOf t = n)
    (h : DataW.trod enc P w base sp held fuel t cs = some (strTab ss, p)) : cs = ss.map fun s => Value.string ⟨s.toArray⟩ := by
  cases fuel with
  | zero => simp [DataW.trod] at h
  | succ fuel =>
    simp only [DataW.trod, ht, hce, hct, Nat.mul_one] at h
    split at h
    · rename_i hl
      obtain ⟨xs, hm, hx⟩ := Option.map_eq_some_iff.1 h
      have hxs : xs.map (·.1) = ss.map fun s => (DataW.lit (.string s) : DataW H) := by
        have := congrArg Prod.fst hx
        simpa [strTab] using this
      have hxl : xs.length = n := by simpa using Lib.mapM_length hm
      have hzl : ss.length = n := by
        have := congrArg List.length hxs
        simp at this
        omega
      apply List.ext_getElem?
      intro i
      by_cases hi : i < n
      · obtain ⟨b, hb, hf⟩ := Lib.mapM_at hm i i (by simp [hi])
        obtain ⟨z, hc, rfl, _⟩ := DataW.trod_string he hf
        have h1 : cs[i]? = some (.string z) := by
          have := congrArg (·[0]?) hc
          simpa [List.getElem?_take, List.getElem?_drop] using this
        have h2 : (xs.map (·.1))[i]? = some (DataW.lit (.string z.data.toList) : DataW H) := by simp [hb]
        rw [hxs] at h2
        simp only [List.getElem?_map, Option.map_eq_some_iff, DataW.lit.injEq, Lit.string.injEq] at h2
        obtain ⟨z', hz', e⟩ := h2
        rw [h1, List.getElem?_map, hz', e]
        rfl
      · rw [List.getElem?_eq_none (by omega), List.getElem?_eq_none (by simp; omega)]
    · cases h
theorem strs_cell {W : World} {name : String} {ss : List (List UInt8)} {g : Nat} {t e : TypeId} {n : Nat}
    (hg : Tryz.prog.globalNamed name = some g) (hty : (Tryz.prog.globals[g]?).map (·.type) = some t) (ht : Tryz.prog.underlying t = some (.array n e)) (he : Tryz.prog.underlying e = some .string) (hce : Tryz.prog.cellsOf e = 1) (hct : Tryz.prog.cellsOf t = n)
    (h : laidMet Tryz.prog [(name, strTab ss)] W) (i : Nat) (s : List UInt8) (hi : ss[i]? = some s) : W.cell? ⟨g, i, none⟩ = some (.string ⟨s.toArray⟩) := by
  obtain ⟨ps, ⟨g', t', cs, fuel, p, q, hg', ht', hvar, hd, _, _⟩, _⟩ := h
  obtain rfl := Option.some.inj (hg.symm.trans hg')
  obtain rfl := Option.some.inj (hty.symm.trans ht')
  have hc := cells_of_strs ht he hce hct hd
  have := World.var?_cell hg hvar i
  rw [this]
  have e2 : cs = (ss.map fun s => Value.string ⟨s.toArray⟩).toArray := by rw [← hc]
  rw [e2]
  simp [hi]
theorem gw_of {W : World} (h : laidMetH Tryz.prog laid10 W) (hsh : W.ShapedOpen Tryz.prog) : PW W := by
  rw [MakeChecks.laidMetH_plain _ _ _ (by kernel_rfl)] at h
  have h1 := laidMet.filter (fun x => x.1 == "internal/strconv.uint64pow10") h
  have h2 := laidMet.filter (fun x => x.1 == "strconv.ErrRange") h
  have h3 := laidMet.filter (fun x => x.1 == "strconv.ErrSyntax") h
  have h4 := laidMet.filter (fun x => x.1 == "catchment/print.signs") h
  have h5 := laidMet.filter (fun x => x.1 == "catchment/print.steps") h
  have h6 := laidMet.filter (fun x => x.1 == "catchment/print.aggs") h
  have e1 : laid10.filter (fun x => x.1 == "internal/strconv.uint64pow10") = [("internal/strconv.uint64pow10", Rows.laid_internal_strconv_uint64pow10)] := by kernel_rfl
  have e2 : laid10.filter (fun x => x.1 == "strconv.ErrRange") = [("strconv.ErrRange", Rows.laid_strconv_ErrRange)] := by kernel_rfl
  have e3 : laid10.filter (fun x => x.1 == "strconv.ErrSyntax") = [("strconv.ErrSyntax", Rows.laid_strconv_ErrSyntax)] := by kernel_rfl
  have e4 : laid10.filter (fun x => x.1 == "catchment/print.signs") = [("catchment/print.signs", strTab ((List.range 7).map signB))] := by kernel_rfl
  have e5 : laid10.filter (fun x => x.1 == "catchment/print.steps") = [("catchment/print.steps", strTab ((List.range 9).map stepB))] := by kernel_rfl
  have e6 : laid10.filter (fun x => x.1 == "catchment/print.aggs") = [("catchment/print.aggs", strTab ((List.range 7).map aggC))] := by kernel_rfl
  rw [e1] at h1
  rw [e2] at h2
  rw [e3] at h3
  rw [e4] at h4
  rw [e5] at h5
  rw [e6] at h6
  have ht : Lib.TabIs Tryz.prog W "internal/strconv.uint64pow10" .u64 Lib.pow10Tab := Lib.tabIs_of_head (g := 4) (t := 207) (e := 194) (n := 20) (by kernel_rfl) (by kernel_rfl) (by kernel_rfl) (by kernel_rfl) (by kernel_rfl) (by kernel_rfl) h1
  refine ⟨⟨?_, ?_, ?_, ht, ?_⟩, ?_, ?_, ?_⟩
  · exact cell_of_shapedOpen_int hsh (g := 3) (t := 3) (zero := #[.int .i64 0]) (of_decide_eq_true (by kernel_rfl)) (by kernel_rfl) (by kernel_rfl) (by kernel_rfl) (by kernel_rfl) (by kernel_rfl)
  · exact sentinel_cell (by kernel_rfl) (by kernel_rfl) h3
  · exact sentinel_cell (by kernel_rfl) (by kernel_rfl) h2
  · have hc := World.var?_cell (g := 4) (by kernel_rfl) ht 0
    exact World.block_lt_of_cell? W _ (by rw [hc]; rfl)
  · exact fun k hk => strs_cell (g := 0) (t := 117) (e := 9) (n := 7) (by kernel_rfl) (by kernel_rfl) (by kernel_rfl) (by kernel_rfl) (by kernel_rfl) (by kernel_rfl) h4 k _ (by rw [List.getElem?_map, List.getElem?_range hk]; rfl)
  · exact fun k hk => strs_cell (g := 1) (t := 138) (e := 9) (n := 9) (by kernel_rfl) (by kernel_rfl) (by kernel_rfl) (by kernel_rfl) (by kernel_rfl) (by kernel_rfl) h5 k _ (by rw [List.getElem?_map, List.getElem?_range hk]; rfl)
  · exact fun k hk => strs_cell (g := 2) (t := 117) (e := 9) (n := 7) (by kernel_rfl) (by kernel_rfl) (by kernel_rfl) (by kernel_rfl) (by kernel_rfl) (by kernel_rfl) h6 k _ (by rw [List.getElem?_map, List.getElem?_range hk]; rfl)
end Go.Proofs.YtnaehhpikhlppaaGreatDoor

namespace Go.Proofs.YtnaehhpikhlppaaGreatDoor
open Go.RowKit LexS ParS BigFrame

attribute [local go_sem] eqZero
set_option maxRecDepth 100000 in
theorem eq_ints {W : World} {b1 b2 : Nat} {l : List (Nat)} {v1 v2 : Value} (h1 : W.ownsRow b1 3 1 v1 l.length (intsL l)) (h2 : W.ownsRow b2 3 1 v2 l.length (intsL l)) (W0 : World) (hd : Below W.heap.size W W0) :
    Calls Tryz.prog 54 #[v1, v2] W0 fun e W' => e = .returned (.bool true) ∧ Drawn W0 W' := by
  obtain ⟨p1, c1, rfl, _, q2, q3⟩ := row_cells (own_kept h1 hd)
  obtain ⟨p2, c2, rfl, _, r2, r3⟩ := row_cells (own_kept h2 hd)
  have H1 := Lib.hid q3
  have H2 := Lib.hid r3
  simp only [maxLen] at q2
  clear h1 h2 q3 r3 hd r2
  go_enter Tryz.func54, Tryz.ntmps54
  go_wp2_with fail
  go_loopg [13] (l.length + 1) (fun gk c wr => ∃ i : Nat, i ≤ l.length ∧ l.length < i + gk ∧ c = .int .i64 (i : Int) ∧ Drawn W0 wr)
  case atStart => exact ⟨0, Nat.zero_le _, by omega, rfl, 0, rfl⟩
  case round =>
    obtain ⟨i, hi, hgk, rfl, k, rfl⟩ := hrel
    by_cases hlt : i < l.length
    · obtain ⟨g, rfl, hg⟩ := H1.out (by omega)
      obtain ⟨g2, rfl, hg2⟩ := H2.out (by omega)
      obtain ⟨x_, hx_⟩ : ∃ x, l[i]? = some x := ⟨l[i], List.getElem?_eq_getElem hlt⟩
      have u1 := hg _ _ (intsL_get hx_)
      have u2 := hg2 _ _ (intsL_get hx_)
      have n1 : (i : Int) < (l.length : Int) := by omega
      have n2 : (0 : Int) ≤ (i : Int) := by omega
      have n3 : decide ((i : Int) < (l.length : Int)) = true := decide_eq_true n1
      have w1_ : IntKind.i64.wrap ((i : Int) + 1) = (i : Int) + 1 := IntWalk.i64_in _ (by omega)
      clear hg hg2 hx_
      go_wp2_with fail
      go_region
      go_wp2_with fail
      go_roundg (l.length - i)
      case measure => omega
      case rel => exact ⟨i + 1, by omega, by omega, rfl, Drawn.more ⟨k, rfl⟩ 1⟩
    · have n1 : ¬ (i : Int) < (l.length : Int) := by omega
      have n3 : decide ((i : Int) < (l.length : Int)) = false := decide_eq_false n1
      go_wp2_with fail
      exact bodyPost_ret (results_tmp rfl _ _ _) rfl ⟨rfl, k, rfl⟩
set_option maxRecDepth 100000 in
theorem eq_strs {W : World} {b1 b2 : Nat} {l : List (Bytes)} {v1 v2 : Value} (h1 : W.ownsRow b1 9 1 v1 l.length (strsL l)) (h2 : W.ownsRow b2 9 1 v2 l.length (strsL l)) (W0 : World) (hd : Below W.heap.size W W0) :
    Calls Tryz.prog 55 #[v1, v2] W0 fun e W' => e = .returned (.bool true) ∧ Drawn W0 W' := by
  obtain ⟨p1, c1, rfl, _, q2, q3⟩ := row_cells (own_kept h1 hd)
  obtain ⟨p2, c2, rfl, _, r2, r3⟩ := row_cells (own_kept h2 hd)
  have H1 := Lib.hid q3
  have H2 := Lib.hid r3
  simp only [maxLen] at q2
  clear h1 h2 q3 r3 hd r2
  go_enter Tryz.func55, Tryz.ntmps55
  go_wp2_with fail
  go_loopg [13] (l.length + 1) (fun gk c wr => ∃ i : Nat, i ≤ l.length ∧ l.length < i + gk ∧ c = .int .i64 (i : Int) ∧ Drawn W0 wr)
  case atStart => exact ⟨0, Nat.zero_le _, by omega, rfl, 0, rfl⟩
  case round =>
    obtain ⟨i, hi, hgk, rfl, k, rfl⟩ := hrel
    by_cases hlt : i < l.length
    · obtain ⟨g, rfl, hg⟩ := H1.out (by omega)
      obtain ⟨g2, rfl, hg2⟩ := H2.out (by omega)
      obtain ⟨x_, hx_⟩ : ∃ x, l[i]? = some x := ⟨l[i], List.getElem?_eq_getElem hlt⟩
      have u1 := hg _ _ (strsL_get hx_)
      have u2 := hg2 _ _ (strsL_get hx_)
      have n1 : (i : Int) < (l.length : Int) := by omega
      have n2 : (0 : Int) ≤ (i : Int) := by omega
      have n3 : decide ((i : Int) < (l.length : Int)) = true := decide_eq_true n1
      have w1_ : IntKind.i64.wrap ((i : Int) + 1) = (i : Int) + 1 := IntWalk.i64_in _ (by omega)
      clear hg hg2 hx_
      go_wp2_with fail
      go_region
      go_wp2_with fail
      go_roundg (l.length - i)
      case measure => omega
      case rel => exact ⟨i + 1, by omega, by omega, rfl, Drawn.more ⟨k, rfl⟩ 1⟩
    · have n1 : ¬ (i : Int) < (l.length : Int) := by omega
      have n3 : decide ((i : Int) < (l.length : Int)) = false := decide_eq_false n1
      go_wp2_with fail
      exact bodyPost_ret (results_tmp rfl _ _ _) rfl ⟨rfl, k, rfl⟩
set_option maxRecDepth 100000 in
theorem eq_aggs {W : World} {b1 b2 : Nat} {l : List (Nat × Bytes)} {v1 v2 : Value} (h1 : W.ownsRow b1 85 2 v1 l.length (aggsL l)) (h2 : W.ownsRow b2 85 2 v2 l.length (aggsL l)) (W0 : World) (hd : Below W.heap.size W W0) :
    Calls Tryz.prog 56 #[v1, v2] W0 fun e W' => e = .returned (.bool true) ∧ Drawn W0 W' := by
  obtain ⟨p1, c1, rfl, _, q2, q3⟩ := row_cells (own_kept h1 hd)
  obtain ⟨p2, c2, rfl, _, r2, r3⟩ := row_cells (own_kept h2 hd)
  have H1 := Lib.hid q3
  have H2 := Lib.hid r3
  simp only [maxLen] at q2
  clear h1 h2 q3 r3 hd r2
  go_enter Tryz.func56, Tryz.ntmps56
  go_wp2_with fail
  go_loopg [13] (l.length + 1) (fun gk c wr => ∃ i : Nat, i ≤ l.length ∧ l.length < i + gk ∧ c = .int .i64 (i : Int) ∧ Drawn W0 wr)
  case atStart => exact ⟨0, Nat.zero_le _, by omega, rfl, 0, rfl⟩
  case round =>
    obtain ⟨i, hi, hgk, rfl, k, rfl⟩ := hrel
    by_cases hlt : i < l.length
    · obtain ⟨g, rfl, hg⟩ := H1.out (by omega)
      obtain ⟨g2, rfl, hg2⟩ := H2.out (by omega)
      obtain ⟨x_, hx_⟩ : ∃ x, l[i]? = some x := ⟨l[i], List.getElem?_eq_getElem hlt⟩
      have u1 := hg _ _ (aggsL_get _ _ _ hx_).1
      have u2 := hg _ _ (aggsL_get _ _ _ hx_).2
      have u3 := hg2 _ _ (aggsL_get _ _ _ hx_).1
      have u4 := hg2 _ _ (aggsL_get _ _ _ hx_).2
      have n1 : (i : Int) < (l.length : Int) := by omega
      have n2 : (0 : Int) ≤ (i : Int) := by omega
      have n3 : decide ((i : Int) < (l.length : Int)) = true := decide_eq_true n1
      have w1_ : IntKind.i64.wrap ((i : Int) + 1) = (i : Int) + 1 := IntWalk.i64_in _ (by omega)
      clear hg hg2 hx_
      go_wp2_with fail
      go_region
      go_wp2_with fail
      go_roundg (l.length - i)
      case measure => omega
      case rel => exact ⟨i + 1, by omega, by omega, rfl, Drawn.more ⟨k, rfl⟩ 1⟩
    · have n1 : ¬ (i : Int) < (l.length : Int) := by omega
      have n3 : decide ((i : Int) < (l.length : Int)) = false := decide_eq_false n1
      go_wp2_with fail
      exact bodyPost_ret (results_tmp rfl _ _ _) rfl ⟨rfl, k, rfl⟩
/-- A number that is ahead. -/
theorem clos_below {W : World} {b i k : Nat} (hk : k < i) (hc : W.cell? ⟨b, 0, none⟩ = some (.int .i64 (i : Int))) :
    Calls Tryz.prog 83 #[.int .i64 (k : Int), .pointer (some ⟨b, 0, none⟩)] W fun e W' => e = .returned (.bool false) ∧ W' = W := by
  have n1 : ¬ (k : Int) < 0 := by omega
  have n2 : decide ((k : Int) < 0) = false := decide_eq_false n1
  have n3 : ¬ (i : Int) ≤ (k : Int) := by omega
  have n4 : decide ((i : Int) ≤ (k : Int)) = false := decide_eq_false n3
  have n5 : (k : Int) < (i : Int) := by omega
  go_enter Tryz.func83, Tryz.ntmps83
  go_wp2_with fail
  exact bodyPost_ret (results_tmp rfl _ _ _) rfl ⟨rfl, rfl⟩
set_option maxRecDepth 100000 in
theorem index_below {W : World} {b1 b i : Nat} {l : List Nat} {v : Value} (h1 : W.ownsRow b1 3 1 v l.length (intsL l)) (hl : ∀ k ∈ l, k < i) (W0 : World) (hd : Below W.heap.size W W0) (hc : W0.cell? ⟨b, 0, none⟩ = some (.int .i64 (i : Int))) :
    Calls Tryz.prog 82 #[v, .func (.func 83) #[] #[.pointer (some ⟨b, 0, none⟩)]] W0 fun e W' => e = .returned (.int .i64 (-1)) ∧ W' = W0 := by
  obtain ⟨p1, c1, rfl, _, q2, q3⟩ := row_cells (own_kept h1 hd)
  have H1 := Lib.hid q3
  have HK := Lib.hid (fun k (hk : k < i) => clos_below hk hc)
  simp only [maxLen] at q2
  clear h1 q3 hd
  go_enter Tryz.func82, Tryz.ntmps82
  go_wp2_with fail
  go_loopg [8] (l.length + 1) (fun gk c wr => ∃ j : Nat, j ≤ l.length ∧ l.length < j + gk ∧ c = .int .i64 (j : Int) ∧ wr = W0)
  case atStart => exact ⟨0, Nat.zero_le _, by omega, rfl, rfl⟩
  case round =>
    obtain ⟨j, hj, hgk, rfl, rfl⟩ := hrel
    by_cases hlt : j < l.length
    · obtain ⟨g, rfl, hg⟩ := H1.out (by omega)
      obtain ⟨x_, hx_⟩ : ∃ x, l[j]? = some x := ⟨l[j], List.getElem?_eq_getElem hlt⟩
      have u1 := hg _ _ (intsL_get hx_)
      have hk1 := HK.out x_ (hl x_ (List.mem_of_getElem? hx_))
      have n1 : (j : Int) < (l.length : Int) := by omega
      have n2 : (0 : Int) ≤ (j : Int) := by omega
      have n3 : decide ((j : Int) < (l.length : Int)) = true := decide_eq_true n1
      have w1_ : IntKind.i64.wrap ((j : Int) + 1) = (j : Int) + 1 := IntWalk.i64_in _ (by omega)
      clear hg hx_
      go_wp2_with fail
      refine hk1.mono ?_
      rintro e w1 ⟨rfl, rfl⟩
      go_wp2_with fail
      go_roundg (l.length - j)
      case measure => omega
      case rel => exact ⟨j + 1, by omega, by omega, rfl, rfl⟩
    · have n1 : ¬ (j : Int) < (l.length : Int) := by omega
      have n3 : decide ((j : Int) < (l.length : Int)) = false := decide_eq_false n1
      go_wp2_with fail
      exact bodyPost_ret (results_tmp rfl _ _ _) rfl ⟨rfl, rfl⟩
theorem clos_plain {s : Bytes} (h : LexT (wd s)) (W : World) (hg : GW W) :
    Calls Tryz.prog 87 #[.string (BA s)] W fun e W' => e = .returned (.bool false) ∧ Below W.heap.size W W' := by
  have hp := plain_word h W hg
  clear hg
  go_enter Tryz.func87, Tryz.ntmps87
  go_wp2_with fail
  refine hp.mono ?_
  rintro e w1 ⟨rfl, hb⟩
  go_wp2_with fail
  exact bodyPost_ret (results_tmp rfl _ _ _) rfl ⟨rfl, hb⟩
set_option maxRecDepth 100000 in
theorem index_words {W : World} {b1 : Nat} {l : List Bytes} {v : Value} (h1 : W.ownsRow b1 9 1 v l.length (strsL l)) (hl : ∀ s ∈ l, LexT (wd s)) (W0 : World) (hd : Below W.heap.size W W0) (hg0 : GW W0) :
    Calls Tryz.prog 125 #[v, .func (.func 87) #[] #[]] W0 fun e W' => e = .returned (.int .i64 (-1)) ∧ Below W0.heap.size W0 W' := by
  obtain ⟨p1, c1, rfl, _, q2, q3⟩ := row_cells (own_kept h1 hd)
  have H1 := Lib.hid q3
  have HG := Lib.hid hg0
  simp only [maxLen] at q2
  clear h1 q3 hd hg0
  go_enter Tryz.func125, Tryz.ntmps125
  go_wp2_with fail
  go_loopg [8] (l.length + 1) (fun gk c wr => ∃ j : Nat, j ≤ l.length ∧ l.length < j + gk ∧ c = .int .i64 (j : Int) ∧ Below W0.heap.size W0 wr)
  case atStart => exact ⟨0, Nat.zero_le _, by omega, rfl, Below.refl _ _⟩
  case round =>
    obtain ⟨j, hj, hgk, rfl, hb⟩ := hrel
    have HB := Lib.hid hb
    by_cases hlt : j < l.length
    · obtain ⟨g, rfl, hg⟩ := H1.out (by omega)
      obtain ⟨x_, hx_⟩ : ∃ x, l[j]? = some x := ⟨l[j], List.getElem?_eq_getElem hlt⟩
      have u1 := keepc hb (hg _ _ (strsL_get hx_))
      have hk1 := clos_plain (hl x_ (List.mem_of_getElem? hx_)) wr (HG.out.kept hb)
      have HK := Lib.hid hk1
      have n1 : (j : Int) < (l.length : Int) := by omega
      have n2 : (0 : Int) ≤ (j : Int) := by omega
      have n3 : decide ((j : Int) < (l.length : Int)) = true := decide_eq_true n1
      have w1_ : IntKind.i64.wrap ((j : Int) + 1) = (j : Int) + 1 := IntWalk.i64_in _ (by omega)
      clear hg hx_ hk1 hb
      go_wp2_with fail
      refine HK.out.mono ?_
      rintro e w1 ⟨rfl, hb1⟩
      have HB1 := Lib.hid (chain HB.out hb1)
      clear hb1 u1
      go_wp2_with fail
      go_roundg (l.length - j)
      case measure => omega
      case rel => exact ⟨j + 1, by omega, by omega, rfl, HB1.out⟩
    · have n1 : ¬ (j : Int) < (l.length : Int) := by omega
      have n3 : decide ((j : Int) < (l.length : Int)) = false := decide_eq_false n1
      clear hb
      go_wp2_with fail
      exact bodyPost_ret (results_tmp rfl _ _ _) rfl ⟨rfl, HB.out⟩
/-- All of them are words. -/
theorem contains_words {W : World} {b1 : Nat} {l : List Bytes} {v : Value} (h1 : W.ownsRow b1 9 1 v l.length (strsL l)) (hl : ∀ s ∈ l, LexT (wd s)) (W0 : World) (hd : Below W.heap.size W W0) (hg0 : GW W0) :
    Calls Tryz.prog 86 #[v, .func (.func 87) #[] #[]] W0 fun e W' => e = .returned (.bool false) ∧ Below W0.heap.size W0 W' := by
  have hi := index_words h1 hl W0 hd hg0
  clear h1 hl hd hg0
  go_enter Tryz.func86, Tryz.ntmps86
  go_wp2_with fail
  refine hi.mono ?_
  rintro e w1 ⟨rfl, hb⟩
  go_wp2_with fail
  exact bodyPost_ret (results_tmp rfl _ _ _) rfl ⟨rfl, hb⟩
set_option maxRecDepth 100000 in
theorem clone_strs {W : World} {b1 : Nat} {l : List Bytes} {v : Value} (h1 : W.ownsRow b1 9 1 v l.length (strsL l)) (hl : l.length ≤ 100000) (W0 : World) (hd : Below W.heap.size W W0) :
    Calls Tryz.prog 84 #[v] W0 fun e W' => ∃ u, e = .returned u ∧ W'.ownsRow W0.heap.size 9 1 u l.length (strsL l) ∧ Below W0.heap.size W0 W' := by
  have hk := own_kept h1 hd
  have hcs := fun g hg => hk.cells (g := g) hg
  obtain ⟨p1, c1, rfl, _, q2, q3⟩ := row_cells hk
  have hn : p1 = none → l = [] ∧ c1 = 0 := by
    rintro rfl
    rcases hk.2 with ⟨e1, e2⟩ | ⟨g, cap, cur, e1, _⟩
    · injection e1 with _ _ e3
      exact ⟨List.eq_nil_of_length_eq_zero e2, e3⟩
    · cases e1
  have ho : ∀ g, p1 = some g → ∃ b, g = ⟨b, 0, none⟩ := by
    rintro g rfl
    rcases hk.2 with ⟨e1, e2⟩ | ⟨g', cap, cur, e1, _⟩
    · cases e1
    · injection e1 with e1
      injection e1 with e1
      exact ⟨_, e1⟩
  cases p1 with
  | none =>
    obtain ⟨rfl, rfl⟩ := hn rfl
    exact (Tryz.slices_Clone_string_nil _ _ W0).mono fun e w' ⟨he, hw⟩ => ⟨_, he, World.ownsRow_nil _ _ _ _, hw ▸ Below.refl _ _⟩
  | some a =>
    obtain ⟨b, rfl⟩ := ho a rfl
    have hC := hcs b rfl
    have hm : (((l.map BA).take l.length).map Value.string) = strsL l := by
      rw [List.take_of_length_le (by rw [List.length_map]; exact Nat.le_refl _), List.map_map]
      rfl
    have hcl := Tryz.slices_Clone_string b 0 l.length c1 (l.map BA) W0 (by rw [List.length_map]; exact Nat.le_refl _) (by omega) (fun j hj => by
      rw [List.length_map] at hj
      have := hC j _ (strsL_get (List.getElem?_eq_getElem hj))
      rw [Addr.add_lit] at this
      rw [this, List.getD_eq_getElem?_getD, List.getElem?_map, List.getElem?_eq_getElem hj]
      rfl)
    rw [hm] at hcl
    exact hcl.mono fun e w' ⟨v', he, h1, _, h3⟩ => ⟨v', he, h1, h3⟩
end Go.Proofs.YtnaehhpikhlppaaGreatDoor
