/- The walk of the reference's renamed. What the reference's Split has in memory. The parts and the rest that the reference's Split lays, in memory. -/
import Derived.Test.YtjpogmomgmjmbaaN22
import Derived.Test.YtjpogmomgmjmbaaN25
import Derived.Test.YtjpogmomgmjmbaaN23
/-! The walk of the reference's renamed. -/
namespace Go.Proofs.Ytjpogmomgmjmbaa
open Go.RowKit LexS ParS BigFrame
set_option maxHeartbeats 4000000
set_option linter.unusedVariables false
set_option linter.unusedSimpArgs false
attribute [local go_sem] World.cell?_alloc_some cell_drewN_new free_drewN_new cell_drew_new free_drew_new

/-- A node with the row of numbers renamed. -/
def renN (nd : Nd) (now : List Nat) : Nd := { nd with l := nd.l.map fun a => (now[a]?).getD 0 }
/-- What is answered is a node whose row of numbers is the call's own. -/
def RenR (W : World) (nd : Nd) (e : Ending) (W' : World) : Prop := ∃ m : NodeM, e = .returned (.agg m.cells.toArray) ∧ m.node = nd ∧ MOk W' 0 m ∧ W'.ownsRow W.heap.size 3 1 m.lv m.node.l.length (intsL m.node.l) ∧ Below W.heap.size W W'
def renT (now l : List Nat) (k : Nat) : List Nat := (l.take k).map fun a => (now[a]?).getD 0
theorem renT_next {now l : List Nat} {k a : Nat} (h : l[k]? = some a) : renT now l (k + 1) = renT now l k ++ [(now[a]?).getD 0] := by
  unfold renT
  rw [List.take_add_one, h]
  simp
theorem renT_len {now l : List Nat} {k : Nat} (h : k ≤ l.length) : (renT now l k).length = k := by simp [renT]; omega
theorem renT_all (nd : Nd) (now : List Nat) : (renN nd now).l = renT now nd.l nd.l.length := by
  unfold renT
  rw [List.take_length]
  rfl
theorem row_puts {b b2 size n : Nat} {t e : TypeId} {v : Value} {xs : List Value} (hne : e ≠ t) : ∀ (vs : List Value) {W : World} {l : List Value} (o : Nat), Blk W b t l.toArray → W.ownsRow b2 e size v n xs → (W.setCells b o vs).ownsRow b2 e size v n xs
  | [], W, l, o, h, ho => ho
  | u :: r, W, l, o, h, ho => row_puts hne r (o + 1) (box_put h o u) (row_far ho h hne o u)
structure RN (W wr : World) (m : NodeM) (lv' : Value) (l' : List Nat) : Prop where
  low : Below W.heap.size W wr
  xb : Blk wr W.heap.size 43 m.cells.toArray
  rb : Blk wr (W.heap.size + 1) 43 zeroNd
  row : wr.ownsRow (W.heap.size + 2) 3 1 lv' l'.length (intsL l')
theorem RN.kept {W wr w' : World} {m : NodeM} {lv' : Value} {l' : List Nat} (h : RN W wr m lv' l') (hb : Below wr.heap.size wr w') : RN W w' m lv' l' := ⟨chain h.low hb, h.xb.kept hb, h.rb.kept hb, own_kept h.row hb⟩
theorem RN.grow {W wr w' : World} {m : NodeM} {lv' v : Value} {l' l2 : List Nat} (h : RN W wr m lv' l') (hg : wr.grownBy w' lv'.ownBlock) (ho : w'.ownsRow (W.heap.size + 2) 3 1 v l2.length (intsL l2)) : RN W w' m v l2 := by
  have hk : ∀ k, lv'.ownBlock = some k → W.heap.size + 2 ≤ k := fun k hk => (h.row.lt k hk).1
  refine ⟨h.low.grown hg h.low.size (fun k e => Nat.le_trans (Nat.le_add_right _ 2) (hk k e)), ?_, ?_, ho⟩
  · exact (hg.block _ h.xb.lt (fun e => by have := hk _ e.symm; omega)).trans h.xb
  · exact (hg.block _ h.rb.lt (fun e => by have := hk _ e.symm; omega)).trans h.rb
set_option maxRecDepth 100000 in
theorem renamed_any {W : World} {m : NodeM} {b nb n : Nat} {now : List Nat} (hm : MOk W b m) (hb : Blk W nb 3 (intsL now).toArray) (hn : now.length = n) (hn2 : n ≤ 128) (hl : m.node.l.length ≤ 2) (hx : ∀ x ∈ m.node.l, x < n) :
    Calls Try.prog 24 #[.agg m.cells.toArray, .slice (some ⟨nb, 0, none⟩) n n] W (RenR W (renN m.node now)) := by
  obtain ⟨W1, hW1⟩ : ∃ W1, W1 = (W.alloc (.cells m.cells.toArray 43)).alloc (.cells zeroNd 43) := ⟨_, rfl⟩
  have hwz : (W.alloc (.cells m.cells.toArray 43)).heap.size = W.heap.size + 1 := by
    show (W.heap.push _).size = _
    rw [Array.size_push]
  have HR0 := Lib.hid (show RN W ((W.alloc (.cells m.cells.toArray 43)).alloc (.cells zeroNd 43)) m (.slice none 0 0) (renT now m.node.l 0) from
    ⟨((Below.refl _ _).alloc (Nat.le_refl _) _).alloc (by rw [hwz]; exact Nat.le_succ _) _, (Blk.new W _ _).alloc _, by rw [← hwz]; exact Blk.new _ _ _, nil_row⟩)
  obtain ⟨pl, cl, hl1, hl2, _, hl4⟩ := ints_row hm.l
  have HM := Lib.hid hm
  have HL1 := Lib.hid hl1
  have HL4 := Lib.hid (show ∀ (j a : Nat), m.node.l[j]? = some a → ∃ gl, pl = some ⟨gl, 0, none⟩ ∧ W.cell? ⟨gl, j, none⟩ = some (.int .i64 (a : Int)) from fun j a hj => by
    obtain ⟨gl, hgl, hcl⟩ := hl4 (by rintro e; rw [e] at hj; simp at hj)
    exact ⟨gl, hgl, hcl j a hj⟩)
  have HB := Lib.hid hb
  have HX := Lib.hid hx
  have HN := Lib.hid hn
  clear hm hb hl1 hl4 hx hn hwz hW1 W1
  go_enter Try.func24, Try.ntmps24
  go_wp2_with fail
  go_loopg [5, 6] (m.node.l.length + 1) (fun gk lv c wr => ∃ k : Nat, k ≤ m.node.l.length ∧ m.node.l.length < k + gk ∧ c = .int .i64 (k : Int) ∧ RN W wr m lv (renT now m.node.l k))
  case atStart => exact ⟨0, Nat.zero_le _, by omega, rfl, HR0.out⟩
  case round =>
    obtain ⟨k, hk, hgk, rfl, hrn⟩ := hrel
    obtain ⟨o5, cp5, rfl⟩ := row_slice hrn.row
    have HLN := Lib.hid (renT_len (now := now) hk)
    rw [HLN.out] at hrn ⊢
    have k16 : wr.cell? ⟨W.heap.size, 16, none⟩ = some (.slice pl m.node.l.length cl) := by
      have := hrn.xb.cell 16
      rw [← HL1.out]
      exact this
    have HR := Lib.hid hrn
    clear hrn
    by_cases hlt : k < m.node.l.length
    · obtain ⟨a, ha⟩ : ∃ a, m.node.l[k]? = some a := ⟨m.node.l[k], List.getElem?_eq_getElem hlt⟩
      obtain ⟨gl, rfl, hca0⟩ := HL4.out k a ha
      have hca := keepc HR.out.low hca0
      have han : a < n := HX.out a (List.mem_of_getElem? ha)
      obtain ⟨y, hy⟩ : ∃ y, now[a]? = some y := ⟨now[a]'(by rw [HN.out]; exact han), List.getElem?_eq_getElem _⟩
      have hcy : wr.cell? ⟨nb, a, none⟩ = some (.int .i64 (y : Int)) := by
        rw [(HB.out.kept HR.out.low).cell a]
        have : (intsL now)[a]? = some (.int .i64 (y : Int)) := by simp [intsL, hy]
        simpa using this
      have n1 : (k : Int) < (m.node.l.length : Int) := by omega
      have n2 : (0 : Int) ≤ (k : Int) := by omega
      have n3 : decide ((k : Int) < (m.node.l.length : Int)) = true := decide_eq_true n1
      have n4 : (0 : Int) ≤ (a : Int) := by omega
      have n5 : (a : Int) < (n : Int) := by omega
      have w1_ : IntKind.i64.wrap ((k : Int) + 1) = (k : Int) + 1 := IntWalk.i64_in _ (by omega)
      have HND := Lib.hid (show (renT now m.node.l (k + 1)) = (renT now m.node.l k) ++ [y] by rw [renT_next ha, hy]; rfl)
      obtain ⟨i0, hi0, hz0, hz1, hz2⟩ := info_parts infoInt
      have HB2 := Lib.hid (show Below wr.heap.size wr (wr.alloc (.cells #[.int .i64 (y : Int)] 3)) from (Below.refl _ _).alloc (Nat.le_refl _) _)
      have HR2 := Lib.hid (HR.out.kept HB2.out)
      have HRW := HR2.out.row
      rw [HLN.out] at HRW
      have HRW := Lib.hid HRW
      have HNW := Lib.hid (show ∀ (j : Nat) u, [Value.int .i64 (y : Int)][j]? = some u → (wr.alloc (.cells #[.int .i64 (y : Int)] 3)).cell? ((⟨wr.heap.size, 0, none⟩ : Addr).add j) = some u from fun j u hu => blk_cells (Blk.new wr 3 #[.int .i64 (y : Int)]) j u (by simpa using hu))
      have HSZ := Lib.hid (Nat.le_trans (show W.heap.size + 2 ≤ wr.heap.size from HR.out.rb.lt) HB2.out.size)
      clear hy ha hca0
      go_wp2_with (at_builtin; refine wpList_append_own _ rfl _ _ _ rfl (W.heap.size + 2) 3 i0 _ 1 8 (by kernel_rfl) hi0 hz0 hz1 hz2 rfl (by decide) _ k (intsL (renT now m.node.l k)) rfl HRW.out ⟨wr.heap.size, 0, none⟩ 1 1 [.int .i64 (y : Int)] rfl rfl HNW.out (by simp [Value.oneCell']) (by simp only [maxLen]; omega) (by omega) HSZ.out ?_)
      intro v' w' ho hgr _
      have HF := Lib.hid (show RN W w' m v' (renT now m.node.l (k + 1)) from HR2.out.grow hgr (by
        rw [HND.out, List.length_append, HLN.out, intsL, List.map_append]
        exact ho))
      clear ho hgr
      go_wp2_with fail
      go_roundg (m.node.l.length - k)
      case measure => omega
      case rel => exact ⟨k + 1, by omega, by omega, rfl, HF.out⟩
    · have hin : k = m.node.l.length := by omega
      subst hin
      have n1 : ¬ (m.node.l.length : Int) < (m.node.l.length : Int) := by omega
      have n3 : decide ((m.node.l.length : Int) < (m.node.l.length : Int)) = false := decide_eq_false n1
      have f16 := HR.out.xb.free 16
      go_upto_region 7 with fail
      generalize hw4 : World.setCell _ _ _ = w4
      obtain ⟨nd, lv0, nv, av⟩ := m
      have HQ := Lib.hid (show Blk w4 W.heap.size 43 (NodeM.cells ⟨renN nd now, .slice o5 nd.l.length cp5, nv, av⟩).toArray ∧ Blk w4 (W.heap.size + 1) 43 zeroNd ∧ MOk w4 0 ⟨renN nd now, .slice o5 nd.l.length cp5, nv, av⟩ ∧ w4.ownsRow (W.heap.size + 2) 3 1 (.slice o5 nd.l.length cp5) (renN nd now).l.length (intsL (renN nd now).l) ∧ Below W.heap.size W w4 from by
        rw [← hw4]
        have hk := HM.out.kept HR.out.low
        have hl := renT_all nd now
        have hrow : wr.ownsRow (W.heap.size + 2) 3 1 (.slice o5 nd.l.length cp5) (renN nd now).l.length (intsL (renN nd now).l) := by
          rw [hl]
          exact HR.out.row
        refine ⟨HR.out.xb.put 16 _, HR.out.rb.far (p := ⟨W.heap.size, 16, none⟩) (by dsimp only; omega) _, ⟨own_zero (row_far hrow HR.out.xb (by decide) 16 _), own_zero (row_far hk.names HR.out.xb (by decide) 16 _), own_zero (row_far hk.aggs HR.out.xb (by decide) 16 _)⟩, row_far hrow HR.out.xb (by decide) 16 _, HR.out.low.setCell (p := ⟨W.heap.size, 16, none⟩) (Nat.le_refl _) _⟩)
      clear hw4 k16 f16
      have hone := HQ.out.2.2.1.ones
      have hth : w4.there (W.heap.size + 1) 0 19 := box_there (l := zeroNd.toList) HQ.out.2.1 (by decide)
      go_wp2_with (first
        | (refine wpList_load_mid (by rfl) 43 (.tmp 2) (by rfl) W.heap.size 0 (by rfl) (NodeM.cells ⟨renN nd now, .slice o5 nd.l.length cp5, nv, av⟩) _ (box_range HQ.out.1) undNode (by rfl) sizeNode ?_)
        | (refine wpList_store_mid (by rfl) 43 (.tmp 4) (.tmp 27) (by rfl) (W.heap.size + 1) 0 (NodeM.cells ⟨renN nd now, .slice o5 nd.l.length cp5, nv, av⟩).toArray (by rfl) (by rfl) hth sizeNode hone ?_
           generalize hw5 : World.setCells _ _ _ _ = w5
           have F5 := Lib.hid (show Blk w5 (W.heap.size + 1) 43 (NodeM.cells ⟨renN nd now, .slice o5 nd.l.length cp5, nv, av⟩).toArray ∧ MOk w5 0 ⟨renN nd now, .slice o5 nd.l.length cp5, nv, av⟩ ∧ w5.ownsRow W.heap.size 3 1 (.slice o5 nd.l.length cp5) (renN nd now).l.length (intsL (renN nd now).l) ∧ Below W.heap.size W w5 from by
             rw [← hw5]
             have hz : Blk w4 (W.heap.size + 1) 43 zeroNd.toList.toArray := HQ.out.2.1
             exact ⟨box_puts _ (l := zeroNd.toList) 0 HQ.out.2.1, ⟨row_puts (by decide) _ 0 hz HQ.out.2.2.1.l, row_puts (by decide) _ 0 hz HQ.out.2.2.1.names, row_puts (by decide) _ 0 hz HQ.out.2.2.1.aggs⟩, own_base (row_puts (by decide) _ 0 hz HQ.out.2.2.2.1) (Nat.le_add_right _ _), below_puts (Nat.le_succ _) _ _ HQ.out.2.2.2.2⟩)
           clear hw5 hth hone))
      exact bodyPost_ret (results_cell_row rfl _ _ (W.heap.size + 1) 43 (NodeM.cells ⟨renN nd now, .slice o5 nd.l.length cp5, nv, av⟩).toArray (0, 0) _ (by rfl) F5.out.1 undNode (by rfl) sizeNode) rfl ⟨⟨renN nd now, .slice o5 nd.l.length cp5, nv, av⟩, rfl, rfl, F5.out.2.1, F5.out.2.2.1, F5.out.2.2.2⟩
end Go.Proofs.Ytjpogmomgmjmbaa

/-! What the reference's Split has in memory. -/
namespace Go.Proofs.Ytjpogmomgmjmbaa
open Go.RowKit LexS ParS BigFrame
set_option maxHeartbeats 4000000
set_option linter.unusedVariables false
set_option linter.unusedSimpArgs false

def up1 (l : List Int) : List Int := l.map (· + 1)
theorem up1_len (l : List Int) : (up1 l).length = l.length := by simp [up1]
theorem up1_get {l : List Int} {i : Nat} {x : Int} (h : l[i]? = some x) : (up1 l)[i]? = some (x + 1) := by simp [up1, h]
theorem up1_set {l : List Int} {i : Nat} {x : Int} : (up1 l).set i (x + 1) = up1 (l.set i x) := by simp [up1, List.map_set]
/-- The parts' last nodes, behind a -1. -/
def lastL (l : List Nat) : List Int := -1 :: l.map fun (x : Nat) => (x : Int)
theorem lastL_app (l : List Nat) (x : Nat) : lastL (l ++ [x]) = lastL l ++ [(x : Int)] := by simp [lastL]
theorem lastL_len (l : List Nat) : (lastL l).length = l.length + 1 := by simp [lastL]
theorem lastL_get {l : List Nat} {k x : Nat} (h : l[k]? = some x) : (lastL l)[k + 1]? = some (x : Int) := by simp [lastL, h]
/-- What the reference's Split has. -/
structure RW (W0 wr : World) (g cap : Nat) (ns : List Nd) (bb ib : Nat) (part : List Int) (lasts : List Nat) (lv : Value) : Prop where
  low : Below W0.heap.size W0 wr
  old : NR W0 (.slice (some ⟨g, 0, none⟩) ns.length cap) ns
  hc : ns.length ≤ cap
  qb : Blk wr W0.heap.size 25 #[.slice (some ⟨g, 0, none⟩) ns.length cap]
  res : Blk wr (W0.heap.size + 1) 31 #[.slice none 0 0, .slice none 0 0]
  kb : Blk wr bb 3 (intsZ (byS ns)).toArray
  ki : Blk wr ib 3 (intsZ (up1 part)).toArray
  row : wr.ownsRow (ib + 1) 3 1 lv (lasts.length + 1) (intsZ (lastL lasts))
  ltb : W0.heap.size + 1 < bb
  lti : bb < ib
  pl : part.length = ns.length
  small : ns.length ≤ 128
section
variable {W0 wr w' : World} {g cap bb ib B : Nat} {ns : List Nd} {part : List Int} {lasts l2 : List Nat} {lv v : Value}
theorem RW.kept (h : RW W0 wr g cap ns bb ib part lasts lv) (hb : Below wr.heap.size wr w') : RW W0 w' g cap ns bb ib part lasts lv :=
  ⟨chain h.low hb, h.old, h.hc, h.qb.kept hb, h.res.kept hb, h.kb.kept hb, h.ki.kept hb, own_kept h.row hb, h.ltb, h.lti, h.pl, h.small⟩
theorem RW.keptB (h : RW W0 wr g cap ns bb ib part lasts lv) (hb : Below (ib + 1) wr w') (hr : w'.ownsRow (ib + 1) 3 1 v (l2.length + 1) (intsZ (lastL l2))) : RW W0 w' g cap ns bb ib part l2 v := by
  have h1 := h.ltb
  have h2 := h.lti
  exact ⟨h.low.trans (hb.mono (by omega)), h.old, h.hc, h.qb.low hb (by omega), h.res.low hb (by omega), h.kb.low hb (by omega), h.ki.low hb (by omega), hr, h.ltb, h.lti, h.pl, h.small⟩
theorem RW.put_in (h : RW W0 wr g cap ns bb ib part lasts lv) (i : Nat) (x : Int) : RW W0 (wr.setCell ⟨ib, i, none⟩ (.int .i64 (x + 1))) g cap ns bb ib (part.set i x) lasts lv := by
  have h1 := h.ltb
  have h2 := h.lti
  refine ⟨h.low.setCell (p := ⟨ib, i, none⟩) (by dsimp only; omega) _, h.old, h.hc, h.qb.far (p := ⟨ib, i, none⟩) (by dsimp only; omega) _, h.res.far (p := ⟨ib, i, none⟩) (by dsimp only; omega) _, h.kb.far (p := ⟨ib, i, none⟩) (by dsimp only; omega) _, ?_, ownsRow_setCell_below h.row (a := ⟨ib, i, none⟩) (by dsimp only; omega) _, h.ltb, h.lti, by rw [List.length_set]; exact h.pl, h.small⟩
  rw [← up1_set, ← intsZ_set]
  exact h.ki.put i _
theorem RW.grow (h : RW W0 wr g cap ns bb ib part lasts lv) (hg : wr.grownBy w' lv.ownBlock) (ho : w'.ownsRow (ib + 1) 3 1 v (l2.length + 1) (intsZ (lastL l2))) : RW W0 w' g cap ns bb ib part l2 v :=
  h.keptB ((Below.refl (ib + 1) wr).grown hg h.ki.lt fun k hk => (h.row.lt k hk).1) ho
theorem RW.nr (h : RW W0 wr g cap ns bb ib part lasts lv) : NR wr (.slice (some ⟨g, 0, none⟩) ns.length cap) ns := NR.stay h.low h.old
theorem RW.en (h : RW W0 wr g cap ns bb ib part lasts lv) (hq : QNs ns) : EN wr g cap bb ns := ⟨h.nr, h.hc, h.kb, hq, h.small⟩
theorem RW.lu (h : RW W0 wr g cap ns bb ib part lasts lv) : ib + 1 ≤ wr.heap.size := h.ki.lt
theorem RW.last_cell (h : RW W0 wr g cap ns bb ib part lasts lv) : ∃ lg c, lv = .slice (some ⟨lg, 0, none⟩) (lasts.length + 1) c ∧ ∀ (k : Nat) (x : Int), (lastL lasts)[k]? = some x → wr.cell? ⟨lg, k, none⟩ = some (.int .i64 x) := by
  rcases h.row.2 with ⟨_, h2⟩ | ⟨lg, c, cur, h1, _, h3, _, _, _, h7⟩
  · omega
  · refine ⟨lg, c, h1, fun k x hx => ?_⟩
    have hk := some_lt hx
    rw [lastL_len] at hk
    rw [cell_of_row wr lg k cur _ (0, 0) h3]
    have := congrArg (fun z => z[k]?) h7
    rw [List.getElem?_take_of_lt (by omega)] at this
    have e : (intsZ (lastL lasts))[k]? = some (.int .i64 x) := by simp [intsZ, hx]
    rw [e] at this
    simpa using this
end
/-- Where a part's walk stands. -/
theorem last_ge {ns : List Nd} (ht : Tree 0 ns) {push : Bool} {f a : Nat} {e : Bool} (ha : a < ns.length) : a ≤ lastP ns push f a e := by
  obtain ⟨l, hl⟩ := chain_head ns push f a e
  have hm : lastP ns push f a e ∈ chainP ns push f a e := by
    unfold lastP
    rw [hl]
    rcases hx : (a :: l).getLast? with _ | y
    · rw [List.getLast?_eq_none_iff] at hx; cases hx
    · rw [Option.getD_some]
      exact List.mem_of_getLast? hx
  exact ((chain_facts (push := push) ht f a e ha).2.1 _ hm).1
/-- The row's renaming does not look at the new place. -/
theorem renN_set {ns : List Nd} (ht : Tree 0 ns) {i x : Nat} {nd : Nd} (h : ns[i]? = some nd) (now : List Nat) : renN nd (now.set i x) = { nd with l := nd.l.map fun a => (now[a]?).getD 0 } := by
  unfold renN
  have e : (nd.l.map fun a => ((now.set i x)[a]?).getD 0) = nd.l.map fun a => (now[a]?).getD 0 := by
    refine List.map_congr_left fun a ha => ?_
    have := ht.ahead i nd h a ha
    rw [List.getElem?_set_ne (by omega)]
  rw [e]
end Go.Proofs.Ytjpogmomgmjmbaa

/-! The parts and the rest that the reference's Split lays, in memory. -/
namespace Go.Proofs.Ytjpogmomgmjmbaa
open Go.RowKit LexS ParS BigFrame
set_option maxHeartbeats 4000000
set_option linter.unusedVariables false
set_option linter.unusedSimpArgs false

/-- What the reference's Split has, once it lays parts. -/
structure RV (W0 wr : World) (g cap : Nat) (ns : List Nd) (push : Bool) (bb ib : Nat) (lv : Value) (pb : Nat) (pv rv : Value) (vs : List Value) (k : Nat) : Prop where
  rw_ : RW W0 wr g cap ns bb ib (partS ns push) (lastS ns push) lv
  pl : Blk wr pb 31 #[pv, rv]
  qr : QRow wr (pb + 1) pv vs ((splitParts ns push).take k)
  lt : ib < pb
section
variable {W0 wr w' : World} {g cap bb ib pb k : Nat} {ns : List Nd} {push : Bool} {lv pv rv u : Value} {vs : List Value}
theorem RV.kept (h : RV W0 wr g cap ns push bb ib lv pb pv rv vs k) (hb : Below wr.heap.size wr w') : RV W0 w' g cap ns push bb ib lv pb pv rv vs k := ⟨h.rw_.kept hb, h.pl.kept hb, h.qr.kept hb, h.lt⟩
theorem RV.grow {v' : Value} {l : List Nd} (h : RV W0 wr g cap ns push bb ib lv pb pv rv vs k) (hk : (splitParts ns push)[k]? = some l) (hn : NO wr 0 u l) (hg : wr.grownBy w' pv.ownBlock) (ho : w'.ownsRow (pb + 1) 25 1 v' (((splitParts ns push).take k).length + 1) (vs ++ [u])) :
    Blk w' pb 31 #[pv, rv] ∧ RV W0 (w'.setCell ⟨pb, 0, none⟩ v') g cap ns push bb ib lv pb v' rv (vs ++ [u]) (k + 1) := by
  have hown : ∀ k, pv.ownBlock = some k → pb + 1 ≤ k := fun k hk => (h.qr.row.lt k hk).1
  have hb : Below (pb + 1) wr w' := (Below.refl (pb + 1) wr).grown hg h.pl.lt hown
  have h1 := h.lt
  have hpl : Blk w' pb 31 #[pv, rv] := h.pl.low hb (Nat.lt_succ_self _)
  have hrw : RW W0 w' g cap ns bb ib (partS ns push) (lastS ns push) lv := h.rw_.keptB (hb.mono (by omega)) (row_grown2 h.rw_.row (by decide) h.qr.row hg)
  have hb2 : Below pb w' (w'.setCell ⟨pb, 0, none⟩ v') := (Below.refl _ _).setCell (p := ⟨pb, 0, none⟩) (Nat.le_refl _) _
  refine ⟨hpl, hrw.keptB (hb2.mono (by omega)) (row_far hrw.row hpl (by decide) 0 v'), hpl.put 0 v', ?_, h.lt⟩
  have e : (splitParts ns push).take (k + 1) = (splitParts ns push).take k ++ [l] := by rw [List.take_add_one, hk]; rfl
  rw [e]
  exact (h.qr.grow hn hg ho).far2 (by decide) (by decide) (by decide) (by decide) (by decide) hpl
end
/-- A part that is being laid. -/
structure TQ (W3 wr : World) (n : Nat) (now : List Nat) (out : List Nd) (ov : Value) : Prop where
  low : Below W3.heap.size W3 wr
  qb : Blk wr W3.heap.size 25 #[ov]
  nb : Blk wr (W3.heap.size + 1) 3 (intsL now).toArray
  nl : now.length = n
  out : NO wr (W3.heap.size + 2) ov out
section
variable {W3 wr w' : World} {n : Nat} {now : List Nat} {out : List Nd} {ov v' : Value} {m : NodeM} {ms : List NodeM}
theorem TQ.kept (h : TQ W3 wr n now out ov) (hb : Below wr.heap.size wr w') : TQ W3 w' n now out ov := ⟨chain h.low hb, h.qb.kept hb, h.nb.kept hb, h.nl, h.out.kept hb⟩
theorem intsL_set {l : List Nat} {i x : Nat} : (intsL l).toArray.setIfInBounds i (.int .i64 (x : Int)) = (intsL (l.set i x)).toArray := by simp [intsL, List.map_set]
theorem TQ.put (h : TQ W3 wr n now out ov) (i x : Nat) : TQ W3 (wr.setCell ⟨W3.heap.size + 1, i, none⟩ (.int .i64 (x : Int))) n (now.set i x) out ov :=
  ⟨h.low.setCell (p := ⟨W3.heap.size + 1, i, none⟩) (Nat.le_succ _) _, h.qb.far (p := ⟨W3.heap.size + 1, i, none⟩) (by intro e; dsimp only at e; omega) _, by
    rw [← intsL_set]
    exact h.nb.put i _, by rw [List.length_set]; exact h.nl, h.out.far h.nb (Nat.lt_succ_self _)⟩
theorem NO.farQ {W : World} {B x i : Nat} {u z : Value} {cs : Array Value} {et : TypeId} {ns : List Nd} (h : NO W B u ns) (h1 : 43 ≠ et) (h2 : 3 ≠ et) (h3 : 9 ≠ et) (h4 : 80 ≠ et) (hx : Blk W x et cs) : NO (W.setCell ⟨x, i, none⟩ z) B u ns := by
  obtain ⟨ms, k1, k2, k3⟩ := h
  exact ⟨ms, k1, row_far k2 hx h1 i z, fun m hm => ⟨⟨row_far (k3 m hm).1.l hx h2 i z, row_far (k3 m hm).1.names hx h3 i z, row_far (k3 m hm).1.aggs hx h4 i z⟩, row_far (k3 m hm).2 hx h2 i z⟩⟩
theorem TQ.grow (h : TQ W3 wr n now out ov) (h1 : ms.map (·.node) = out) (h2 : wr.ownsRow (W3.heap.size + 2) 43 19 ov out.length (cellsM ms)) (h3 : ∀ x ∈ ms, MOk wr 0 x ∧ wr.ownsRow (W3.heap.size + 2) 3 1 x.lv x.node.l.length (intsL x.node.l))
    (hm : MOk wr 0 m) (hl : wr.ownsRow (W3.heap.size + 2) 3 1 m.lv m.node.l.length (intsL m.node.l)) (hg : wr.grownBy w' ov.ownBlock) (ho : w'.ownsRow (W3.heap.size + 2) 43 19 v' (out.length + 1) (cellsM ms ++ m.cells)) :
    Blk w' W3.heap.size 25 #[ov] ∧ TQ W3 (w'.setCell ⟨W3.heap.size, 0, none⟩ v') n now (out ++ [m.node]) v' := by
  have hk : ∀ k, ov.ownBlock = some k → W3.heap.size + 2 ≤ k := fun k hk => (h2.lt k hk).1
  have hb : Below (W3.heap.size + 2) wr w' := (Below.refl _ wr).grown hg h.nb.lt hk
  have hq : Blk w' W3.heap.size 25 #[ov] := h.qb.low hb (by omega)
  refine ⟨hq, (h.low.trans (hb.mono (by omega))).setCell (p := ⟨W3.heap.size, 0, none⟩) (Nat.le_refl _) _, hq.put 0 v', (h.nb.low hb (by omega)).far (p := ⟨W3.heap.size, 0, none⟩) (by dsimp only; omega) _, h.nl, ?_⟩
  exact (NO.grow h1 h2 h3 hm hl hg ho).farQ (by decide) (by decide) (by decide) (by decide) hq
end
theorem row_mvp {W W' : World} {pb b size n : Nat} {e : TypeId} {v : Value} {xs : List Value} {cs : Array Value} (h : W.ownsRow b e size v n xs) (hx : Blk W pb 31 cs) (he : e ≠ 31) (m : Mv pb W W') : W'.ownsRow b e size v n xs := by
  refine row_mv h m fun hk => ?_
  obtain ⟨cur, hcur⟩ := row_block h hk
  exact he (block_types hcur hx)
theorem NO.mvp {W W' : World} {pb B : Nat} {v : Value} {ns : List Nd} {cs : Array Value} (h : NO W B v ns) (hx : Blk W pb 31 cs) (m : Mv pb W W') : NO W' B v ns := by
  obtain ⟨ms, k1, k2, k3⟩ := h
  exact ⟨ms, k1, row_mvp k2 hx (by decide) m, fun y hy => ⟨⟨row_mvp (k3 y hy).1.l hx (by decide) m, row_mvp (k3 y hy).1.names hx (by decide) m, row_mvp (k3 y hy).1.aggs hx (by decide) m⟩, row_mvp (k3 y hy).2 hx (by decide) m⟩⟩
theorem QRow.mvp {W W' : World} {pb B : Nat} {v : Value} {vs : List Value} {nss : List (List Nd)} {cs : Array Value} (h : QRow W B v vs nss) (hx : Blk W pb 31 cs) (m : Mv pb W W') : QRow W' B v vs nss :=
  ⟨h.len, row_mvp h.row hx (by decide) m, fun i u ns h1 h2 => (h.each i u ns h1 h2).mvp hx m⟩
theorem RW.mvp {W0 W4 wr : World} {g cap bb ib pb : Nat} {ns : List Nd} {part : List Int} {lasts : List Nat} {lv : Value} {cs : Array Value} (h : RW W0 W4 g cap ns bb ib part lasts lv) (hx : Blk W4 pb 31 cs) (hlt : ib < pb) (m : Mv pb W4 wr) : RW W0 wr g cap ns bb ib part lasts lv := by
  have h1 := h.ltb
  have h2 := h.lti
  have far : ∀ {x : Nat} {t : TypeId} {c : Array Value}, Blk W4 x t c → x ≠ pb → Blk wr x t c := fun hb hne => (m.stp (.slice none 0 0)).blk hb hne (by intro e; cases e)
  have hpb := hx.lt
  exact ⟨h.low.trans (m.below (base := W0.heap.size) (by omega) (by intro k e; cases e) (by omega)), h.old, h.hc, far h.qb (by omega), far h.res (by omega), far h.kb (by omega), far h.ki (by omega), row_mvp h.row hx (by decide) m, h.ltb, h.lti, h.pl, h.small⟩
/-- The rest that is being laid. -/
structure TZ (W4 wr : World) (pb : Nat) (pv : Value) (n : Nat) (now : List Nat) (out : List Nd) (ov : Value) : Prop where
  mv : Mv pb W4 wr
  pl : Blk wr pb 31 #[pv, ov]
  nb : Blk wr W4.heap.size 3 (intsL now).toArray
  nl : now.length = n
  out : NO wr (W4.heap.size + 1) ov out
  lt : pb < W4.heap.size
section
variable {W4 wr w' : World} {pb n : Nat} {pv : Value} {now : List Nat} {out : List Nd} {ov v' : Value} {m : NodeM} {ms : List NodeM}
theorem TZ.kept (h : TZ W4 wr pb pv n now out ov) (hb : Below wr.heap.size wr w') : TZ W4 w' pb pv n now out ov := ⟨h.mv.kept hb, h.pl.kept hb, h.nb.kept hb, h.nl, h.out.kept hb, h.lt⟩
theorem TZ.put (h : TZ W4 wr pb pv n now out ov) (i x : Nat) : TZ W4 (wr.setCell ⟨W4.heap.size, i, none⟩ (.int .i64 (x : Int))) pb pv n (now.set i x) out ov := by
  have hlt := h.lt
  exact ⟨h.mv.far (Nat.le_refl _) i _, h.pl.far (p := ⟨W4.heap.size, i, none⟩) (by dsimp only; omega) _, by
    rw [← intsL_set]
    exact h.nb.put i _, by rw [List.length_set]; exact h.nl, h.out.far h.nb (Nat.lt_succ_self _), h.lt⟩
theorem TZ.grow (h : TZ W4 wr pb pv n now out ov) (h1 : ms.map (·.node) = out) (h2 : wr.ownsRow (W4.heap.size + 1) 43 19 ov out.length (cellsM ms)) (h3 : ∀ x ∈ ms, MOk wr 0 x ∧ wr.ownsRow (W4.heap.size + 1) 3 1 x.lv x.node.l.length (intsL x.node.l))
    (hm : MOk wr 0 m) (hl : wr.ownsRow (W4.heap.size + 1) 3 1 m.lv m.node.l.length (intsL m.node.l)) (hg : wr.grownBy w' ov.ownBlock) (ho : w'.ownsRow (W4.heap.size + 1) 43 19 v' (out.length + 1) (cellsM ms ++ m.cells)) :
    Blk w' pb 31 #[pv, ov] ∧ TZ W4 (w'.setCell ⟨pb, 1, none⟩ v') pb pv n now (out ++ [m.node]) v' := by
  have hlt := h.lt
  have hk : ∀ k, ov.ownBlock = some k → W4.heap.size + 1 ≤ k := fun k hk => (h2.lt k hk).1
  have hb : Below (W4.heap.size + 1) wr w' := (Below.refl _ wr).grown hg h.nb.lt hk
  have hq : Blk w' pb 31 #[pv, ov] := h.pl.low hb (by omega)
  refine ⟨hq, (h.mv.keptB hb (by omega)).set 1 v', hq.put 1 v', (h.nb.low hb (by omega)).far (p := ⟨pb, 1, none⟩) (by dsimp only; omega) _, h.nl, ?_, h.lt⟩
  exact (NO.grow h1 h2 h3 hm hl hg ho).farQ (by decide) (by decide) (by decide) (by decide) hq
end
end Go.Proofs.Ytjpogmomgmjmbaa
