/- What plan's Split has in memory. The walk of the reference's may. -/
import Derived.Test.YtjpogmomgmjmbaaN22
/-! What plan's Split has in memory. -/
namespace Go.Proofs.Ytjpogmomgmjmbaa
open Go.RowKit LexS ParS BigFrame
set_option maxHeartbeats 4000000
set_option linter.unusedVariables false
set_option linter.unusedSimpArgs false

theorem Blk.low {w w' : World} {g B : Nat} {t : TypeId} {cs : Array Value} (h : Blk w g t cs) (hb : Below B w w') (hg : g < B) : Blk w' g t cs := (hb.block g hg).trans h
theorem Mv.keptB {r B : Nat} {W wr w' : World} (m : Mv r W wr) (hb : Below B wr w') (hB : W.heap.size ≤ B) : Mv r W w' :=
  ⟨hb.os.trans m.os, hb.tape.trans m.tape, hb.output.trans m.output, Nat.le_trans m.size hb.size, fun i hi h1 h2 => (hb.block i (by omega)).trans (m.block i hi h1 h2), fun k hk => by cases hk⟩
theorem SX.keptB {W wr w' : World} {sp g cap bb pb B : Nat} {ns : List Nd} {by_ part : List Int} (h : SX W wr sp g cap ns bb pb by_ part) (hb : Below B wr w') (hB : W.heap.size ≤ B) (h1 : bb < B) (h2 : pb < B) : SX W w' sp g cap ns bb pb by_ part := by
  have hlt := h.lt
  exact ⟨h.mv.keptB hb hB, h.old, h.hc, h.ob, h.box.low hb (by omega), h.kb.low hb h1, h.kp.low hb h2, h.bge, h.pge, h.ne, h.bl, h.pl, h.small⟩
/-- What Split has, once it has laid its splitter. -/
structure SW (W0 Ws wr : World) (sp g cap : Nat) (ns : List Nd) (p q tl : Nat) (part : List Int) (lasts : List Nat) (lv : Value) : Prop where
  sx : SX Ws wr sp g cap ns p q (byS ns) part
  low : Below W0.heap.size W0 wr
  t6 : Blk wr (W0.heap.size + 3) 53 #[RP sp]
  res : Blk wr (W0.heap.size + 1) 31 #[.slice none 0 0, .slice none 0 0]
  lb : Blk wr tl 39 #[lv]
  row : wr.ownsRow (tl + 1) 3 1 lv lasts.length (intsL lasts)
  ltp : p < tl
  ltq : q < tl
  lts : Ws.heap.size ≤ tl
  wse : Ws.heap.size = W0.heap.size + 4
section
variable {W0 Ws wr w' : World} {sp g cap p q tl : Nat} {ns : List Nd} {part : List Int} {lasts : List Nat} {lv v : Value}
theorem SW.kept (h : SW W0 Ws wr sp g cap ns p q tl part lasts lv) (hb : Below wr.heap.size wr w') : SW W0 Ws w' sp g cap ns p q tl part lasts lv :=
  ⟨h.sx.kept hb, chain h.low hb, h.t6.kept hb, h.res.kept hb, h.lb.kept hb, own_kept h.row hb, h.ltp, h.ltq, h.lts, h.wse⟩
theorem SW.put_part (h : SW W0 Ws wr sp g cap ns p q tl part lasts lv) (i : Nat) (x : Int) : SW W0 Ws (wr.setCell ⟨q, i, none⟩ (.int .i64 x)) sp g cap ns p q tl (part.set i x) lasts lv := by
  have h1 := h.sx.pge
  have h2 := h.wse
  have h3 := h.ltq
  refine ⟨h.sx.put_part i x, h.low.setCell (p := ⟨q, i, none⟩) (by dsimp only; omega) _, h.t6.far (p := ⟨q, i, none⟩) (by dsimp only; omega) _, h.res.far (p := ⟨q, i, none⟩) (by dsimp only; omega) _, h.lb.far (p := ⟨q, i, none⟩) (by dsimp only; omega) _, ownsRow_setCell_below h.row (a := ⟨q, i, none⟩) (by dsimp only; omega) _, h.ltp, h.ltq, h.lts, h.wse⟩
theorem SW.keptB (h : SW W0 Ws wr sp g cap ns p q tl part lasts lv) (hb : Below (tl + 1) wr w') (hr : w'.ownsRow (tl + 1) 3 1 lv lasts.length (intsL lasts)) : SW W0 Ws w' sp g cap ns p q tl part lasts lv := by
  have h1 := h.wse
  have h2 := h.lts
  have h3 := h.ltp
  have h4 := h.ltq
  exact ⟨h.sx.keptB hb (by omega) (by omega) (by omega), h.low.trans (hb.mono (by omega)), h.t6.low hb (by omega), h.res.low hb (by omega), h.lb.low hb (by omega), hr, h.ltp, h.ltq, h.lts, h.wse⟩
theorem SW.grow {l2 : List Nat} (h : SW W0 Ws wr sp g cap ns p q tl part lasts lv) (hg : wr.grownBy w' lv.ownBlock) (ho : w'.ownsRow (tl + 1) 3 1 v l2.length (intsL l2)) : SW W0 Ws (w'.setCell ⟨tl, 0, none⟩ v) sp g cap ns p q tl part l2 v := by
  have h1 := h.wse
  have h2 := h.lts
  have h3 := h.ltp
  have h4 := h.ltq
  have h5 := h.lb.lt
  have hk : ∀ k, lv.ownBlock = some k → tl + 1 ≤ k := fun k hk => (h.row.lt k hk).1
  have hb : Below (tl + 1) wr w' := (Below.refl (tl + 1) wr).grown hg h5 hk
  have hb2 : Below tl wr (w'.setCell ⟨tl, 0, none⟩ v) := (hb.mono (Nat.le_succ _)).setCell (p := ⟨tl, 0, none⟩) (Nat.le_refl _) _
  have hlb : Blk w' tl 39 #[lv] := h.lb.low hb (Nat.lt_succ_self _)
  exact ⟨h.sx.keptB hb2 (by omega) (by omega) (by omega), h.low.trans (hb2.mono (by omega)), h.t6.low hb2 (by omega), h.res.low hb2 (by omega), hlb.put 0 v, row_far ho hlb (by decide) 0 v, h.ltp, h.ltq, h.lts, h.wse⟩
theorem SW.grow_lb (h : SW W0 Ws wr sp g cap ns p q tl part lasts lv) (hg : wr.grownBy w' lv.ownBlock) : Blk w' tl 39 #[lv] :=
  h.lb.low ((Below.refl (tl + 1) wr).grown hg h.lb.lt fun k hk => (h.row.lt k hk).1) (Nat.lt_succ_self _)
theorem SW.lu (h : SW W0 Ws wr sp g cap ns p q tl part lasts lv) : tl + 1 ≤ wr.heap.size := h.lb.lt
end
/-- A row of queries of the call's own, and their nodes. -/
structure QRow (W : World) (B : Nat) (v : Value) (vs : List Value) (nss : List (List Nd)) : Prop where
  len : vs.length = nss.length
  row : W.ownsRow B 25 1 v nss.length vs
  each : ∀ (i : Nat) (u : Value) (ns : List Nd), vs[i]? = some u → nss[i]? = some ns → NO W 0 u ns
section
variable {W W' : World} {B : Nat} {v v' u : Value} {vs : List Value} {nss : List (List Nd)} {ns : List Nd}
theorem row_grown2 {b n k size e2 et s2 : Nat} {u : Value} {xs ys : List Value} (h : W.ownsRow b e2 size u k ys) (he : e2 ≠ et) (hv : W.ownsRow B et s2 v n xs) (hg : W.grownBy W' v.ownBlock) : W'.ownsRow b e2 size u k ys := by
  refine h.kept hg ?_
  rcases hu : u.ownBlock with _ | i
  · exact .inl rfl
  · right
    intro e
    obtain ⟨c1, hc1⟩ := row_block h hu
    obtain ⟨c2, hc2⟩ := row_block hv e.symm
    exact he (block_types hc1 hc2)
theorem NO.zero (h : NO W B v ns) : NO W 0 v ns := by
  obtain ⟨ms, h1, h2, h3⟩ := h
  exact ⟨ms, h1, own_zero h2, fun m hm => ⟨(h3 m hm).1, own_zero (h3 m hm).2⟩⟩
theorem NO.grown2 {n et s2 : Nat} {xs : List Value} (h : NO W 0 u ns) (h1 : 43 ≠ et) (h2 : 3 ≠ et) (h3 : 9 ≠ et) (h4 : 80 ≠ et) (hv : W.ownsRow B et s2 v n xs) (hg : W.grownBy W' v.ownBlock) : NO W' 0 u ns := by
  obtain ⟨ms, k1, k2, k3⟩ := h
  exact ⟨ms, k1, row_grown2 k2 h1 hv hg, fun m hm => ⟨⟨row_grown2 (k3 m hm).1.l h2 hv hg, row_grown2 (k3 m hm).1.names h3 hv hg, row_grown2 (k3 m hm).1.aggs h4 hv hg⟩, row_grown2 (k3 m hm).2 h2 hv hg⟩⟩
theorem NO.far2 {x i : Nat} {cs : Array Value} {et : TypeId} {z : Value} (h : NO W 0 u ns) (h1 : 43 ≠ et) (h2 : 3 ≠ et) (h3 : 9 ≠ et) (h4 : 80 ≠ et) (hx : Blk W x et cs) : NO (W.setCell ⟨x, i, none⟩ z) 0 u ns := by
  obtain ⟨ms, k1, k2, k3⟩ := h
  exact ⟨ms, k1, row_far k2 hx h1 i z, fun m hm => ⟨⟨row_far (k3 m hm).1.l hx h2 i z, row_far (k3 m hm).1.names hx h3 i z, row_far (k3 m hm).1.aggs hx h4 i z⟩, row_far (k3 m hm).2 hx h2 i z⟩⟩
theorem QRow.nil : QRow W B (.slice none 0 0) [] [] := ⟨rfl, nil_row, fun i u ns h => by simp at h⟩
theorem QRow.kept (h : QRow W B v vs nss) (hb : Below W.heap.size W W') : QRow W' B v vs nss := ⟨h.len, own_kept h.row hb, fun i u ns h1 h2 => (h.each i u ns h1 h2).kept hb⟩
theorem QRow.far2 {x i : Nat} {cs : Array Value} {et : TypeId} {z : Value} (h : QRow W B v vs nss) (h0 : 25 ≠ et) (h1 : 43 ≠ et) (h2 : 3 ≠ et) (h3 : 9 ≠ et) (h4 : 80 ≠ et) (hx : Blk W x et cs) : QRow (W.setCell ⟨x, i, none⟩ z) B v vs nss :=
  ⟨h.len, row_far h.row hx h0 i z, fun i u ns k1 k2 => (h.each i u ns k1 k2).far2 h1 h2 h3 h4 hx⟩
theorem QRow.grow (h : QRow W B v vs nss) (hn : NO W 0 u ns) (hg : W.grownBy W' v.ownBlock) (ho : W'.ownsRow B 25 1 v' (nss.length + 1) (vs ++ [u])) : QRow W' B v' (vs ++ [u]) (nss ++ [ns]) := by
  refine ⟨by simp [h.len], by rw [List.length_append]; exact ho, fun i x y h1 h2 => ?_⟩
  by_cases hi : i < nss.length
  · rw [List.getElem?_append_left (by rw [h.len]; exact hi)] at h1
    rw [List.getElem?_append_left hi] at h2
    exact (h.each i x y h1 h2).grown2 (by decide) (by decide) (by decide) (by decide) h.row hg
  · rw [List.getElem?_append_right (by rw [h.len]; omega)] at h1
    rw [List.getElem?_append_right (by omega)] at h2
    have e : i - nss.length = 0 := by
      have := some_lt h2
      simp at this
      exact this
    rw [h.len, e] at h1
    rw [e] at h2
    simp only [List.getElem?_cons_zero, Option.some.injEq] at h1 h2
    subst h1
    subst h2
    exact hn.grown2 (by decide) (by decide) (by decide) (by decide) h.row hg
end
/-- A plan that is answered. -/
def SplitR (W : World) (parts : List (List Nd)) (rest : List Nd) (e : Ending) (W' : World) : Prop := ∃ (pv rv : Value) (vs : List Value), e = .returned (.tuple #[.agg #[pv, rv], .int .i64 0]) ∧ QRow W' 0 pv vs parts ∧ NO W' 0 rv rest ∧ Below W.heap.size W W'
end Go.Proofs.Ytjpogmomgmjmbaa

/-! The walk of the reference's may. -/
namespace Go.Proofs.Ytjpogmomgmjmbaa
open Go.RowKit LexS ParS BigFrame
set_option maxHeartbeats 4000000
set_option linter.unusedVariables false
set_option linter.unusedSimpArgs false
attribute [local go_sem] World.cell?_alloc_some cell_drewN_new free_drewN_new cell_drew_new free_drew_new

/-- A row whose first k are p's, and zeros behind. -/
def mayL (n : Nat) (p : List Int) (k : Nat) : List Int := p.take k ++ List.replicate (n - k) 0
theorem mayL_len {n k : Nat} {p : List Int} (hp : p.length = n) (hk : k ≤ n) : (mayL n p k).length = n := by simp [mayL, hp]; omega
theorem mayL_get {n k a : Nat} {p : List Int} (hp : p.length = n) (hk : k ≤ n) (ha : a < k) : (mayL n p k)[a]? = p[a]? := by
  unfold mayL
  rw [List.getElem?_append_left (by simp; omega), List.getElem?_take_of_lt ha]
theorem mayL_zero {n k a : Nat} {p : List Int} (hp : p.length = n) (hk : k ≤ a) (ha : a < n) : (mayL n p k)[a]? = some 0 := by
  unfold mayL
  rw [List.getElem?_append_right (by simp; omega), List.getElem?_replicate, if_pos (by simp; omega)]
theorem mayL_set {n k a : Nat} {p : List Int} {x : Int} (hp : p.length = n) (hk : k ≤ n) (ha : a < k) : (mayL n p k).set a x = mayL n (p.set a x) k := by
  unfold mayL
  rw [List.set_append_left _ _ (by simp; omega), List.take_set]
theorem mayL_next {n k : Nat} {p : List Int} {x : Int} (hp : p.length = n) (hk : k < n) (h : p[k]? = some x) : (mayL n p k).set k x = mayL n p (k + 1) := by
  unfold mayL
  rw [List.set_append_right _ _ (by simp; omega), List.take_add_one, h, show n - k = (n - (k + 1)) + 1 by omega, List.replicate_succ]
  simp [hp, Nat.min_eq_left (Nat.le_of_lt hk)]
theorem by_here {ns : List Nd} (ht : Tree 0 ns) {i : Nat} (hi : i < ns.length) : (byP ns i)[i]? = some (-1) := by
  rcases byP_inv ns i (by omega) i hi with ⟨_, h⟩ | ⟨p, h1, h2, _⟩
  · exact h
  · have := (names_lt ht h2).1
    omega
/-- What may has. -/
structure MY (W0 wr : World) (v : Value) (p : List Int) : Prop where
  low : Below W0.heap.size W0 wr
  qb : Blk wr W0.heap.size 25 #[v]
  kb : Blk wr (W0.heap.size + 1) 3 (intsZ p).toArray
section
variable {W0 wr w' : World} {v : Value} {p : List Int}
theorem MY.kept (h : MY W0 wr v p) (hb : Below wr.heap.size wr w') : MY W0 w' v p := ⟨chain h.low hb, h.qb.kept hb, h.kb.kept hb⟩
theorem MY.put (h : MY W0 wr v p) (i : Nat) (x : Int) : MY W0 (wr.setCell ⟨W0.heap.size + 1, i, none⟩ (.int .i64 x)) v (p.set i x) :=
  ⟨h.low.setCell (p := ⟨W0.heap.size + 1, i, none⟩) (Nat.le_succ _) _, h.qb.far (p := ⟨W0.heap.size + 1, i, none⟩) (by intro e; dsimp only at e; omega) _, by
    rw [← intsZ_set]
    exact h.kb.put i _⟩
end
/-- A node's row of numbers, where it lies. -/
theorem old_node {W : World} {g n cap i : Nat} {ns : List Nd} {nd : Nd} (h : NR W (.slice (some ⟨g, 0, none⟩) n cap) ns) (hi : ns[i]? = some nd) :
    ∃ (m : NodeM) (b : Nat) (pl : Option Addr) (cl : Nat), m.node = nd ∧ MOk W b m ∧ W.rangeAt g (i * 19) m.cells ∧ m.lv = .slice pl nd.l.length cl ∧ nd.l.length ≤ cl ∧
      ∀ (j a : Nat), nd.l[j]? = some a → ∃ gl, pl = some ⟨gl, 0, none⟩ ∧ W.cell? ⟨gl, j, none⟩ = some (.int .i64 (a : Int)) := by
  obtain ⟨m, b, hm, hk, hr⟩ := nr_range h hi
  have hl0 := hk.l
  rw [hm] at hl0
  obtain ⟨pl, cl, hl1, hl2, _, hl4⟩ := ints_row hl0
  refine ⟨m, b, pl, cl, hm, hk, hr, hl1, hl2, fun j a hj => ?_⟩
  obtain ⟨gl, hgl, hcl⟩ := hl4 (by rintro e; rw [e] at hj; simp at hj)
  exact ⟨gl, hgl, hcl j a hj⟩
theorem shape_not (k : Nat) : ¬ shapeB k = [120] := by
  intro h
  have : (120 : UInt8) ∈ shapeB k := by rw [h]; simp
  unfold shapeB at this
  rcases List.mem_append.1 this with h | h
  · exact absurd (List.mem_replicate.1 h).2 (by decide)
  · exact absurd (List.mem_replicate.1 h).2 (by decide)
theorem shape_len (k : Nat) : (shapeB k).length = rowsOf k + condsOf k := by simp [shapeB]
theorem shape_lo {k j : Nat} (h : j < rowsOf k) : (shapeB k)[j]? = some 114 := by
  unfold shapeB
  rw [List.getElem?_append_left (by simpa using h), List.getElem?_replicate, if_pos h]
theorem shape_hi {k j : Nat} (h : rowsOf k ≤ j) (h2 : j < rowsOf k + condsOf k) : (shapeB k)[j]? = some 99 := by
  unfold shapeB
  rw [List.getElem?_append_right (by simpa using h), List.getElem?_replicate, if_pos (by simp; omega)]
def MayR (W : World) (ns : List Nd) (e : Ending) (W' : World) : Prop := ∃ bb, e = .returned (.tuple #[.slice (some ⟨bb, 0, none⟩) ns.length ns.length, .bool true]) ∧ W.heap.size ≤ bb ∧ Blk W' bb 3 (intsZ (byS ns)).toArray ∧ Below W.heap.size W W'
set_option maxRecDepth 100000 in
theorem may_any {W : World} {g cap : Nat} {ns : List Nd} (hn : NR W (.slice (some ⟨g, 0, none⟩) ns.length cap) ns) (hq : QNs ns) (hcap : ns.length ≤ cap) (hs : ns.length ≤ 128) :
    Calls Try.prog 22 #[.agg #[.slice (some ⟨g, 0, none⟩) ns.length cap]] W (MayR W ns) := by
  have hpos : 0 < ns.length := List.length_pos_iff.2 hq.tree.ne
  obtain ⟨nd, hnd⟩ : ∃ nd, ns[ns.length - 1]? = some nd := ⟨ns[ns.length - 1], List.getElem?_eq_getElem (by omega)⟩
  have hlast : nd.kind < 11 := by have := hq.last; rwa [kindAt_of hnd] at this
  obtain ⟨lv, pl, cl, hN⟩ := nr_node hn hnd
  have e0 : W.cell? ⟨g, (ns.length - 1) * 19, none⟩ = some (.int .i64 (nd.kind : Int)) := hN.kind
  have a1 : (0 : Int) ≤ (ns.length : Int) - 1 := by omega
  have a2 : ((ns.length : Int) - 1).toNat = ns.length - 1 := by omega
  have a3 : decide (ns.length < 1) = false := decide_eq_false (by omega)
  have a3' : decide ((ns.length : Int) < 1) = false := decide_eq_false (by omega)
  have a4 : decide ((ns.length : Int) > 16384) = false := decide_eq_false (by omega)
  have a5 : decide (16384 < ns.length) = false := decide_eq_false (by omega)
  have a6 : decide (11 ≤ nd.kind) = false := decide_eq_false (by omega)
  have a6' : decide ((11 : Int) ≤ (nd.kind : Int)) = false := decide_eq_false (by omega)
  have a8 : IntKind.i64.wrap ((ns.length : Int) - 1) = (ns.length : Int) - 1 := IntWalk.i64_in _ (by omega)
  have hmk := make_ints (W.alloc (.cells #[.slice (some ⟨g, 0, none⟩) ns.length cap] 25)) hs
  have hwz : (W.alloc (.cells #[.slice (some ⟨g, 0, none⟩) ns.length cap] 25)).heap.size = W.heap.size + 1 := by
    show (W.heap.push _).size = _
    rw [Array.size_push]
  rw [hwz] at hmk
  obtain ⟨W1, hW1⟩ : ∃ W1, W1 = (W.alloc (.cells #[.slice (some ⟨g, 0, none⟩) ns.length cap] 25)).alloc (.cells (intsL (List.replicate ns.length 0)).toArray 3) := ⟨_, rfl⟩
  rw [← hW1] at hmk
  have HMY := Lib.hid (show MY W W1 (.slice (some ⟨g, 0, none⟩) ns.length cap) (mayL ns.length (byP ns 0) 0) from by
    refine ⟨?_, ?_, ?_⟩
    · rw [hW1]; exact ((Below.refl _ _).alloc (Nat.le_refl _) _).alloc (by rw [hwz]; exact Nat.le_succ _) _
    · rw [hW1]; exact (Blk.new W _ _).alloc _
    · have := Blk.new (W.alloc (.cells #[.slice (some ⟨g, 0, none⟩) ns.length cap] 25)) 3 (intsL (List.replicate ns.length 0)).toArray
      rw [hwz, ← hW1] at this
      have e : intsZ (mayL ns.length (byP ns 0) 0) = intsL (List.replicate ns.length 0) := by simp [mayL, intsZ, intsL]
      rw [e]
      exact this)
  have HN := Lib.hid hn
  have HQ := Lib.hid hq
  have HL := Lib.hid (fun i => byP_len ns i)
  clear hN hnd hn hq hwz hW1
  go_enter Try.func22, Try.ntmps22
  go_wp2_with fail
  clear hmk
  go_loopg [5] (ns.length + 1) (fun gk c wr => ∃ i : Nat, i ≤ ns.length ∧ ns.length < i + gk ∧ c = .int .i64 (i : Int) ∧ MY W wr (.slice (some ⟨g, 0, none⟩) ns.length cap) (mayL ns.length (byP ns i) i))
  case atStart => exact ⟨0, Nat.zero_le _, by omega, rfl, HMY.out⟩
  case round =>
    obtain ⟨i, hi, hgk, rfl, hmy⟩ := hrel
    clear e0 a1 a2 a3 a3' a4 a5 a6 a6' a8
    have c00 : wr.cell? ⟨W.heap.size, 0, none⟩ = some (.slice (some ⟨g, 0, none⟩) ns.length cap) := hmy.qb.cell 0
    by_cases hlt : i < ns.length
    · obtain ⟨n1, hn1⟩ : ∃ n1, ns[i]? = some n1 := ⟨ns[i], List.getElem?_eq_getElem hlt⟩
      obtain ⟨m, b, pl, cl, hm, hk, hr, hlv, hlc, hls⟩ := old_node HN.out hn1
      have t0 : (0 : Int) ≤ (i : Int) := by omega
      have t1 : (i : Int) < (ns.length : Int) := by omega
      have t2 : decide ((i : Int) < (ns.length : Int)) = true := decide_eq_true t1
      have w1_ : IntKind.i64.wrap ((i : Int) + 1) = (i : Int) + 1 := IntWalk.i64_in _ (by omega)
      have hz : wr.cell? ⟨W.heap.size + 1, i, none⟩ = some (.int .i64 0) := intsZ_get hmy.kb (mayL_zero (HL.out i) (Nat.le_refl _) hlt)
      have hf := hmy.kb.free i
      have hp1 := hmy.put i (-1)
      rw [mayL_next (HL.out i) hlt (by_here HQ.out.tree hlt)] at hp1
      have HP1 := Lib.hid hp1
      have hone := hk.ones
      have HR := Lib.hid hr
      have HK := Lib.hid hk
      have HLS := Lib.hid hls
      have hfit := HQ.out.fits i n1 hn1
      have HF := Lib.hid hfit
      have HN1 := Lib.hid hn1
      have HM := Lib.hid hm
      have HLV := Lib.hid hlv
      have hkd := hfit.kd
      have hlen := hfit.len
      clear hmy hn1 hm hk hr hlv hls hfit hp1
      obtain ⟨R, hR⟩ : ∃ R, R = rowsOf n1.kind := ⟨_, rfl⟩
      obtain ⟨C, hC⟩ : ∃ C, C = condsOf n1.kind := ⟨_, rfl⟩
      have hR2 : R ≤ 2 := by rw [hR]; unfold rowsOf; split <;> (try split) <;> omega
      have hC2 : C ≤ 2 := by rw [hC]; unfold condsOf; split <;> (try split) <;> omega
      have hbl := shape_any hkd
      obtain ⟨s, hsb⟩ : ∃ s, s = BA (shapeB n1.kind) := ⟨_, rfl⟩
      simp only [← hsb] at hbl
      have hsz : s.size = rowsOf n1.kind + condsOf n1.kind := by rw [hsb]; exact shape_len _
      have s1 : ¬ s.toList = [120] := by rw [hsb, ByteArray.toList_mk]; exact shape_not _
      have s2 : (s.toList == [120]) = false := by rw [beq_eq_false_iff_ne]; exact s1
      have s3 : ((n1.l.length : Int) != (s.size : Int)) = false := by rw [hsz, hlen]; simp
      rw [← hlen] at hsz
      have HB := Lib.hid hbl
      have HSB := Lib.hid hsb
      rw [← hR, ← hC] at hlen
      have HRR := Lib.hid hR
      have HCC := Lib.hid hC
      have hle4 : n1.l.length ≤ 4 := by omega
      have HLEN := Lib.hid hlen
      have hs4 : s.size ≤ 4 := by omega
      have HSZ := Lib.hid hsz
      clear hsz
      clear hR hC hkd hlen hbl hsb
      go_upto_region 8 with fail
      generalize wr.setCell ⟨W.heap.size + 1, i, none⟩ (.int .i64 (-1)) = w2 at HP1 ⊢
      clear hz hf c00
      have hth := nd_there w2
      have hr1 := Lib.hid (range_kept HP1.out.low HR.out)
      have c0 : w2.cell? ⟨W.heap.size, 0, none⟩ = some (.slice (some ⟨g, 0, none⟩) ns.length cap) := HP1.out.qb.cell 0
      go_wp2_with (first
        | (refine wpList_load_mid (by rfl) 43 (.tmp 50) (by rfl) g (i * 19) (by rfl) m.cells _ hr1.out undNode (by rfl) sizeNode ?_)
        | (refine wpList_store_mid (by rfl) 43 (.tmp 6) (.tmp 51) (by rfl) w2.heap.size 0 m.cells.toArray (by rfl) (by rfl) hth sizeNode hone ?_
           generalize hw4 : World.setCells _ _ _ _ = w4
           have F4 := Lib.hid (nd_stored (m := m) hw4)
           have k0 : w4.cell? ⟨w2.heap.size, 0, none⟩ = some (.int .i64 (n1.kind : Int)) := by
             have := F4.out.2.cell 0
             rw [← HM.out]
             exact this
           have k16 : w4.cell? ⟨w2.heap.size, 16, none⟩ = some (.slice pl n1.l.length cl) := by
             have := F4.out.2.cell 16
             rw [← HLV.out]
             exact this
           clear hw4 hth hone))
      refine (HB.out _).mono ?_
      rintro e w1 ⟨rfl, rfl⟩
      go_wp2_with fail
      clear k0
      have HBK := Lib.hid (show Blk w4 w2.heap.size 43 m.cells.toArray from F4.out.2)
      have HM4 := Lib.hid (HP1.out.kept F4.out.1)
      go_loopg [8] (n1.l.length + 1) (fun gk2 c2 wr2 => ∃ j : Nat, j ≤ n1.l.length ∧ n1.l.length < j + gk2 ∧ c2 = .int .i64 (j : Int) ∧ MY W wr2 (.slice (some ⟨g, 0, none⟩) ns.length cap) (mayL ns.length (byStep i (n1.l.take j) (byP ns i)) (i + 1)) ∧ Blk wr2 w2.heap.size 43 m.cells.toArray)
      case atStart => exact ⟨0, Nat.zero_le _, by omega, rfl, HM4.out, HBK.out⟩
      case round =>
        obtain ⟨j, hj, hgk2, rfl, hmy, hbk⟩ := hrel
        have HM5 := Lib.hid hmy
        clear k16 c0
        have c0 : wr.cell? ⟨W.heap.size, 0, none⟩ = some (.slice (some ⟨g, 0, none⟩) ns.length cap) := hmy.qb.cell 0
        have k16 : wr.cell? ⟨w2.heap.size, 16, none⟩ = some (.slice pl n1.l.length cl) := by
          have := hbk.cell 16
          rw [← HLV.out]
          exact this
        by_cases hjl : j < n1.l.length
        · obtain ⟨a, ha⟩ : ∃ a, n1.l[j]? = some a := ⟨n1.l[j], List.getElem?_eq_getElem hjl⟩
          obtain ⟨gl, rfl, hca0⟩ := HLS.out j a ha
          have hca := keepc hmy.low hca0
          obtain ⟨_, h2, c, hc, hcond⟩ := HF.out.below j a ha
          rw [Nat.sub_zero] at hc
          obtain ⟨_, _, _, hnc⟩ := nr_node (NR.stay hmy.low HN.out) hc
          have hck : wr.cell? ⟨g, a * 19, none⟩ = some (.int .i64 (c.kind : Int)) := hnc.kind
          have hbl : (byStep i (n1.l.take j) (byP ns i)).length = ns.length := by rw [byStep_len]; exact HL.out i
          have hby := intsZ_get hmy.kb ((mayL_get hbl (by omega) (by omega : a < i + 1)).trans (by_free HQ.out.tree HN1.out ha))
          have hfr := hmy.kb.free a
          have q0 : (0 : Int) ≤ (j : Int) := by omega
          have q1 : (j : Int) < (s.size : Int) := by have := HSZ.out; omega
          have q1' : j < s.size := by omega
          have q2 : decide ((j : Int) < (s.size : Int)) = true := decide_eq_true q1
          have q3 : (0 : Int) ≤ (a : Int) := by omega
          have q4 : decide ((a : Int) < 0) = false := decide_eq_false (by omega)
          have q5 : (a : Int) < (i : Int) := by omega
          have q6 : decide ((i : Int) ≤ (a : Int)) = false := decide_eq_false (by omega)
          have q6' : decide (i ≤ a) = false := decide_eq_false (by omega)
          have q7 : (a : Int) < (ns.length : Int) := by omega
          have q8 : (j : Int) < (n1.l.length : Int) := by omega
          have w2_ : IntKind.i64.wrap ((j : Int) + 1) = (j : Int) + 1 := IntWalk.i64_in _ (by omega)
          have hst : byStep i (n1.l.take (j + 1)) (byP ns i) = (byStep i (n1.l.take j) (byP ns i)).set a (i : Int) := by
            rw [List.take_add_one, ha, byStep_app]
            rfl
          have HP := Lib.hid (show ∀ nq, MY W ((wr.drewN nq).setCell ⟨W.heap.size + 1, a, none⟩ (.int .i64 (i : Int))) (.slice (some ⟨g, 0, none⟩) ns.length cap) (mayL ns.length (byStep i (n1.l.take (j + 1)) (byP ns i)) (i + 1)) ∧ Blk ((wr.drewN nq).setCell ⟨W.heap.size + 1, a, none⟩ (.int .i64 (i : Int))) w2.heap.size 43 m.cells.toArray from fun nq => by
            have hp := (hmy.kept (w' := wr.drewN nq) ⟨rfl, rfl, rfl, Nat.le_refl _, fun _ _ => rfl⟩).put a (i : Int)
            rw [mayL_set hbl (by omega) (by omega), ← hst] at hp
            exact ⟨hp, (hbk.drewN nq).far (p := ⟨W.heap.size + 1, a, none⟩) (by have := HP1.out.kb.lt; dsimp only; omega) (.int .i64 (i : Int))⟩)
          have HA := Lib.hid ha
          have hvs : (((s[j]'q1').toNat : Int) = 99 ∧ (((s[j]'q1').toNat : Int) == 99) = true ∧ decide (11 ≤ c.kind) = true ∧ decide ((11 : Int) ≤ (c.kind : Int)) = true) ∨ (¬ ((s[j]'q1').toNat : Int) = 99 ∧ (((s[j]'q1').toNat : Int) == 99) = false ∧ decide (11 ≤ c.kind) = false ∧ decide ((11 : Int) ≤ (c.kind : Int)) = false) := by
            have hsj : (shapeB n1.kind)[j]? = some (s[j]'q1') := by
              have h3 : s.data.toList = shapeB n1.kind := by rw [HSB.out]
              rw [← h3]
              have : (s[j]'q1') = s.data.toList[j]'(by rw [size_list]; exact q1') := rfl
              rw [this]
              exact List.getElem?_eq_getElem _
            have hl2 := HLEN.out
            rw [HRR.out, HCC.out] at hl2
            by_cases h : rowsOf n1.kind ≤ j
            · have h5 := hcond.1 h
              rw [shape_hi h (by omega)] at hsj
              injection hsj with hsj
              rw [← hsj]
              exact .inl ⟨rfl, rfl, decide_eq_true h5, decide_eq_true (by omega)⟩
            · have h5 : ¬ 11 ≤ c.kind := fun h2 => h (hcond.2 h2)
              rw [shape_lo (by omega)] at hsj
              injection hsj with hsj
              rw [← hsj]
              exact .inr ⟨by decide, rfl, decide_eq_false h5, decide_eq_false (by omega)⟩
          clear hcond hmy hbk ha h2 hc hnc hbl hst hca0
          go_wp2_with fail
          rcases hvs with ⟨v1, v2, v3, v4⟩ | ⟨v1, v2, v3, v4⟩
          all_goals
            go_big_quiet (fail)
            go_wp2_with fail
            go_roundg (n1.l.length - j)
            case measure => omega
            case rel => exact ⟨j + 1, by omega, by omega, rfl, HP.out _⟩
        · have hjn : j = n1.l.length := by omega
          subst hjn
          have q1 : ¬ (n1.l.length : Int) < (s.size : Int) := by have := HSZ.out; omega
          have q1' : ¬ n1.l.length < s.size := by have := HSZ.out; omega
          have q2 : decide ((n1.l.length : Int) < (s.size : Int)) = false := decide_eq_false q1
          have hst : byStep i (n1.l.take n1.l.length) (byP ns i) = byP ns (i + 1) := by
            rw [List.take_length]
            show _ = byStep i ((ns[i]?.map (·.l)).getD []) (byP ns i)
            rw [HN1.out]
            rfl
          rw [hst] at hmy
          have HP := Lib.hid hmy
          clear hmy hst HM5 hbk
          go_wp2_with fail
          go_roundg (ns.length - i)
          case measure => omega
          case rel => exact ⟨i + 1, by omega, by omega, rfl, HP.out⟩
    · have hin : i = ns.length := by omega
      subst hin
      have t1 : ¬ (ns.length : Int) < (ns.length : Int) := by omega
      have t2 : decide ((ns.length : Int) < (ns.length : Int)) = false := decide_eq_false t1
      have hall : mayL ns.length (byP ns ns.length) ns.length = byS ns := by
        unfold mayL
        rw [List.take_of_length_le (by rw [HL.out]; exact Nat.le_refl _)]
        simp [byS]
      rw [hall] at hmy
      have HM := Lib.hid hmy
      clear hmy hall
      go_wp2_with fail
      go_loopg [10] (ns.length + 1) (fun gk2 c2 wr2 => ∃ j : Nat, j + 1 ≤ ns.length ∧ ns.length < j + 1 + gk2 ∧ c2 = .int .i64 (j : Int) ∧ wr2 = wr)
      case atStart => exact ⟨0, by omega, by omega, rfl, rfl⟩
      case round =>
        obtain ⟨j, hj, hgk2, rfl, rfl⟩ := hrel
        have w2_ : IntKind.i64.wrap ((j : Int) + 1) = (j : Int) + 1 := IntWalk.i64_in _ (by omega)
        have q0 : (0 : Int) ≤ (j : Int) := by omega
        by_cases hjl : j + 1 < ns.length
        · obtain ⟨x, _, _, _, hx⟩ := by_end HQ.out.tree hjl
          have hby := intsZ_get HM.out.kb hx
          have q1 : (j : Int) + 1 < (ns.length : Int) := by omega
          have q2 : decide ((j : Int) + 1 < (ns.length : Int)) = true := decide_eq_true q1
          have q3 : (j : Int) < (ns.length : Int) := by omega
          have q4 : decide ((x : Int) < 0) = false := decide_eq_false (by omega)
          clear hx
          go_wp2_with fail
          go_roundg (ns.length - j - 1)
          case measure => omega
          case rel => exact ⟨j + 1, by omega, by omega, rfl, rfl⟩
        · have q1 : ¬ (j : Int) + 1 < (ns.length : Int) := by omega
          have q2 : decide ((j : Int) + 1 < (ns.length : Int)) = false := decide_eq_false q1
          go_wp2_with fail
          go_ret2
          exact ⟨W.heap.size + 1, rfl, Nat.le_succ _, HM.out.kb, HM.out.low⟩
end Go.Proofs.Ytjpogmomgmjmbaa
