/- The walk of the statements' head: the document's examples. -/
import Derived.Test.YtlddpcbbhglibaaHMight
import Derived.OwnWalk
import Derived.Laws.AppendOwn
import Derived.ArgAppend
namespace Go.Proofs.Ytlddpcbbhglibaa
open Go.RowKit Bits
set_option maxHeartbeats 4000000

set_option maxRecDepth 100000 in
theorem might_no {w : World} {x m n : Nat} {s : Bool} {st : Option B} (h : Idx w x m n s st) (k : ByteArray) (hk : (s && (k == load)) = false) (a : Option Addr) (len cap : Nat) (i : Int) :
    Calls Try.prog 28 #[.pointer (some ⟨x, 0, none⟩), .string k, .agg #[.slice a len cap], .int .i64 i] w fun e w' => e = .returned (.bool false) ∧ Below w.heap.size w w' := by
  have hb1 : Below w.heap.size w (w.alloc (.cells #[.slice a len cap] 51)) := (Below.refl _ _).alloc (Nat.le_refl _) _
  have h1 := h.below hb1
  have c0 : (w.alloc (.cells #[.slice a len cap] 51)).cell? ⟨x, 0, none⟩ = some (.map (some m)) := h1.at_.cell 0
  have hls := look_seen h1.seen k
  rw [hk] at hls
  have HB := Lib.hid hb1
  clear h h1 hk hb1
  go_enter Try.func28, Try.ntmps28
  go_wp2_with fail
  exact bodyPost_ret (results_tmp rfl _ _ _) rfl ⟨rfl, HB.out⟩

def condN (kd how : Int) (t : ByteArray) : NodeV := ⟨kd, host, how, 0, 0, 2, 0, t, fun _ => 0, none, 0, 0, none, 0, 0, none, 0, 0, none⟩
theorem nodes_one {W : World} {g : Nat} {d : NodeV} (h : Blk W g 60 d.cells) (hr : RowIs W d.la d.ll d.lc d.two) (hv : d.vs.size ≤ 140737488351232) : Nodes W g 0 [d] := by
  intro i e hi
  match i, hi with
  | 0, hi =>
    simp only [List.getElem?_cons_zero, Option.some.injEq] at hi
    subst hi
    refine ⟨fun j v hj => ?_, hr, hv⟩
    have := h.cell j
    rw [show 0 + 0 * 19 + j = j by omega, this]
    exact hj
theorem might_cond {w : World} {x m n : Nat} {b : B} {g : Nat} {kd how : Int} {t : ByteArray} (hi : Idx w x m n true (some b)) (hg : Blk w g 60 (condN kd how t).cells) (ht : t.size ≤ 140737488351232) :
    Calls Try.prog 28 #[.pointer (some ⟨x, 0, none⟩), .string load, .agg #[.slice (some ⟨g, 0, none⟩) 1 1], .int .i64 0] w fun e w' => e = .returned (.bool (mayOne (some b) [] (condN kd how t) 0)) ∧ Below w.heap.size w w' :=
  might_loop (l := [condN kd how t]) (i := 0) (cap := 1) hi (nodes_one hg (by show (0 : Nat) ≠ 2; decide) ht) (Nat.lt_succ_self 0) (Nat.le_refl 1) (show 1 ≤ 140737488355328 by decide)

/-- Nodes in a row that the call owns. -/
def nodesL (l : List NodeV) : List Value := l.flatMap fun d => d.cells.toList
theorem nodesL_cons (a : NodeV) (l : List NodeV) : nodesL (a :: l) = a.cells.toList ++ nodesL l := by simp [nodesL]
theorem nodesL_get : ∀ (l : List NodeV) (i : Nat) (d : NodeV) (j : Nat) (v : Value), l[i]? = some d → d.cells[j]? = some v → (nodesL l)[i * 19 + j]? = some v
  | [], i, d, j, v, h, _ => by simp at h
  | a :: l, 0, d, j, v, h, hj => by
    simp only [List.getElem?_cons_zero, Option.some.injEq] at h
    subst h
    have hlt : j < a.cells.toList.length := by
      have := (Array.getElem?_eq_some_iff.1 hj).1
      simpa using this
    rw [nodesL_cons, Nat.zero_mul, Nat.zero_add, List.getElem?_append_left hlt]
    simpa using hj
  | a :: l, i + 1, d, j, v, h, hj => by
    have ha : a.cells.toList.length = 19 := rfl
    rw [nodesL_cons, List.getElem?_append_right (by rw [ha]; omega), ha]
    have : (i + 1) * 19 + j - 19 = i * 19 + j := by omega
    rw [this]
    exact nodesL_get l i d j v (by simpa using h) hj
theorem nodes_row {W : World} {base : Nat} {v : Value} {l : List NodeV} (h : W.ownsRow base 60 19 v l.length (nodesL l)) (hn : l ≠ []) (hr : ∀ (i : Nat) (d : NodeV), l[i]? = some d → RowIs W d.la d.ll d.lc d.two ∧ d.vs.size ≤ 140737488351232) :
    ∃ g cap, v = .slice (some ⟨g, 0, none⟩) l.length cap ∧ l.length ≤ cap ∧ Nodes W g 0 l ∧ ∃ cur, W.heap[g]? = some (.cells cur 60) := by
  have hf := fun g hg => h.cells (g := g) hg
  rcases h.2 with ⟨_, h2⟩ | ⟨g, cap, cur, h2, h3, h4, h5, _⟩
  · exact absurd (List.eq_nil_of_length_eq_zero h2) hn
  · subst h2
    refine ⟨g, cap, rfl, h5, fun i d hi => ⟨fun j v hj => ?_, hr i d hi⟩, cur, h4⟩
    have := hf g rfl (i * 19 + j) v (nodesL_get l i d j v hi hj)
    rw [Addr.add_lit] at this
    rw [Nat.zero_add]
    rw [Nat.zero_add] at this
    exact this
theorem Nodes.setCell {W : World} {g o : Nat} {l : List NodeV} (h : Nodes W g o l) (p : Addr) (v : Value) (hne : p.block ≠ g) (hr : ∀ (i : Nat) (d : NodeV), l[i]? = some d → d.two = none) : Nodes (W.setCell p v) g o l := by
  intro i d hi
  obtain ⟨h1, h2, h3⟩ := h i d hi
  refine ⟨fun j u hj => ?_, ?_, h3⟩
  · rw [World.cell?_setCell_far W p ⟨g, o + i * 19 + j, none⟩ v hne]
    exact h1 j u hj
  · have e := hr i d hi
    rw [e] at h2 ⊢
    exact h2
theorem Idx.setCell {W : World} {x m n : Nat} {s : Bool} {st : Option B} (h : Idx W x m n s st) (p : Addr) (v : Value) (h1 : x ≠ p.block) (h2 : m ≠ p.block) (h3 : n ≠ p.block) : Idx (W.setCell p v) x m n s st :=
  ⟨h.at_.far h1 v, (Below.heap_setCell W p v m h2).trans h.seen, (Below.heap_setCell W p v n h3).trans h.bits, h.ne, h.wf⟩
theorem info60 : (Try.prog.info? 60).map (fun i => (i.zero, i.size, i.bytes)) = some (some (.agg zeroNode), 19, 216) := by kernel_rfl
theorem own_one {W : World} {base g : Nat} {d : NodeV} (h : Blk W g 60 d.cells) (hb : base ≤ g) : W.ownsRow base 60 19 (.slice (some ⟨g, 0, none⟩) 1 1) 1 (nodesL [d]) :=
  ⟨rfl, .inr ⟨g, 1, d.cells, rfl, hb, h, Nat.le_refl _, by decide, rfl, by simp [nodesL]; rfl⟩⟩
theorem Idx.grown {W W' : World} {x m n : Nat} {s : Bool} {st : Option B} (h : Idx W x m n s st) {g : Nat} (hg : W.grownBy W' (some g)) (h1 : x ≠ g) (h2 : m ≠ g) (h3 : n ≠ g) : Idx W' x m n s st :=
  ⟨(hg.block x h.at_.lt (by simpa using h1)).trans h.at_, (hg.block m h.m_lt (by simpa using h2)).trans h.seen, (hg.block n h.n_lt (by simpa using h3)).trans h.bits, h.ne, h.wf⟩
theorem Idx.off {W : World} {x m n g : Nat} {s : Bool} {st : Option B} (h : Idx W x m n s st) {t : TypeId} {cs : Array Value} (hb : Blk W g t cs) (ht : t ≠ 69) : x ≠ g ∧ m ≠ g ∧ n ≠ g := by
  refine ⟨fun e => ?_, fun e => (h.blk_ne hb).1 e.symm, fun e => (h.blk_ne hb).2 e.symm⟩
  subst e
  have := hb.symm.trans h.at_
  injection this with this
  injection this with _ e2
  exact ht e2

def web : ByteArray := ⟨#[119, 101, 98]⟩
def web2 : ByteArray := ⟨#[119, 101, 98, 50]⟩
def exB : B := layB (some (layB none (wB web))) (wB web2)
theorem s1 : mayOne (some exB) [] (condN 14 1 ⟨#[119, 101, 98]⟩) 0 = true := by decide +kernel
theorem s2 : mayOne (some exB) [] (condN 14 1 ⟨#[119, 101]⟩) 0 = false := by decide +kernel
theorem s3 : mayOne (some exB) [] (condN 15 0 ⟨#[101, 98, 50]⟩) 0 = true := by decide +kernel
theorem s4 : mayOne (some exB) [] (condN 15 0 ⟨#[120, 121, 122]⟩) 0 = false := by decide +kernel

def pnot (gi : Nat) : NodeV := ⟨13, ⟨#[]⟩, 0, 0, 0, 0, 0, ⟨#[]⟩, fun _ => 0, some ⟨gi, 0, none⟩, 1, 1, none, 0, 0, none, 0, 0, none⟩
theorem s5 (gi : Nat) : (mayTo (some exB) [condN 14 1 ⟨#[119, 101]⟩, pnot gi] 2).getD 1 false = true := by
  simp [mayTo, mayOne, pnot, twoOk]
theorem s6 : (⟨#[108, 97, 116]⟩ == load) = false := by decide

set_option maxRecDepth 100000 in
theorem hshown_any (w : World) : Calls Try.prog 21 #[] w fun e w' => e = .returned (.bool true) ∧ Below w.heap.size w w' := by
  go_enter Try.func21, Try.ntmps21
  go_wp2_with fail
  refine (new_any _).mono ?_
  rintro e w1 ⟨x, m, n, rfl, i1, hm, hn, hx, b1⟩
  have I1 := Lib.hid i1
  have B1 := Lib.hid b1
  clear i1 b1
  go_wp2_with fail
  refine (load_any _).mono ?_
  rintro e w2 ⟨g1, g2, rfl, c1, c2, b2⟩
  have I2 := Lib.hid (I1.out.below b2)
  have B2 := Lib.hid (chain' B1.out b2)
  have C1 := Lib.hid c1
  have C2 := Lib.hid c2
  clear c1 c2 b2
  go_wp2_with fail
  refine (point_any _ _).mono ?_
  rintro e w3 ⟨h1, h2, rfl, v1, v2, b3⟩
  have I3 := Lib.hid (I2.out.below b3)
  have B3 := Lib.hid (chain' B2.out b3)
  have P3 := Lib.hid (Parts.mk (C1.out.keptB b3) (C2.out.keptB b3) v1 v2)
  clear v1 v2 b3
  go_wp2_with fail
  refine (add_any (by decide) I3.out P3.out).mono ?_
  rintro e w4 ⟨rfl, i4, k4⟩
  have B4 := Lib.hid (k4.base B3.out (Nat.le_refl _) hm hn)
  have I4 := Lib.hid i4
  clear i4 k4
  go_wp2_with fail
  refine (load_any _).mono ?_
  rintro e w5 ⟨g3, g4, rfl, c1, c2, b5⟩
  have I5 := Lib.hid (I4.out.below b5)
  have B5 := Lib.hid (chain' B4.out b5)
  have C3 := Lib.hid c1
  have C4 := Lib.hid c2
  clear c1 c2 b5
  go_wp2_with fail
  refine (point_any _ _).mono ?_
  rintro e w6 ⟨h3, h4, rfl, v1, v2, b6⟩
  have I6 := Lib.hid (I5.out.below b6)
  have B6 := Lib.hid (chain' B5.out b6)
  have P6 := Lib.hid (Parts.mk (C3.out.keptB b6) (C4.out.keptB b6) v1 v2)
  clear v1 v2 b6
  go_wp2_with fail
  refine (add_any (by decide) I6.out P6.out).mono ?_
  rintro e w7 ⟨rfl, i7, k7⟩
  have B7 := Lib.hid (k7.base B6.out (Nat.le_refl _) hm hn)
  have I7 := Lib.hid (show Idx w7 x m n true (some exB) from i7)
  clear i7 k7
  go_wp2_with fail
  refine (cond_any _ _ _ _).mono ?_
  rintro e w8 ⟨g, rfl, hg, n8, b8⟩
  have I8 := Lib.hid (I7.out.below b8)
  have B8 := Lib.hid (chain' B7.out b8)
  have N8 := Lib.hid (show Blk w8 g 60 (condN 14 1 ⟨#[119, 101]⟩).cells from n8)
  clear n8 b8
  have HO8 := Lib.hid (own_one (base := w.heap.size) N8.out (Nat.le_trans B7.out.size hg))
  obtain ⟨i0, hi0, hz0, hz1, hz2⟩ := info_parts info60
  have n3 := new3 w8 #[.slice (some ⟨g, 0, none⟩) 1 1] #[.int .i64 0] (pnot (w8.heap.size + 1)).cells 51 3 60
  obtain ⟨x1, x2, x3, x4⟩ := n3
  have HO9 := Lib.hid (((HO8.out.alloc (.cells #[.slice (some ⟨g, 0, none⟩) 1 1] 51)).alloc (.cells #[.int .i64 0] 3)).alloc (.cells (pnot (w8.heap.size + 1)).cells 60))
  have HB9 := Lib.hid (chain' B8.out x4)
  have I9 := Lib.hid (I8.out.below x4)
  have X1 := Lib.hid x1
  have X3 := Lib.hid x3
  have hnew : ∀ (j : Nat) u, (pnot (w8.heap.size + 1)).cells.toList[j]? = some u → (((w8.alloc (.cells #[.slice (some ⟨g, 0, none⟩) 1 1] 51)).alloc (.cells #[.int .i64 0] 3)).alloc (.cells (pnot (w8.heap.size + 1)).cells 60)).cell? ((⟨w8.heap.size + 1 + 1, 0, none⟩ : Addr).add j) = some u := by
    intro j u hj
    rw [Addr.add_lit, Nat.zero_add]
    rw [X3.out.cell j]
    simpa using hj
  have HNEW := Lib.hid hnew
  have HLT := Lib.hid N8.out.lt
  clear x1 x2 x3 x4 hnew
  unfold slice1
  go_wp2_with (at_builtin; refine wpList_append_own _ rfl _ _ _ rfl w.heap.size 60 i0 _ 19 216 (by kernel_rfl) hi0 hz0 hz1 hz2 rfl (by decide) _ 1 (nodesL [condN 14 1 ⟨#[119, 101]⟩]) rfl HO9.out ⟨w8.heap.size + 1 + 1, 0, none⟩ 1 1 (pnot (w8.heap.size + 1)).cells.toList rfl rfl HNEW.out (pnot _).one (by decide) (by decide) HB9.out.size ?_)
  intro v' w9 ho hgr _
  have hB9 := HB9.out.grown hgr HB9.out.size (fun k hk => (HO9.out.lt k hk).1)
  have hgr' : World.grownBy _ w9 (some g) := hgr
  obtain ⟨o1, o2, o3⟩ := I8.out.off N8.out (by decide)
  have hI9 := I9.out.grown hgr' o1 o2 o3
  have hX1 : Blk w9 w8.heap.size 51 #[.slice (some ⟨g, 0, none⟩) 1 1] := (hgr'.block w8.heap.size X1.out.lt (by have := HLT.out; simp; omega)).trans X1.out
  have ho2 : w9.ownsRow w.heap.size 60 19 v' [condN 14 1 ⟨#[119, 101]⟩, pnot (w8.heap.size + 1)].length (nodesL [condN 14 1 ⟨#[119, 101]⟩, pnot (w8.heap.size + 1)]) := by
    have e : nodesL [condN 14 1 ⟨#[119, 101]⟩, pnot (w8.heap.size + 1)] = nodesL [condN 14 1 ⟨#[119, 101]⟩] ++ (pnot (w8.heap.size + 1)).cells.toList := by simp [nodesL]
    rw [e]
    exact ho
  obtain ⟨g2, cap, rfl, hcap, hN, cur, hcur⟩ := nodes_row ho2 (by simp) (fun i d hd => by
    match i, hd with
    | 0, hd => simp only [List.getElem?_cons_zero, Option.some.injEq] at hd; subst hd; exact ⟨(show (0 : Nat) ≠ 2 by decide), (by decide)⟩
    | 1, hd => simp only [List.getElem?_cons_succ, List.getElem?_cons_zero, Option.some.injEq] at hd; subst hd; exact ⟨(show (1 : Nat) ≠ 2 by decide), (show 0 ≤ 140737488351232 by decide)⟩)
  have q1 := hX1.cell 0
  have q2 := hX1.free 0
  have hne : w8.heap.size ≠ g2 := fun e => by
    subst e
    have := hX1.symm.trans hcur
    injection this with this
    injection this with _ e2
    exact absurd e2 (by decide)
  obtain ⟨p1, p2, p3⟩ := hI9.off hX1 (by decide)
  obtain ⟨WA, hWA⟩ : ∃ WA, WA = w9.setCell ⟨w8.heap.size, 0, none⟩ (.slice (some ⟨g2, 0, none⟩) 2 cap) := ⟨_, rfl⟩
  have IX0 := Lib.hid (show Idx WA x m n true (some exB) by rw [hWA]; exact hI9.setCell _ _ p1 p2 p3)
  have BX0 := Lib.hid (show Below w.heap.size w WA by rw [hWA]; exact hB9.setCell B8.out.size _)
  have NN0 := Lib.hid (show Nodes WA g2 0 [condN 14 1 ⟨#[119, 101]⟩, pnot (w8.heap.size + 1)] by
    rw [hWA]
    refine hN.setCell _ _ hne (fun i d hd => ?_)
    match i, hd with
    | 0, hd => simp only [List.getElem?_cons_zero, Option.some.injEq] at hd; subst hd; rfl
    | 1, hd => simp only [List.getElem?_cons_succ, List.getElem?_cons_zero, Option.some.injEq] at hd; subst hd; rfl)
  have hq0 : WA.cell? ⟨w8.heap.size, 0, none⟩ = some (.slice (some ⟨g2, 0, none⟩) 2 cap) := by rw [hWA]; exact (hX1.put 0 _).cell 0
  have Q0 := Lib.hid hq0
  have HWA := Lib.hid hWA
  clear ho hgr hgr' hB9 o1 o2 o3 hI9 hX1 ho2 hN hcur hne p1 p2 p3 hq0 hWA
  go_wp2_with fail
  rw [show w9.setCell ⟨w8.heap.size, 0, none⟩ (.slice (some ⟨g2, 0, none⟩) 2 cap) = WA from HWA.out.symm]
  clear q1 q2
  refine (cond_any _ _ _ _).mono ?_
  rintro e u1 ⟨f1, rfl, _, n1, b1⟩
  have IC1 := Lib.hid (IX0.out.below b1)
  have BC1 := Lib.hid (chain' BX0.out b1)
  have NC1 := Lib.hid (show Blk u1 f1 60 (condN 14 1 ⟨#[119, 101, 98]⟩).cells from n1)
  have QC1 := Lib.hid (keepv b1 Q0.out)
  have NNC1 := Lib.hid (NN0.out.below b1)
  clear n1 b1
  unfold slice1
  go_wp2_with fail
  refine ((might_cond IC1.out NC1.out (by decide)).mono ?_)
  rintro e z1 ⟨rfl, b1⟩
  rw [s1]
  have IX1 := Lib.hid (IC1.out.below b1)
  have BX1 := Lib.hid (chain' BC1.out b1)
  have Q1 := Lib.hid (keepv b1 QC1.out)
  have NN1 := Lib.hid (NNC1.out.below b1)
  clear b1
  go_wp2_with fail
  refine (cond_any _ _ _ _).mono ?_
  rintro e u2 ⟨f2, rfl, _, n2, b2⟩
  have IC2 := Lib.hid (IX1.out.below b2)
  have BC2 := Lib.hid (chain' BX1.out b2)
  have NC2 := Lib.hid (show Blk u2 f2 60 (condN 14 1 ⟨#[119, 101]⟩).cells from n2)
  have QC2 := Lib.hid (keepv b2 Q1.out)
  have NNC2 := Lib.hid (NN1.out.below b2)
  clear n2 b2
  unfold slice1
  go_wp2_with fail
  refine ((might_cond IC2.out NC2.out (by decide)).mono ?_)
  rintro e z2 ⟨rfl, b2⟩
  rw [s2]
  have IX2 := Lib.hid (IC2.out.below b2)
  have BX2 := Lib.hid (chain' BC2.out b2)
  have Q2 := Lib.hid (keepv b2 QC2.out)
  have NN2 := Lib.hid (NNC2.out.below b2)
  clear b2
  go_wp2_with fail
  refine (cond_any _ _ _ _).mono ?_
  rintro e u3 ⟨f3, rfl, _, n3, b3⟩
  have IC3 := Lib.hid (IX2.out.below b3)
  have BC3 := Lib.hid (chain' BX2.out b3)
  have NC3 := Lib.hid (show Blk u3 f3 60 (condN 15 0 ⟨#[101, 98, 50]⟩).cells from n3)
  have QC3 := Lib.hid (keepv b3 Q2.out)
  have NNC3 := Lib.hid (NN2.out.below b3)
  clear n3 b3
  unfold slice1
  go_wp2_with fail
  refine ((might_cond IC3.out NC3.out (by decide)).mono ?_)
  rintro e z3 ⟨rfl, b3⟩
  rw [s3]
  have IX3 := Lib.hid (IC3.out.below b3)
  have BX3 := Lib.hid (chain' BC3.out b3)
  have Q3 := Lib.hid (keepv b3 QC3.out)
  have NN3 := Lib.hid (NNC3.out.below b3)
  clear b3
  go_wp2_with fail
  refine (cond_any _ _ _ _).mono ?_
  rintro e u4 ⟨f4, rfl, _, n4, b4⟩
  have IC4 := Lib.hid (IX3.out.below b4)
  have BC4 := Lib.hid (chain' BX3.out b4)
  have NC4 := Lib.hid (show Blk u4 f4 60 (condN 15 0 ⟨#[120, 121, 122]⟩).cells from n4)
  have QC4 := Lib.hid (keepv b4 Q3.out)
  have NNC4 := Lib.hid (NN3.out.below b4)
  clear n4 b4
  unfold slice1
  go_wp2_with fail
  refine ((might_cond IC4.out NC4.out (by decide)).mono ?_)
  rintro e z4 ⟨rfl, b4⟩
  rw [s4]
  have IX4 := Lib.hid (IC4.out.below b4)
  have BX4 := Lib.hid (chain' BC4.out b4)
  have Q4 := Lib.hid (keepv b4 QC4.out)
  have NN4 := Lib.hid (NNC4.out.below b4)
  clear b4
  have qq := Q4.out
  go_wp2_with fail
  refine (might_no IX4.out _ (by rw [s6]; rfl) _ _ _ _).mono ?_
  rintro e z5 ⟨rfl, b5⟩
  have IX5 := Lib.hid (IX4.out.below b5)
  have BX5 := Lib.hid (chain' BX4.out b5)
  have Q5 := Lib.hid (keepv b5 Q4.out)
  have NN5 := Lib.hid (NN4.out.below b5)
  clear b5 qq
  have qq := Q5.out
  go_wp2_with fail
  refine (might_loop (l := [condN 14 1 ⟨#[119, 101]⟩, pnot (w8.heap.size + 1)]) (i := 1) IX5.out NN5.out (show 1 < 2 by decide) hcap (show 2 ≤ 140737488355328 by decide)).mono ?_
  rintro e z6 ⟨rfl, b6⟩
  rw [s5]
  have IX6 := Lib.hid (IX5.out.below b6)
  have BX6 := Lib.hid (chain' BX5.out b6)
  clear b6 qq
  go_wp2_with fail
  refine (seen_any IX6.out _).mono ?_
  rintro e z7 ⟨rfl, rfl⟩
  go_wp2_with fail
  refine (seen_any IX6.out _).mono ?_
  rintro e z8 ⟨rfl, rfl⟩
  go_wp2_with fail
  exact bodyPost_ret (results_tmp rfl _ _ _) rfl ⟨by rw [← show (!((⟨#[108, 97, 116]⟩ : ByteArray) == load)) = true by decide]; rfl, BX6.out⟩
end Go.Proofs.Ytlddpcbbhglibaa
