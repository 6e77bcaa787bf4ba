/- HintsSure: facts for the walk. -/
import Derived.Test.YtlddpcbbhglibaaHSure
namespace Go.Proofs.Ytlddpcbbhglibaa
open Go.RowKit Bits
set_option maxHeartbeats 4000000
attribute [local go_sem] World.cell?_alloc_some

theorem own_kept {W W1 : World} {base : Nat} {e : TypeId} {size : Nat} {v : Value} {n : Nat} {xs : List Value} (h : W.ownsRow base e size v n xs) (hb : Below W.heap.size W W1) : W1.ownsRow base e size v n xs := by
  refine ⟨h.1, ?_⟩
  rcases h.2 with h2 | ⟨g, cap, cur, h2, h3, h4, h5⟩
  · exact .inl h2
  · exact .inr ⟨g, cap, cur, h2, h3, (hb.block g (Array.getElem?_eq_some_iff.1 h4).1).trans h4, h5⟩
theorem node19 {W : World} {g : Nat} {k h : Int} {t : ByteArray} (hb : Blk W g 60 (nodeA k host h 0 0 2 0 t (fun _ => 0) (.slice none 0 0) (.slice none 0 0) (.slice none 0 0))) : W.cell? ⟨g, 0, none⟩ = some (.int .i64 k) ∧ W.cell? ⟨g, 1, none⟩ = some (.string host) ∧ W.cell? ⟨g, 2, none⟩ = some (.int .i64 h) ∧ W.cell? ⟨g, 3, none⟩ = some (.int .i64 0) ∧ W.cell? ⟨g, 4, none⟩ = some (.int .i64 0) ∧ W.cell? ⟨g, 5, none⟩ = some (.int .i64 2) ∧ W.cell? ⟨g, 6, none⟩ = some (.int .i64 0) ∧ W.cell? ⟨g, 7, none⟩ = some (.string t) ∧ W.cell? ⟨g, 8, none⟩ = some (.int .i64 0) ∧ W.cell? ⟨g, 9, none⟩ = some (.int .i64 0) ∧ W.cell? ⟨g, 10, none⟩ = some (.int .i64 0) ∧ W.cell? ⟨g, 11, none⟩ = some (.int .i64 0) ∧ W.cell? ⟨g, 12, none⟩ = some (.int .i64 0) ∧ W.cell? ⟨g, 13, none⟩ = some (.int .i64 0) ∧ W.cell? ⟨g, 14, none⟩ = some (.int .i64 0) ∧ W.cell? ⟨g, 15, none⟩ = some (.int .i64 0) ∧ W.cell? ⟨g, 16, none⟩ = some (.slice none 0 0) ∧ W.cell? ⟨g, 17, none⟩ = some (.slice none 0 0) ∧ W.cell? ⟨g, 18, none⟩ = some (.slice none 0 0) :=
  ⟨hb.cell 0, hb.cell 1, hb.cell 2, hb.cell 3, hb.cell 4, hb.cell 5, hb.cell 6, hb.cell 7, hb.cell 8, hb.cell 9, hb.cell 10, hb.cell 11, hb.cell 12, hb.cell 13, hb.cell 14, hb.cell 15, hb.cell 16, hb.cell 17, hb.cell 18⟩
theorem field51 (a : Option Addr) (len cap : Nat) (W : World) : (Instr.field 51 (.agg #[.slice a len cap]) 0).run Try.prog W = .ok (.slice a len cap) W := by kernel_rfl
/-- What holds while the nodes are laid together. -/
structure RK (w0 : World) (base x m n bx g3 : Nat) (b : B) (t : ByteArray) (W : World) : Prop where
  idx : Idx W x m n true (some b)
  box : Blk W bx 51 #[.slice (some ⟨g3, 0, none⟩) 1 1]
  own : W.ownsRow base 60 19 (.slice (some ⟨g3, 0, none⟩) 1 1) 1 (nodesL [condN 14 1 t])
  below : Below w0.heap.size w0 W
theorem RK.step {w0 W W' : World} {base x m n bx g3 : Nat} {b : B} {t : ByteArray} (h : RK w0 base x m n bx g3 b t W) (hb : Below W.heap.size W W') : RK w0 base x m n bx g3 b t W' :=
  ⟨h.idx.below hb, h.box.keptB hb, own_kept h.own hb, chain' h.below hb⟩
theorem RK.alloc {w0 W : World} {base x m n bx g3 : Nat} {b : B} {t : ByteArray} (h : RK w0 base x m n bx g3 b t W) (ob : Obj) : RK w0 base x m n bx g3 b t (W.alloc ob) := h.step ((Below.refl _ _).alloc (Nat.le_refl _) _)
theorem RK.q {w0 W : World} {base x m n bx g3 : Nat} {b : B} {t : ByteArray} (h : RK w0 base x m n bx g3 b t W) : W.cell? ⟨bx, 0, none⟩ = some (.slice (some ⟨g3, 0, none⟩) 1 1) := h.box.cell 0
theorem cond_any2 (k h : Int) (t : ByteArray) (w : World) : Calls Try.prog 29 #[.int .i64 k, .int .i64 h, .string t] w fun e w' => ∃ g, e = .returned (.agg #[.slice (some ⟨g, 0, none⟩) 1 1]) ∧ w.heap.size ≤ g ∧ Blk w' g 60 (nodeA k host h 0 0 2 0 t (fun _ => 0) (.slice none 0 0) (.slice none 0 0) (.slice none 0 0)) ∧ Below w.heap.size w w' := cond_any k h t w
def pand (gi : Nat) : NodeV := ⟨11, ⟨#[]⟩, 0, 0, 0, 0, 0, ⟨#[]⟩, fun _ => 0, some ⟨gi, 0, none⟩, 2, 2, none, 0, 0, none, 0, 0, some (0, 1)⟩
def twoN (T : ByteArray) (gi : Nat) : List NodeV := [condN 15 0 T, pand gi]
theorem news_at (W : World) (bn : Nat) (h : W.heap.size = bn) (T : ByteArray) (gi : Nat) : ∀ (j : Nat) u, (nodesL (twoN T gi))[j]? = some u → (W.alloc (.cells (nodesL (twoN T gi)).toArray 60)).cell? ((⟨bn, 0, none⟩ : Addr).add j) = some u := by
  subst h
  intro j u hj
  exact World.news_of_block (heap_alloc_new W _) j u (by simpa using hj)
theorem one_at (T : ByteArray) (gi : Nat) : ∀ u ∈ nodesL (twoN T gi), u.oneCell' = true := by
  intro u hu
  simp only [nodesL, twoN, List.flatMap_cons, List.flatMap_nil, List.append_nil, List.mem_append] at hu
  rcases hu with hu | hu
  · exact NodeV.one _ u hu
  · exact NodeV.one _ u hu
/-- Behind the append: the three nodes. -/
structure PK (w0 : World) (base x m n bx g3 : Nat) (b : B) (t T : ByteArray) (v : Value) (gi : Nat) (W : World) : Prop where
  idx : Idx W x m n true (some b)
  box : Blk W bx 51 #[.slice (some ⟨g3, 0, none⟩) 1 1]
  own : W.ownsRow base 60 19 v 3 (nodesL [condN 14 1 t, condN 15 0 T, pand gi])
  ints : Blk W gi 3 #[.int .i64 0, .int .i64 1]
  below : Below w0.heap.size w0 W
theorem PK.of {w0 Wp W : World} {base x m n bx g3 : Nat} {b : B} {t T : ByteArray} {v : Value} {gi : Nat} (h : RK w0 base x m n bx g3 b t Wp) (hi : Blk Wp gi 3 #[.int .i64 0, .int .i64 1]) (hbb : w0.heap.size ≤ base)
    (ho : W.ownsRow base 60 19 v (1 + 2) (nodesL [condN 14 1 t] ++ nodesL (twoN T gi))) (hg : Wp.grownBy W (Value.slice (some ⟨g3, 0, none⟩) 1 1).ownBlock) : PK w0 base x m n bx g3 b t T v gi W := by
  have hg' : Wp.grownBy W (some g3) := hg
  obtain ⟨cur, hcur⟩ : ∃ cur, Wp.heap[g3]? = some (.cells cur 60) := by
    rcases h.own.2 with ⟨h1, _⟩ | ⟨g, cap, cur, h1, _, h4, _⟩
    · cases h1
    · injection h1 with h1
      injection h1 with h1
      injection h1 with h1
      exact ⟨cur, by rw [h1]; exact h4⟩
  have ne : ∀ {g : Nat} {ty : TypeId} {cs : Array Value}, Blk Wp g ty cs → ty ≠ 60 → g ≠ g3 := by
    intro g ty cs hb hty e
    subst e
    have := hb.symm.trans hcur
    injection this with this
    injection this with _ e2
    exact hty e2
  have nm : m ≠ g3 := fun e => by
    have := h.idx.seen
    rw [e, hcur] at this
    cases this
  have nn : n ≠ g3 := fun e => by
    have := h.idx.bits
    rw [e, hcur] at this
    cases this
  have hlt := h.own.lt
  have e3 : nodesL [condN 14 1 t] ++ nodesL (twoN T gi) = nodesL [condN 14 1 t, condN 15 0 T, pand gi] := by simp [nodesL, twoN]
  rw [e3] at ho
  refine ⟨h.idx.grown hg' (ne h.idx.at_ (by decide)) nm nn, (hg'.block bx h.box.lt (by simpa using ne h.box (by decide))).trans h.box, ho, (hg'.block gi hi.lt (by simpa using ne hi (by decide))).trans hi, h.below.grown hg h.below.size (fun k hk => Nat.le_trans hbb (hlt k hk).1)⟩
theorem hjoin_any {w0 W : World} {x m n y m2 n2 : Nat} {sx sy : Option B} (h : SR w0 x m n y m2 n2 sx sy W) (ap : Apart m n y m2 n2) (hm : w0.heap.size ≤ m) (hn : w0.heap.size ≤ n) :
    Calls Try.prog 26 #[.pointer (some ⟨x, 0, none⟩), .pointer (some ⟨y, 0, none⟩)] W fun e w' => e = .returned (.tuple #[]) ∧ Idx w' x m n (joinSt sx sy).isSome (joinSt sx sy) ∧ Below w0.heap.size w0 w' := by
  obtain ⟨ix, iy, hb⟩ := h
  match sy, iy with
  | none, iy =>
    refine (join_none ix iy).mono ?_
    rintro e w' ⟨rfl, hi, hk⟩
    exact ⟨rfl, hi, chain' hb hk⟩
  | some b, iy =>
    refine (join_some ix iy ap).mono ?_
    rintro e w' ⟨rfl, hi, hk⟩
    exact ⟨rfl, hi, hk.base hb (Nat.le_refl _) hm hn⟩
theorem may3 {b : B} (hb : WF b) {t T : ByteArray} {A D gi : Nat} (hT : T = t.extract A (A + D)) (hAD : A + D ≤ t.size) (hin : withinB (wB t) b = true) :
    (mayTo (some b) [condN 14 1 t, condN 15 0 T, pand gi] 1).getD 0 false = true ∧ (mayTo (some b) [condN 14 1 t, condN 15 0 T, pand gi] 2).getD 1 false = true ∧ (mayTo (some b) [condN 14 1 t, condN 15 0 T, pand gi] 3).getD 2 false = true := by
  have h0 : ∀ may k, mayOne (some b) may (condN 14 1 t) k = true := by
    intro may k
    unfold mayOne
    rw [if_neg (by simp [condN]), if_neg (by simp [condN]), if_pos (by simp [condN])]
    show withinB (wB t) (bitsAt (some b) load host) = true
    rw [at_some]
    exact hin
  have h1 : ∀ may k, mayOne (some b) may (condN 15 0 T) k = true := by
    intro may k
    unfold mayOne
    rw [if_neg (by simp [condN]), if_neg (by simp [condN]), if_neg (by simp [condN]), if_pos (by simp [condN])]
    show withinB (ofB T) (bitsAt (some b) load host) = true
    rw [at_some, hT]
    exact within_trans (wf_ofB _) (wf_ofB t) hb (within_cut t A (A + D) hAD) (within_trans (wf_ofB t) (wf_ofB (wholeS t)) hb (within_middle _ t _) hin)
  have e1 : mayTo (some b) [condN 14 1 t, condN 15 0 T, pand gi] 1 = [true] := by
    simp only [mayTo, List.getElem?_cons_zero, List.nil_append, h0]
  have e2 : mayTo (some b) [condN 14 1 t, condN 15 0 T, pand gi] 2 = [true, true] := by
    rw [mayTo, e1]
    simp only [List.getElem?_cons_succ, List.getElem?_cons_zero, h1, List.cons_append, List.nil_append]
  have e3 : mayTo (some b) [condN 14 1 t, condN 15 0 T, pand gi] 3 = [true, true, true] := by
    rw [mayTo, e2]
    simp only [List.getElem?_cons_succ, List.getElem?_cons_zero, List.cons_append, List.nil_append]
    rw [show mayOne (some b) [true, true] (pand gi) 2 = true by rfl]
  rw [e1, e2, e3]
  exact ⟨rfl, rfl, rfl⟩
theorem PK.fin {w0 W : World} {base x m n bx g3 g5 cap5 gi : Nat} {b : B} {t T : ByteArray} (h : PK w0 base x m n bx g3 b t T (.slice (some ⟨g5, 0, none⟩) 3 cap5) gi W) (hbx : w0.heap.size ≤ bx) (ht : t.size ≤ 140737488351232) (hT : T.size ≤ 140737488351232) :
    Idx (W.setCell ⟨bx, 0, none⟩ (.slice (some ⟨g5, 0, none⟩) 3 cap5)) x m n true (some b) ∧ Blk (W.setCell ⟨bx, 0, none⟩ (.slice (some ⟨g5, 0, none⟩) 3 cap5)) bx 51 #[.slice (some ⟨g5, 0, none⟩) 3 cap5] ∧
    Nodes (W.setCell ⟨bx, 0, none⟩ (.slice (some ⟨g5, 0, none⟩) 3 cap5)) g5 0 [condN 14 1 t, condN 15 0 T, pand gi] ∧ 3 ≤ cap5 ∧ Below w0.heap.size w0 (W.setCell ⟨bx, 0, none⟩ (.slice (some ⟨g5, 0, none⟩) 3 cap5)) := by
  obtain ⟨o1, o2, o3⟩ := h.idx.off h.box (by decide)
  have hcell := h.box.cell 0
  have hfree := h.box.free 0
  obtain ⟨g, cap, he, hcap, hN, cur, hcur⟩ := nodes_row (l := [condN 14 1 t, condN 15 0 T, pand gi]) h.own (by simp) (by
    intro i d hd
    match i, hd with
    | 0, hd =>
      simp only [List.getElem?_cons_zero, Option.some.injEq] at hd
      subst hd
      exact ⟨by show (0 : Nat) ≠ 2; decide, ht⟩
    | 1, hd =>
      simp only [List.getElem?_cons_zero, List.getElem?_cons_succ, Option.some.injEq] at hd
      subst hd
      exact ⟨by show (0 : Nat) ≠ 2; decide, hT⟩
    | 2, hd =>
      simp only [List.getElem?_cons_zero, List.getElem?_cons_succ, Option.some.injEq] at hd
      subst hd
      exact ⟨⟨gi, 0, rfl, rfl, Nat.le_refl 2, h.ints.cell 0, h.ints.cell 1, by decide, by decide⟩, by show (0 : Nat) ≤ _; omega⟩
    | i + 3, hd => simp at hd)
  injection he with he1 he2 he3
  injection he1 with he1
  injection he1 with he1
  subst he1 he3
  have ngx : bx ≠ g5 := fun e => by
    have h1 := h.box
    rw [e] at h1
    have := h1.symm.trans hcur
    injection this with this
    injection this with _ e2
    exact absurd e2 (by decide)
  have nix : bx ≠ gi := fun e => by
    have h1 := h.box
    rw [e] at h1
    have := h1.symm.trans h.ints
    injection this with this
    injection this with _ e2
    exact absurd e2 (by decide)
  refine ⟨h.idx.setCell _ _ o1 o2 o3, ?_, ?_, hcap, h.below.setCell hbx _⟩
  · exact h.box.put 0 _
  · intro i d hi
    obtain ⟨h1, h2, h3⟩ := hN i d hi
    refine ⟨fun j u hj => ?_, ?_, h3⟩
    · rw [World.cell?_setCell_far W ⟨bx, 0, none⟩ ⟨g5, 0 + i * 19 + j, none⟩ _ ngx]
      exact h1 j u hj
    · match i, hi with
      | 0, hd =>
        simp only [List.getElem?_cons_zero, Option.some.injEq] at hd
        subst hd
        exact h2
      | 1, hd =>
        simp only [List.getElem?_cons_zero, List.getElem?_cons_succ, Option.some.injEq] at hd
        subst hd
        exact h2
      | 2, hd =>
        simp only [List.getElem?_cons_zero, List.getElem?_cons_succ, Option.some.injEq] at hd
        subst hd
        exact ⟨gi, 0, rfl, rfl, Nat.le_refl 2, (World.cell?_setCell_far W ⟨bx, 0, none⟩ ⟨gi, 0, none⟩ _ nix).trans (h.ints.cell 0), (World.cell?_setCell_far W ⟨bx, 0, none⟩ ⟨gi, 1, none⟩ _ nix).trans (h.ints.cell 1), by decide, by decide⟩
      | i + 3, hd => simp at hd
end Go.Proofs.Ytlddpcbbhglibaa
