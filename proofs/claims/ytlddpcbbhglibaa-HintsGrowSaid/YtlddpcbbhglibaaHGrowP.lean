/- HintsGrow: what stands in memory at each place of the walk. -/
import Derived.Test.YtlddpcbbhglibaaHQuery
import Derived.Test.YtlddpcbbhglibaaHClone
namespace Go.Proofs.Ytlddpcbbhglibaa
open Go.RowKit Bits
set_option maxHeartbeats 4000000

/-- Might, whatever was added. -/
theorem might_g {w : World} {x m n : Nat} {st : Option B} {g o cap : Nat} {l : List NodeV} {i : Nat} (hi : Idx w x m n st.isSome st) (hl : Nodes w g o l) (h0 : i < l.length) (hcap : l.length ≤ cap) (hc : l.length ≤ 140737488355328) :
    Calls Try.prog 28 #[.pointer (some ⟨x, 0, none⟩), .string load, .agg #[.slice (some ⟨g, o, none⟩) l.length cap], .int .i64 (i : Int)] w fun e w' => e = .returned (.bool (mgt st l i)) ∧ Below w.heap.size w w' := by
  match st, hi with
  | none, hi => exact might_no hi load rfl _ _ _ _
  | some b, hi => exact might_loop hi hl h0 hcap hc
theorem might_p {w : World} {x m n : Nat} {st : Option B} {g o cap : Nat} {l : List NodeV} {i : Nat} {p : Bool} (hp : mgt st l i = p) (hi : Idx w x m n st.isSome st) (hl : Nodes w g o l) (h0 : i < l.length) (hcap : l.length ≤ cap) (hc : l.length ≤ 140737488351232) :
    Calls Try.prog 28 #[.pointer (some ⟨x, 0, none⟩), .string ⟨#[108, 111, 97, 100]⟩, .agg #[.slice (some ⟨g, o, none⟩) l.length cap], .int .i64 (i : Int)] w fun e w' => e = .returned (.bool p) ∧ Below w.heap.size w w' := by
  subst hp
  exact might_g hi hl h0 hcap (by omega)
theorem seen_p {w : World} {x m n : Nat} {st : Option B} {p : Bool} (hp : st.isSome = p) (h : Idx w x m n st.isSome st) :
    Calls Try.prog 27 #[.pointer (some ⟨x, 0, none⟩), .string ⟨#[108, 111, 97, 100]⟩] w fun e w' => e = .returned (.bool p) ∧ w = w' := by
  refine (seen_any h load).mono ?_
  rintro e w' ⟨rfl, rfl⟩
  exact ⟨by rw [hp, show (load == load) = true by decide, Bool.and_true], rfl⟩
theorem joinK {W : World} {x m n y m2 n2 : Nat} {sx sy : Option B} (ix : Idx W x m n sx.isSome sx) (iy : Idx W y m2 n2 sy.isSome sy) (ap : Apart m n y m2 n2) :
    Calls Try.prog 26 #[.pointer (some ⟨x, 0, none⟩), .pointer (some ⟨y, 0, none⟩)] W fun e w' => e = .returned (.tuple #[]) ∧ Idx w' x m n (joinSt sx sy).isSome (joinSt sx sy) ∧ Kept m n W w' := by
  match sy, iy with
  | none, iy =>
    refine (join_none ix iy).mono ?_
    rintro e w' ⟨rfl, hi, hk⟩
    exact ⟨rfl, hi, Kept.of hk⟩
  | some b, iy =>
    refine (join_some ix iy ap).mono ?_
    rintro e w' ⟨rfl, hi, hk⟩
    exact ⟨rfl, hi, hk⟩
/-- Both indexes, and the box in which the query lies. -/
structure GR (w : World) (bx : Nat) (qv : Value) (x m n y m2 n2 : Nat) (sx sy : Option B) (W : World) : Prop where
  ix : Idx W x m n sx.isSome sx
  iy : Idx W y m2 n2 sy.isSome sy
  box : Blk W bx 51 #[qv]
  below : Below w.heap.size w W
section
variable {w W W' : World} {bx x m n y m2 n2 u mu nu v mv nv : Nat} {qv : Value} {sx sy su sv : Option B} {b : B}
theorem GR.step (h : GR w bx qv x m n y m2 n2 sx sy W) (hb : Below W.heap.size W W') : GR w bx qv x m n y m2 n2 sx sy W' := ⟨h.ix.below hb, h.iy.below hb, h.box.keptB hb, chain' h.below hb⟩
theorem GR.addx (h : GR w bx qv x m n y m2 n2 sx sy W) (ap : Apart m n y m2 n2) (hm : w.heap.size ≤ m) (hn : w.heap.size ≤ n) (i : Idx W' x m n true (some b)) (k : Kept m n W W') : GR w bx qv x m n y m2 n2 (some b) sy W' :=
  ⟨i, h.iy.keptA ap k (h.ix.blk_ne h.iy.at_), h.box.keptK k (h.ix.blk_ne h.box).1 (h.ix.blk_ne h.box).2, k.base h.below (Nat.le_refl _) hm hn⟩
theorem GR.addy (h : GR w bx qv x m n y m2 n2 sx sy W) (ap : Apart m2 n2 x m n) (hm : w.heap.size ≤ m2) (hn : w.heap.size ≤ n2) (i : Idx W' y m2 n2 true (some b)) (k : Kept m2 n2 W W') : GR w bx qv x m n y m2 n2 sx (some b) W' :=
  ⟨h.ix.keptA ap k (h.iy.blk_ne h.ix.at_), i, h.box.keptK k (h.iy.blk_ne h.box).1 (h.iy.blk_ne h.box).2, k.base h.below (Nat.le_refl _) hm hn⟩
theorem GR.host (h : GR w bx qv x m n y m2 n2 sx sy W) {a : Addr} {v : Value} (hv : w.cell? a = some v) : W.cell? a = some v := keepv h.below hv
theorem Idx.far (h : Idx W x m n sx.isSome sx) (hb : bx ≠ x ∧ bx ≠ m ∧ bx ≠ n) (qv : Value) : Idx (W.setCell ⟨bx, 0, none⟩ qv) x m n sx.isSome sx :=
  ⟨h.at_.far hb.1.symm _, (Below.heap_setCell W _ _ _ hb.2.1.symm).trans h.seen, (Below.heap_setCell W _ _ _ hb.2.2.symm).trans h.bits, h.ne, h.wf⟩
theorem GR.put (h : GR w bx qv x m n y m2 n2 sx sy W) (hx : bx ≠ x ∧ bx ≠ m ∧ bx ≠ n) (hy : bx ≠ y ∧ bx ≠ m2 ∧ bx ≠ n2) (hbx : w.heap.size ≤ bx) (q2 : Value) : GR w bx q2 x m n y m2 n2 sx sy (W.setCell ⟨bx, 0, none⟩ q2) :=
  ⟨h.ix.far hx q2, h.iy.far hy q2, h.box.put 0 q2, h.below.setCell hbx _⟩
/-- Both, and their clones. -/
structure G4 (w : World) (bx : Nat) (qv : Value) (x m n y m2 n2 u mu nu v mv nv : Nat) (sx sy su sv : Option B) (W : World) : Prop where
  ix : Idx W x m n sx.isSome sx
  iy : Idx W y m2 n2 sy.isSome sy
  iu : Idx W u mu nu su.isSome su
  iv : Idx W v mv nv sv.isSome sv
  box : Blk W bx 51 #[qv]
  below : Below w.heap.size w W
theorem G4.step (h : G4 w bx qv x m n y m2 n2 u mu nu v mv nv sx sy su sv W) (hb : Below W.heap.size W W') : G4 w bx qv x m n y m2 n2 u mu nu v mv nv sx sy su sv W' :=
  ⟨h.ix.below hb, h.iy.below hb, h.iu.below hb, h.iv.below hb, h.box.keptB hb, chain' h.below hb⟩
theorem G4.joinu (h : G4 w bx qv x m n y m2 n2 u mu nu v mv nv sx sy su sv W) (ax : Apart mu nu x m n) (ay : Apart mu nu y m2 n2) (av : Apart mu nu v mv nv) (hm : w.heap.size ≤ mu) (hn : w.heap.size ≤ nu) (i : Idx W' u mu nu (joinSt su sy).isSome (joinSt su sy)) (k : Kept mu nu W W') :
    G4 w bx qv x m n y m2 n2 u mu nu v mv nv sx sy (joinSt su sy) sv W' :=
  ⟨h.ix.keptA ax k (h.iu.blk_ne h.ix.at_), h.iy.keptA ay k (h.iu.blk_ne h.iy.at_), i, h.iv.keptA av k (h.iu.blk_ne h.iv.at_), h.box.keptK k (h.iu.blk_ne h.box).1 (h.iu.blk_ne h.box).2, k.base h.below (Nat.le_refl _) hm hn⟩
theorem G4.joinv (h : G4 w bx qv x m n y m2 n2 u mu nu v mv nv sx sy su sv W) (ax : Apart mv nv x m n) (ay : Apart mv nv y m2 n2) (au : Apart mv nv u mu nu) (hm : w.heap.size ≤ mv) (hn : w.heap.size ≤ nv) (i : Idx W' v mv nv (joinSt sv sx).isSome (joinSt sv sx)) (k : Kept mv nv W W') :
    G4 w bx qv x m n y m2 n2 u mu nu v mv nv sx sy su (joinSt sv sx) W' :=
  ⟨h.ix.keptA ax k (h.iv.blk_ne h.ix.at_), h.iy.keptA ay k (h.iv.blk_ne h.iy.at_), h.iu.keptA au k (h.iv.blk_ne h.iu.at_), i, h.box.keptK k (h.iv.blk_ne h.box).1 (h.iv.blk_ne h.box).2, k.base h.below (Nat.le_refl _) hm hn⟩
end
/-- Nodes in a row, or none. -/
def QIs (w : World) (qa : Option Addr) (l : List NodeV) : Prop := l = [] ∨ ∃ g o, qa = some ⟨g, o, none⟩ ∧ Nodes w g o l
def HIs (w : World) (aa : Option Addr) (hs : List ByteArray) : Prop := hs = [] ∨ ∃ a, aa = some a ∧ ∀ (i : Nat) t, hs[i]? = some t → w.cell? (a.add i) = some (.string t) ∧ t.size ≤ 140737488351232
theorem HIs.get {w : World} {aa : Option Addr} {hs : List ByteArray} (h : HIs w aa hs) {i : Nat} (hi : i < hs.length) : ∃ a t, aa = some a ∧ hs.getD i ⟨#[]⟩ = t ∧ w.cell? (a.add i) = some (.string t) ∧ t.size ≤ 140737488351232 := by
  rcases h with rfl | ⟨a, rfl, h⟩
  · exact absurd hi (Nat.not_lt_zero _)
  · obtain ⟨h1, h2⟩ := h i _ (List.getElem?_eq_getElem hi)
    exact ⟨a, _, rfl, by simp [List.getD, List.getElem?_eq_getElem hi], h1, h2⟩
theorem QIs.get {w : World} {qa : Option Addr} {l : List NodeV} (h : QIs w qa l) {i : Nat} (hi : i < l.length) : ∃ g o, qa = some ⟨g, o, none⟩ ∧ Nodes w g o l := by
  rcases h with rfl | h
  · exact absurd hi (Nat.not_lt_zero _)
  · exact h
theorem QIs.take {w : World} {qa : Option Addr} {l : List NodeV} (h : QIs w qa l) (k : Nat) : QIs w qa (l.take k) := by
  rcases h with rfl | ⟨g, o, rfl, h⟩
  · exact .inl (by simp)
  · refine .inr ⟨g, o, rfl, fun i d hi => h i d ?_⟩
    rw [List.getElem?_take] at hi
    split at hi
    · exact hi
    · cases hi
end Go.Proofs.Ytlddpcbbhglibaa
