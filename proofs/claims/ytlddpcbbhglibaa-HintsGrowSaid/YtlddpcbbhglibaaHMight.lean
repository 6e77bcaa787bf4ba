/- What may be of nodes, plainly; nodes in memory; the walk of Might. -/
import Derived.Test.YtlddpcbbhglibaaHJoin2
import Derived.BigQuiet
import Derived.Laws.MakeOwn
import Derived.Deep.MidRow
namespace Go.Proofs.Ytlddpcbbhglibaa
open Go.RowKit Bits BigFrame
open Go.ChangeMaps (setBlock)
set_option maxHeartbeats 4000000

structure NodeV where
  kd : Int
  nm : ByteArray
  how : Int
  fr : Int
  to_ : Int
  vk : Int
  vn : Int
  vs : ByteArray
  hs : Fin 8 → Int
  la : Option Addr
  ll : Nat
  lc : Nat
  na : Option Addr
  nl : Nat
  nc : Nat
  aa : Option Addr
  al : Nat
  ac : Nat
  two : Option (Int × Int)
def NodeV.cells (d : NodeV) : Array Value := nodeA d.kd d.nm d.how d.fr d.to_ d.vk d.vn d.vs d.hs (.slice d.la d.ll d.lc) (.slice d.na d.nl d.nc) (.slice d.aa d.al d.ac)
/-- What a node's row of places reads as: two numbers, or of another length. -/
def RowIs (W : World) (a : Option Addr) (len cap : Nat) (two : Option (Int × Int)) : Prop := match two with
  | none => len ≠ 2
  | some (p, q) => ∃ (g o : Nat), a = some ⟨g, o, none⟩ ∧ len = 2 ∧ 2 ≤ cap ∧ W.cell? ⟨g, o, none⟩ = some (.int .i64 p) ∧ W.cell? ⟨g, o + 1, none⟩ = some (.int .i64 q) ∧ (-9223372036854775808 ≤ p ∧ p ≤ 9223372036854775807) ∧ (-9223372036854775808 ≤ q ∧ q ≤ 9223372036854775807)
def Nodes (W : World) (g o : Nat) (l : List NodeV) : Prop := ∀ (i : Nat) (d : NodeV), l[i]? = some d → (∀ (j : Nat) v, d.cells[j]? = some v → W.cell? ⟨g, o + i * 19 + j, none⟩ = some v) ∧ RowIs W d.la d.ll d.lc d.two ∧ d.vs.size ≤ 140737488351232
theorem keepv {W w1 : World} {a : Addr} {v : Value} (hb : Below W.heap.size W w1) (h : W.cell? a = some v) : w1.cell? a = some v :=
  (hb.cell (p := a) (World.block_lt_of_cell? W _ h)).trans h
theorem RowIs.below {W W' : World} {a : Option Addr} {len cap : Nat} {two : Option (Int × Int)} (h : RowIs W a len cap two) (hb : Below W.heap.size W W') : RowIs W' a len cap two := by
  match two, h with
  | none, h => exact h
  | some (p, q), ⟨g, o, h1, h0, h2, h3, h4, h5⟩ => exact ⟨g, o, h1, h0, h2, keepv hb h3, keepv hb h4, h5⟩
theorem Nodes.below {W W' : World} {g o : Nat} {l : List NodeV} (h : Nodes W g o l) (hb : Below W.heap.size W W') : Nodes W' g o l :=
  fun i d hi => ⟨fun j v hj => keepv hb ((h i d hi).1 j v hj), (h i d hi).2.1.below hb, (h i d hi).2.2⟩

theorem Nodes.at {W : World} {g o i : Nat} {l : List NodeV} {d : NodeV} (h : Nodes W g o l) (hd : l[i]? = some d) : W.cell? ⟨g, o + i * 19, none⟩ = some (.int .i64 d.kd) ∧ W.cell? ⟨g, o + i * 19 + 1, none⟩ = some (.string d.nm) ∧ W.cell? ⟨g, o + i * 19 + 2, none⟩ = some (.int .i64 d.how) ∧ W.cell? ⟨g, o + i * 19 + 3, none⟩ = some (.int .i64 d.fr) ∧ W.cell? ⟨g, o + i * 19 + 4, none⟩ = some (.int .i64 d.to_) ∧ W.cell? ⟨g, o + i * 19 + 5, none⟩ = some (.int .i64 d.vk) ∧ W.cell? ⟨g, o + i * 19 + 6, none⟩ = some (.int .i64 d.vn) ∧ W.cell? ⟨g, o + i * 19 + 7, none⟩ = some (.string d.vs) ∧ W.cell? ⟨g, o + i * 19 + 8, none⟩ = some (.int .i64 (d.hs 0)) ∧ W.cell? ⟨g, o + i * 19 + 9, none⟩ = some (.int .i64 (d.hs 1)) ∧ W.cell? ⟨g, o + i * 19 + 10, none⟩ = some (.int .i64 (d.hs 2)) ∧ W.cell? ⟨g, o + i * 19 + 11, none⟩ = some (.int .i64 (d.hs 3)) ∧ W.cell? ⟨g, o + i * 19 + 12, none⟩ = some (.int .i64 (d.hs 4)) ∧ W.cell? ⟨g, o + i * 19 + 13, none⟩ = some (.int .i64 (d.hs 5)) ∧ W.cell? ⟨g, o + i * 19 + 14, none⟩ = some (.int .i64 (d.hs 6)) ∧ W.cell? ⟨g, o + i * 19 + 15, none⟩ = some (.int .i64 (d.hs 7)) ∧ W.cell? ⟨g, o + i * 19 + 16, none⟩ = some (.slice d.la d.ll d.lc) ∧ W.cell? ⟨g, o + i * 19 + 17, none⟩ = some (.slice d.na d.nl d.nc) ∧ W.cell? ⟨g, o + i * 19 + 18, none⟩ = some (.slice d.aa d.al d.ac) :=
  ⟨(h i d hd).1 0 _ rfl, (h i d hd).1 1 _ rfl, (h i d hd).1 2 _ rfl, (h i d hd).1 3 _ rfl, (h i d hd).1 4 _ rfl, (h i d hd).1 5 _ rfl, (h i d hd).1 6 _ rfl, (h i d hd).1 7 _ rfl, (h i d hd).1 8 _ rfl, (h i d hd).1 9 _ rfl, (h i d hd).1 10 _ rfl, (h i d hd).1 11 _ rfl, (h i d hd).1 12 _ rfl, (h i d hd).1 13 _ rfl, (h i d hd).1 14 _ rfl, (h i d hd).1 15 _ rfl, (h i d hd).1 16 _ rfl, (h i d hd).1 17 _ rfl, (h i d hd).1 18 _ rfl⟩

def twoOk (two : Option (Int × Int)) (k : Nat) : Option (Nat × Nat) := match two with
  | some (p, q) => if 0 ≤ p ∧ 0 ≤ q ∧ p < (k : Int) ∧ q < (k : Int) then some (p.toNat, q.toNat) else none
  | none => none
def mayOne (st : Option B) (may : List Bool) (d : NodeV) (k : Nat) : Bool :=
  if d.kd = 11 ∧ (twoOk d.two k).isSome then may.getD ((twoOk d.two k).getD (0, 0)).1 false && may.getD ((twoOk d.two k).getD (0, 0)).2 false
  else if d.kd = 12 ∧ (twoOk d.two k).isSome then may.getD ((twoOk d.two k).getD (0, 0)).1 false || may.getD ((twoOk d.two k).getD (0, 0)).2 false
  else if d.kd = 14 ∧ d.how = 1 ∧ d.vk = 2 then withinB (wB d.vs) (bitsAt st load d.nm)
  else if d.kd = 15 then withinB (ofB d.vs) (bitsAt st load d.nm)
  else true
def mayTo (st : Option B) (l : List NodeV) : Nat → List Bool
  | 0 => []
  | k + 1 => mayTo st l k ++ [match l[k]? with | some d => mayOne st (mayTo st l k) d k | none => false]
theorem mayTo_len (st : Option B) (l : List NodeV) (k : Nat) : (mayTo st l k).length = k := by
  induction k with
  | zero => rfl
  | succ k ih => simp [mayTo, ih]
def mightS (st : Option B) (l : List NodeV) (i : Int) : Bool :=
  if st.isNone then false else if i < 0 ∨ (l.length : Int) ≤ i then true else (mayTo st l (i.toNat + 1)).getD i.toNat false

/-- The row of answers, as far as it is. -/
def mayA (st : Option B) (l : List NodeV) (k n : Nat) : Array Value := ((mayTo st l k).map Value.bool ++ List.replicate (n - k) (Value.bool false)).toArray
theorem mayA_size (st : Option B) (l : List NodeV) (k n : Nat) (h : k ≤ n) : (mayA st l k n).size = n := by
  simp [mayA, mayTo_len]; omega
theorem mayA_get (st : Option B) (l : List NodeV) {k n i : Nat} (hi : i < k) : (mayA st l k n)[i]? = some (.bool ((mayTo st l k).getD i false)) := by
  have hl : i < (mayTo st l k).length := by rw [mayTo_len]; exact hi
  unfold mayA
  rw [List.getElem?_toArray, List.getElem?_append_left (by rw [List.length_map]; exact hl), List.getElem?_map, List.getElem?_eq_getElem hl]
  simp [List.getD, hl]
theorem mayA_free (st : Option B) (l : List NodeV) {k n : Nat} (h : k < n) : (mayA st l k n)[k]? = some (.bool false) := by
  unfold mayA
  rw [List.getElem?_toArray, List.getElem?_append_right (by rw [List.length_map, mayTo_len]; exact Nat.le_refl _), List.length_map, mayTo_len, Nat.sub_self, List.getElem?_replicate, if_pos (by omega)]
theorem mayA_put (st : Option B) (l : List NodeV) {k n : Nat} (h : k < n) {d : NodeV} (hd : l[k]? = some d) : (mayA st l k n).setIfInBounds k (.bool (mayOne st (mayTo st l k) d k)) = mayA st l (k + 1) n := by
  unfold mayA
  apply Array.ext'
  have e : (mayTo st l k).length = k := mayTo_len st l k
  have hr : List.replicate (n - k) (Value.bool false) = Value.bool false :: List.replicate (n - (k + 1)) (Value.bool false) := by
    rw [show n - k = (n - (k + 1)) + 1 by omega, List.replicate_succ]
  simp only [Array.toList_setIfInBounds, mayTo, hd, List.map_append, List.map_cons, List.map_nil, List.append_assoc, List.cons_append, List.nil_append]
  rw [hr, List.set_append_right _ _ (by rw [List.length_map, e]; exact Nat.le_refl _)]
  simp [e]
theorem made_false (st : Option B) (l : List NodeV) (n : Nat) : madeCells #[Value.bool false] n = mayA st l 0 n := by
  unfold mayA
  apply Array.ext'
  simp only [madeCells, mayTo, List.map_nil, List.nil_append, Nat.sub_zero, Array.toList_map, Array.toList_range]
  refine List.eq_replicate_iff.2 ⟨by simp, fun b hb => ?_⟩
  obtain ⟨i, _, rfl⟩ := List.mem_map.1 hb
  have : i % (#[Value.bool false] : Array Value).size = 0 := Nat.mod_one i
  rw [this]
  rfl

theorem below_setCells {base b : Nat} {w : World} (hb : base ≤ b) : ∀ (vs : List Value) (o : Nat) (W : World), Below base w W → Below base w (W.setCells b o vs) := by
  intro vs
  induction vs with
  | nil => intro o W h; exact h
  | cons v r ih => intro o W h; exact ih (o + 1) _ (h.setCell hb v)
def zeroNode : Array Value := nodeA 0 ⟨#[]⟩ 0 0 0 0 0 ⟨#[]⟩ (fun _ => 0) (.slice none 0 0) (.slice none 0 0) (.slice none 0 0)
theorem NodeV.size (d : NodeV) : d.cells.size = 19 := rfl
theorem NodeV.one (d : NodeV) : ∀ v ∈ d.cells.toList, v.oneCell' = true := by
  intro v hv
  simp only [NodeV.cells, nodeA, List.mem_cons, List.mem_nil_iff, or_false] at hv
  rcases hv with rfl | rfl | rfl | rfl | rfl | rfl | rfl | rfl | rfl | rfl | rfl | rfl | rfl | rfl | rfl | rfl | rfl | rfl | rfl <;> rfl
theorem size60 : (Try.prog.info? 60).map (·.size) = some 19 := by kernel_rfl
theorem row60 : (Try.prog.underlying 60).map (·.isRow) = some true := by kernel_rfl
theorem node_there (W : World) : (W.alloc (.cells zeroNode 60)).there W.heap.size 0 19 := fun j hj => by
  have hb := Blk.new W 60 zeroNode
  rw [Nat.zero_add]
  refine ⟨?_, hb.free j⟩
  rw [hb.cell j]
  have : j < zeroNode.size := hj
  simp [this]
theorem node_run (W : World) (cs : List Value) (h : cs.length = 19) (hone : ∀ v ∈ cs, v.oneCell' = true) : (storeCells ⟨W.heap.size, 0, none⟩ cs).run Try.prog (W.alloc (.cells zeroNode 60)) = .ok () ((W.alloc (.cells zeroNode 60)).setCells W.heap.size 0 cs) := by
  have ht := node_there W
  rw [← h] at ht
  have := run_storeCells_cells (P := Try.prog) W.heap.size 0 cs 0 (W.alloc (.cells zeroNode 60)) (fun j hj => by simpa using (ht j hj).1) (fun j hj => by simp) hone
  simpa only [Nat.add_zero] using this
theorem node_stored (W : World) (cs : List Value) (h : cs.length = 19) : ∃ W2, W2 = (W.alloc (.cells zeroNode 60)).setCells W.heap.size 0 cs ∧ W2.rangeAt W.heap.size 0 cs ∧ Below W.heap.size W W2 :=
  ⟨_, rfl, World.rangeAt_setCells_same _ _ _ _ (by rw [h]; exact node_there W), below_setCells (Nat.le_refl _) _ _ _ ((Below.refl _ _).alloc (Nat.le_refl _) _)⟩

theorem node_cells {W : World} {nb : Nat} {d : NodeV} (h : W.rangeAt nb 0 d.cells.toList) : W.cell? ⟨nb, 0, none⟩ = some (.int .i64 d.kd) ∧ W.cell? ⟨nb, 1, none⟩ = some (.string d.nm) ∧ W.cell? ⟨nb, 2, none⟩ = some (.int .i64 d.how) ∧
    W.cell? ⟨nb, 5, none⟩ = some (.int .i64 d.vk) ∧ W.cell? ⟨nb, 7, none⟩ = some (.string d.vs) ∧ W.cell? ⟨nb, 16, none⟩ = some (.slice d.la d.ll d.lc) :=
  ⟨h 0 _ rfl, h 1 _ rfl, h 2 _ rfl, h 5 _ rfl, h 7 _ rfl, h 16 _ rfl⟩
structure MK (w : World) (st : Option B) (l : List NodeV) (mb k len : Nat) (W : World) : Prop where
  row : Blk W mb 4 (mayA st l k len)
  below : Below w.heap.size w W
theorem MK.step {w W W' : World} {st : Option B} {l : List NodeV} {mb k len : Nat} (h : MK w st l mb k len W) (hb : Below W.heap.size W W') : MK w st l mb k len W' :=
  ⟨h.row.keptB hb, chain' h.below hb⟩
theorem MK.put {w W : World} {st : Option B} {l : List NodeV} {mb k len : Nat} {d : NodeV} {v : Bool} (h : MK w st l mb k len W) (hk : k < len) (hd : l[k]? = some d) (hv : v = mayOne st (mayTo st l k) d k) (hmb : w.heap.size ≤ mb) :
    MK w st l mb (k + 1) len (W.setCell ⟨mb, k, none⟩ (.bool v)) := by
  subst hv
  have := h.row.put k (.bool (mayOne st (mayTo st l k) d k))
  rw [mayA_put st l hk hd] at this
  exact ⟨this, h.below.setCell hmb _⟩
structure CK (w : World) (x m n : Nat) (b : B) (l : List NodeV) (mb k len nb : Nat) (d : NodeV) (W : World) : Prop where
  mkr : MK w (some b) l mb k len W
  idx : Idx W x m n true (some b)
  vs : W.cell? ⟨nb, 7, none⟩ = some (.string d.vs)
  nm : W.cell? ⟨nb, 1, none⟩ = some (.string d.nm)
theorem CK.below {w W W' : World} {x m n : Nat} {b : B} {l : List NodeV} {mb k len nb : Nat} {d : NodeV} (h : CK w x m n b l mb k len nb d W) (hb : Below W.heap.size W W') : CK w x m n b l mb k len nb d W' :=
  ⟨h.mkr.step hb, h.idx.below hb, keepv hb h.vs, keepv hb h.nm⟩
theorem MK.slot {w W : World} {st : Option B} {l : List NodeV} {mb k len : Nat} (h : MK w st l mb k len W) (hk : k < len) : W.cell? ⟨mb, k, none⟩ = some (.bool false) ∧ W.frozen? ⟨mb, k, none⟩ = false :=
  ⟨by rw [h.row.cell k, mayA_free st l hk], h.row.free k⟩
theorem MK.got {w W : World} {st : Option B} {l : List NodeV} {mb k len i : Nat} (h : MK w st l mb k len W) (hi : i < k) : W.cell? ⟨mb, i, none⟩ = some (.bool ((mayTo st l k).getD i false)) := by
  rw [h.row.cell i, mayA_get st l hi]
theorem two_some {two : Option (Int × Int)} {k : Nat} (h : (twoOk two k).isSome = true) : ∃ P Q : Nat, two = some ((P : Int), (Q : Int)) ∧ P < k ∧ Q < k ∧ twoOk two k = some (P, Q) := by
  match two, h with
  | none, h => cases h
  | some (p, q), h =>
    unfold twoOk at h ⊢
    dsimp only at h ⊢
    by_cases hc : 0 ≤ p ∧ 0 ≤ q ∧ p < (k : Int) ∧ q < (k : Int)
    · rw [if_pos hc] at h ⊢
      exact ⟨p.toNat, q.toNat, by rw [Int.toNat_of_nonneg hc.1, Int.toNat_of_nonneg hc.2.1], by omega, by omega, rfl⟩
    · rw [if_neg hc] at h
      cases h

theorem info4 : (Try.prog.info? 4).map (fun i => (i.zero, i.size, i.bytes)) = some (some (.bool false), 1, 1) := by kernel_rfl
set_option maxRecDepth 100000 in
theorem might_loop {w : World} {x m n : Nat} {b : B} {g o cap : Nat} {l : List NodeV} {i : Nat} (hi : Idx w x m n true (some b)) (hl : Nodes w g o l) (h0 : i < l.length) (hcap : l.length ≤ cap) (hc : l.length ≤ 140737488355328) :
    Calls Try.prog 28 #[.pointer (some ⟨x, 0, none⟩), .string load, .agg #[.slice (some ⟨g, o, none⟩) l.length cap], .int .i64 (i : Int)] w fun e w' => e = .returned (.bool ((mayTo (some b) l (i + 1)).getD i false)) ∧ Below w.heap.size w w' := by
  have c0 : w.cell? ⟨x, 0, none⟩ = some (.map (some m)) := hi.at_.cell 0
  obtain ⟨W1, hW1⟩ : ∃ W1, W1 = w.alloc (.cells #[.slice (some ⟨g, o, none⟩) l.length cap] 51) := ⟨_, rfl⟩
  have hb1 : Below w.heap.size w W1 := by rw [hW1]; exact (Below.refl _ _).alloc (Nat.le_refl _) _
  have c1 : W1.cell? ⟨w.heap.size, 0, none⟩ = some (.slice (some ⟨g, o, none⟩) l.length cap) := by rw [hW1]; exact (Blk.new w 51 #[.slice (some ⟨g, o, none⟩) l.length cap]).cell 0
  have hls := look_seen (hi.below hb1).seen load
  rw [ll, Bool.and_true] at hls
  have c0' := keepv hb1 c0
  have hi1 := hi.below hb1
  have HN := Lib.hid hl
  have HX := Lib.hid hi
  clear hi hl c0
  have q1 : ¬ ((i : Int) < 0) := by omega
  have q2 : decide ((i : Int) < 0) = false := decide_eq_false q1
  have q3 : ¬ ((l.length : Int) ≤ (i : Int)) := by omega
  have q4 : decide ((l.length : Int) ≤ (i : Int)) = false := decide_eq_false q3
  have q5 : decide (l.length ≤ i) = false := decide_eq_false (by omega)
  have ht77 : Try.prog.underlying 77 = some (.slice 4) := by kernel_rfl
  obtain ⟨i0, hi0, hz0, hz1, hz2⟩ := info_parts info4
  have hmk := run_make W1 77 4 i0 (.bool false) ht77 hi0 hz0 .i64 .i64 ((i : Int) + 1) ((i : Int) + 1) (by omega) (Int.le_refl _) (by rw [hz2]; omega) (by omega)
  rw [hz1, show ((i : Int) + 1).toNat = i + 1 by omega, Nat.mul_one, show (Value.bool false).cells = #[Value.bool false] from rfl, made_false (some b) l] at hmk
  have v1 : IntKind.i64.wrap ((i : Int) + 1) = (i : Int) + 1 := IntWalk.i64_in _ (by omega)
  have s0 : (0 : Int) ≤ (i : Int) + 1 := by omega
  have s1 : (i : Int) + 1 ≤ (cap : Int) := by omega
  have s2 : ((i : Int) + 1).toNat = i + 1 := by omega
  subst hW1
  go_enter Try.func28, Try.ntmps28
  go_wp2_with fail
  have H0 := Lib.hid (show MK w (some b) l (w.heap.size + 1) 0 (i + 1) ((w.alloc (.cells #[.slice (some ⟨g, o, none⟩) l.length cap] 51)).alloc (.cells (mayA (some b) l 0 (i + 1)) 4)) from by
    have hb2 := (Below.refl (w.alloc (.cells #[.slice (some ⟨g, o, none⟩) l.length cap] 51)).heap.size (w.alloc (.cells #[.slice (some ⟨g, o, none⟩) l.length cap] 51))).alloc (Nat.le_refl _) (.cells (mayA (some b) l 0 (i + 1)) 4)
    have hrow := Blk.new (w.alloc (.cells #[.slice (some ⟨g, o, none⟩) l.length cap] 51)) 4 (mayA (some b) l 0 (i + 1))
    rw [World.size_alloc] at hrow
    exact ⟨hrow, chain' hb1 hb2⟩)
  clear hi1 c0' c1 hls hmk hb1
  go_loopg [40] (i + 3) (fun gk c wr => ∃ k : Nat, k ≤ i + 1 ∧ i + 1 < k + gk ∧ c = .int .i64 (k : Int) ∧ MK w (some b) l (w.heap.size + 1) k (i + 1) wr)
  case atStart => exact ⟨0, by omega, by omega, rfl, H0.out⟩
  case round =>
    obtain ⟨k, hk, hgk, rfl, hM⟩ := hrel
    clear H0
    by_cases hki : k ≤ i
    · obtain ⟨d, hd⟩ : ∃ d, l[k]? = some d := ⟨l[k]'(by omega), List.getElem?_eq_getElem (by omega)⟩
      have hNr := HN.out.below hM.below
      obtain ⟨_, _, hvs⟩ := hNr k d hd
      have HMB := hM.row.lt
      obtain ⟨cs, hcs⟩ : ∃ cs, cs = d.cells.toList := ⟨_, rfl⟩
      have hcl : cs.length = 19 := by rw [hcs]; rfl
      have hrange : wr.rangeAt g (o + k * 19) cs := fun j v hj => (hNr k d hd).1 j v (by rw [hcs] at hj; simpa using hj)
      have hone : ∀ v ∈ cs, v.oneCell' = true := by rw [hcs]; exact d.one
      obtain ⟨t60, ht60, hr60⟩ : ∃ t, Try.prog.underlying 60 = some t ∧ t.isRow = true := by
        have := row60
        cases h : Try.prog.underlying 60 with
        | none => rw [h] at this; cases this
        | some t => exact ⟨t, rfl, by rw [h] at this; simpa using this⟩
      have hi60 : (Try.prog.info? 60).map (·.size) = some cs.length := by rw [hcl]; exact size60
      obtain ⟨W2, hW2, hrange2, hbelow⟩ := node_stored wr cs hcl
      have hsr := node_run wr cs hcl hone
      rw [← hW2] at hsr
      unfold zeroNode nodeA at hsr
      have HCS := Lib.hid hcs
      have HM := Lib.hid (hM.step hbelow)
      have HD := Lib.hid hd
      have HR := Lib.hid hrange
      have HU := Lib.hid ht60
      have HI := Lib.hid hi60
      have HO := Lib.hid hone
      have HR2 := Lib.hid hrange2
      clear hcs hM hd hrange ht60 hi60 hone hW2 hrange2 hbelow
      have k1 : (k : Int) < (i : Int) + 1 := by omega
      have k2 : decide ((k : Int) < (i : Int) + 1) = true := decide_eq_true k1
      have k3 : decide (k < i + 1) = true := decide_eq_true (by omega)
      have k4 : k < i + 1 := by omega
      have k5 : (0 : Int) ≤ (k : Int) := by omega
      go_wp2_with (refine wpList_load_mid rfl 60 (Operand.tmp 43) rfl g (o + k * 19) rfl cs t60 HR.out HU.out hr60 HI.out ?_)
      go_wp2_with fail
      obtain ⟨n0, n1, n2, n5, n7, n16⟩ := node_cells (d := d) (by rw [← HCS.out]; exact HR2.out)
      have hmbne : w.heap.size + 1 ≠ wr.heap.size := Nat.ne_of_lt HMB
      have hrow2 := ((HN.out.below HM.out.below) k d HD.out).2.1
      have HCL := Lib.hid hcl
      have HNS := Lib.hid hNr
      obtain ⟨tw, htw⟩ : ∃ tw, tw = (twoOk d.two k).isSome := ⟨_, rfl⟩
      clear hsr hcl hNr
      go_cut [12] (fun s12 wx => s12 = .bool tw ∧ ∃ j, wx = W2.drewN j)
      case first =>
        match htwo : d.two, hrow2 with
        | none, hrow2 =>
          have l2 : ((d.ll : Int) == 2) = false := by rw [beq_eq_false_iff_ne]; intro e; exact hrow2 (by omega)
          rw [htwo] at htw
          have htw' : tw = false := htw
          subst htw'
          clear htwo hrow2 htw
          go_big_quiet (fail)
          go_wp2_with fail
          go_meet
          exact ⟨rfl, _, rfl⟩
        | some (p, q), ⟨g', o', ha, hl2, hcap2, p0, q0, hp, hq⟩ =>
          rw [ha, hl2] at n16
          rw [htwo] at htw
          have htw' : tw = decide (0 ≤ p ∧ 0 ≤ q ∧ p < (k : Int) ∧ q < (k : Int)) := by
            rw [htw]
            unfold twoOk
            dsimp only
            by_cases hc : 0 ≤ p ∧ 0 ≤ q ∧ p < (k : Int) ∧ q < (k : Int)
            · rw [if_pos hc, decide_eq_true hc]; rfl
            · rw [if_neg hc, decide_eq_false hc]; rfl
          have HTW := Lib.hid htw'
          clear htwo htw htw' ha hl2
          by_cases h1 : q < p
          · have o1 : decide (q < p) = true := decide_eq_true h1
            have o2 : ¬ p < q := by omega
            have o3 : decide (p < q) = false := decide_eq_false o2
            clear hp hq
            by_cases hB : 0 ≤ q
            · have b1 : decide (0 ≤ q) = true := decide_eq_true hB
              by_cases hC : p < (k : Int)
              · have c1 : decide (p < (k : Int)) = true := decide_eq_true hC
                have ht : tw = true := by rw [HTW.out, decide_eq_true (by omega)]
                subst ht
                go_big_quiet (fail)
                go_wp2_with fail
                go_meet
                exact ⟨rfl, _, rfl⟩
              · have c1 : decide (p < (k : Int)) = false := decide_eq_false hC
                have ht : tw = false := by rw [HTW.out, decide_eq_false (by omega)]
                subst ht
                go_big_quiet (fail)
                go_wp2_with fail
                go_meet
                exact ⟨rfl, _, rfl⟩
            · have b1 : decide (0 ≤ q) = false := decide_eq_false hB
              have ht : tw = false := by rw [HTW.out, decide_eq_false (by omega)]
              subst ht
              go_big_quiet (fail)
              go_wp2_with fail
              go_meet
              exact ⟨rfl, _, rfl⟩
          · have o1 : decide (q < p) = false := decide_eq_false h1
            by_cases h2 : p < q
            · have o3 : decide (p < q) = true := decide_eq_true h2
              clear hp hq
              by_cases hB : 0 ≤ p
              · have b1 : decide (0 ≤ p) = true := decide_eq_true hB
                by_cases hC : q < (k : Int)
                · have c1 : decide (q < (k : Int)) = true := decide_eq_true hC
                  have ht : tw = true := by rw [HTW.out, decide_eq_true (by omega)]
                  subst ht
                  go_big_quiet (fail)
                  go_wp2_with fail
                  go_meet
                  exact ⟨rfl, _, rfl⟩
                · have c1 : decide (q < (k : Int)) = false := decide_eq_false hC
                  have ht : tw = false := by rw [HTW.out, decide_eq_false (by omega)]
                  subst ht
                  go_big_quiet (fail)
                  go_wp2_with fail
                  go_meet
                  exact ⟨rfl, _, rfl⟩
              · have b1 : decide (0 ≤ p) = false := decide_eq_false hB
                have ht : tw = false := by rw [HTW.out, decide_eq_false (by omega)]
                subst ht
                go_big_quiet (fail)
                go_wp2_with fail
                go_meet
                exact ⟨rfl, _, rfl⟩
            · have h3 : p = q := by omega
              subst h3
              clear hp hq
              by_cases hB : 0 ≤ p
              · have b1 : decide (0 ≤ p) = true := decide_eq_true hB
                by_cases hC : p < (k : Int)
                · have c1 : decide (p < (k : Int)) = true := decide_eq_true hC
                  have ht : tw = true := by rw [HTW.out, decide_eq_true (by omega)]
                  subst ht
                  go_big_quiet (fail)
                  go_wp2_with fail
                  go_meet
                  exact ⟨rfl, _, rfl⟩
                · have c1 : decide (p < (k : Int)) = false := decide_eq_false hC
                  have ht : tw = false := by rw [HTW.out, decide_eq_false (by omega)]
                  subst ht
                  go_big_quiet (fail)
                  go_wp2_with fail
                  go_meet
                  exact ⟨rfl, _, rfl⟩
              · have b1 : decide (0 ≤ p) = false := decide_eq_false hB
                have ht : tw = false := by rw [HTW.out, decide_eq_false (by omega)]
                subst ht
                go_big_quiet (fail)
                go_wp2_with fail
                go_meet
                exact ⟨rfl, _, rfl⟩
      case rest =>
        obtain ⟨rfl, j, hW3⟩ := hcut
        have hM3 : MK w (some b) l (w.heap.size + 1) k (i + 1) wc := by rw [hW3]; exact HM.out.step (below_drewN (Below.refl _ _) j)
        have m0 : wc.cell? ⟨wr.heap.size, 0, none⟩ = some (.int .i64 d.kd) := by rw [hW3]; exact n0
        have m1 : wc.cell? ⟨wr.heap.size, 1, none⟩ = some (.string d.nm) := by rw [hW3]; exact n1
        have m2 : wc.cell? ⟨wr.heap.size, 2, none⟩ = some (.int .i64 d.how) := by rw [hW3]; exact n2
        have m5 : wc.cell? ⟨wr.heap.size, 5, none⟩ = some (.int .i64 d.vk) := by rw [hW3]; exact n5
        have m7 : wc.cell? ⟨wr.heap.size, 7, none⟩ = some (.string d.vs) := by rw [hW3]; exact n7
        have m16 : wc.cell? ⟨wr.heap.size, 16, none⟩ = some (.slice d.la d.ll d.lc) := by rw [hW3]; exact n16
        have hrow3 : RowIs wc d.la d.ll d.lc d.two := by rw [hW3]; exact hrow2.below (below_drewN (Below.refl _ _) j)
        have hne0 : w.heap.size + 1 ≠ wr.heap.size := hmbne
        obtain ⟨rk, fk⟩ := hM3.slot k4
        clear hW3 n0 n1 n2 n5 n7 n16 hrow2 hmbne
        by_cases hA : d.kd = 11 ∧ tw = true
        · obtain ⟨hkd, htt⟩ := hA
          have htrue : (twoOk d.two k).isSome = true := by rw [← htw]; exact htt
          subst htt
          obtain ⟨P, Q, hpq, hP, hQ, hok⟩ := two_some htrue
          rw [hpq] at hrow3
          obtain ⟨g', o', ha, hl2, hcap2, p0, q0, hp, hq⟩ := hrow3
          rw [ha, hl2] at m16
          have rP := hM3.got hP
          have rQ := hM3.got hQ
          obtain ⟨bp, hbp⟩ : ∃ bp, bp = (mayTo (some b) l k).getD P false := ⟨_, rfl⟩
          obtain ⟨bq, hbq⟩ : ∃ bq, bq = (mayTo (some b) l k).getD Q false := ⟨_, rfl⟩
          rw [← hbp] at rP
          rw [← hbq] at rQ
          have HV := Lib.hid (show (bp && bq) = mayOne (some b) (mayTo (some b) l k) d k by
            unfold mayOne
            rw [hok]
            simp [hkd, hbp, hbq])
          have P1 : (0 : Int) ≤ (P : Int) := by omega
          have P2 : (P : Int) < (i : Int) + 1 := by omega
          have P3 : P < i + 1 := by omega
          have Q1 : (0 : Int) ≤ (Q : Int) := by omega
          have Q2 : (Q : Int) < (i : Int) + 1 := by omega
          have Q3 : Q < i + 1 := by omega
          have g11 : (d.kd == 11) = true := by rw [hkd]; rfl
          have HM3 := Lib.hid hM3
          clear hpq hok ha hl2 hp hq hbp hbq hM3 htw htrue hkd hP hQ
          cases bp
          · go_wp2_with fail
            go_roundg (i + 1 - k)
            case measure => omega
            case rel => exact ⟨k + 1, by omega, by omega, by go_num, HM3.out.put (by omega) HD.out (by rw [← HV.out]; simp) (by omega)⟩
          · go_wp2_with fail
            go_roundg (i + 1 - k)
            case measure => omega
            case rel => exact ⟨k + 1, by omega, by omega, by go_num, HM3.out.put (by omega) HD.out (by rw [← HV.out]; simp) (by omega)⟩
        · by_cases hB : d.kd = 12 ∧ tw = true
          · obtain ⟨hkd, htt⟩ := hB
            have htrue : (twoOk d.two k).isSome = true := by rw [← htw]; exact htt
            subst htt
            obtain ⟨P, Q, hpq, hP, hQ, hok⟩ := two_some htrue
            rw [hpq] at hrow3
            obtain ⟨g', o', ha, hl2, hcap2, p0, q0, hp, hq⟩ := hrow3
            rw [ha, hl2] at m16
            have rP := hM3.got hP
            have rQ := hM3.got hQ
            obtain ⟨bp, hbp⟩ : ∃ bp, bp = (mayTo (some b) l k).getD P false := ⟨_, rfl⟩
            obtain ⟨bq, hbq⟩ : ∃ bq, bq = (mayTo (some b) l k).getD Q false := ⟨_, rfl⟩
            rw [← hbp] at rP
            rw [← hbq] at rQ
            have HV := Lib.hid (show (bp || bq) = mayOne (some b) (mayTo (some b) l k) d k by
              unfold mayOne
              rw [hok]
              simp [hkd, hbp, hbq])
            have P1 : (0 : Int) ≤ (P : Int) := by omega
            have P2 : (P : Int) < (i : Int) + 1 := by omega
            have P3 : P < i + 1 := by omega
            have Q1 : (0 : Int) ≤ (Q : Int) := by omega
            have Q2 : (Q : Int) < (i : Int) + 1 := by omega
            have Q3 : Q < i + 1 := by omega
            have g11 : (d.kd == 11) = false := by rw [hkd]; rfl
            have g12 : (d.kd == 12) = true := by rw [hkd]; rfl
            have HM3 := Lib.hid hM3
            clear hpq hok ha hl2 hp hq hbp hbq hM3 htw htrue hkd hP hQ
            cases bp
            · go_wp2_with fail
              go_roundg (i + 1 - k)
              case measure => omega
              case rel => exact ⟨k + 1, by omega, by omega, by go_num, HM3.out.put (by omega) HD.out (by rw [← HV.out]; simp) (by omega)⟩
            · go_wp2_with fail
              go_roundg (i + 1 - k)
              case measure => omega
              case rel => exact ⟨k + 1, by omega, by omega, by go_num, HM3.out.put (by omega) HD.out (by rw [← HV.out]; simp) (by omega)⟩
          · clear hrow3 m16
            have hkk : True := trivial
            by_cases hC : d.kd = 14 ∧ d.how = 1 ∧ d.vk = 2
            · obtain ⟨hkd, hhow, hvk⟩ := hC
              have g11 : (d.kd == 11) = false := by rw [hkd]; rfl
              have g12 : (d.kd == 12) = false := by rw [hkd]; rfl
              have g14 : (d.kd == 14) = true := by rw [hkd]; rfl
              have gh : (d.how == 1) = true := by rw [hhow]; rfl
              have gv : (d.vk == 2) = true := by rw [hvk]; rfl
              have hwh := whole_any d.vs hvs
              have hbi : ∀ W, CK w x m n b l (w.heap.size + 1) k (i + 1) wr.heap.size d W → Calls Try.prog 32 #[.pointer (some ⟨x, 0, none⟩), .string load, .string d.nm] W fun e w' => e = .returned (bitsV (bitsAt (some b) load d.nm)) ∧ Below W.heap.size W w' := fun W hW => bits_any hW.idx load d.nm
              have hwi := within_any (ofB (wholeS d.vs)) (bitsAt (some b) load d.nm) (wf_ofB _) (wf_at HX.out.wf _ _)
              have HV := Lib.hid (show withinB (ofB (wholeS d.vs)) (bitsAt (some b) load d.nm) = mayOne (some b) (mayTo (some b) l k) d k by
                unfold mayOne
                simp [hkd, hhow, hvk, wB])
              obtain ⟨A, hA⟩ : ∃ A, A = ofB (wholeS d.vs) := ⟨_, rfl⟩
              obtain ⟨K, hK⟩ : ∃ K, K = bitsAt (some b) load d.nm := ⟨_, rfl⟩
              rw [← hA] at hwh hwi HV
              rw [← hK] at hbi hwi HV
              rw [bitsV_eq A] at hwh
              rw [bitsV_eq K] at hbi
              rw [bitsV_eq A, bitsV_eq K] at hwi
              have HWH := Lib.hid hwh
              have HBI := Lib.hid hbi
              have HWI := Lib.hid hwi
              have hk3 : CK w x m n b l (w.heap.size + 1) k (i + 1) wr.heap.size d wc.drew := ⟨hM3.step (Below.refl _ _).drew, (HX.out.below hM3.below).below (Below.refl _ _).drew, m7, m1⟩
              have hne := hne0
              clear hwh hbi hwi hA hK htw hkk hM3
              go_wp2_with fail
              go_region_held3 (fun w' => w'.cell? ⟨wr.heap.size, 7, none⟩ = some (.string d.vs) ∧ w'.cell? ⟨wr.heap.size, 1, none⟩ = some (.string d.nm))
                (go_keep)
                (first
                  | (go_at_call 19; (with_reducible refine (HWH.out _).mono ?_); rintro e w1 ⟨rfl, hb1⟩; have hk3 := CK.below (by assumption) hb1; have c7 := hk3.vs; have c1 := hk3.nm; clear hb1)
                  | (go_at_call 32; (with_reducible refine (HBI.out _ (by assumption)).mono ?_); rintro e w1 ⟨rfl, hb1⟩; have hk3 := CK.below (by assumption) hb1; have c7 := hk3.vs; have c1 := hk3.nm; clear hb1)
                  | (go_at_call 13; (with_reducible refine (HWI.out _).mono ?_); rintro e w1 ⟨rfl, hb1⟩; have hk3 := CK.below (by assumption) hb1; have c7 := hk3.vs; have c1 := hk3.nm; have HM5 := Lib.hid hk3.mkr; have hs := hk3.mkr.slot (by omega); clear hb1))
              all_goals go_wp2_with fail
              all_goals go_roundg (i + 1 - k)
              all_goals first | omega | exact ⟨k + 1, by omega, by omega, by go_num, HM5.out.put (by omega) HD.out HV.out (by omega)⟩
            · by_cases hD15 : d.kd = 15
              · have g11 : (d.kd == 11) = false := by rw [hD15]; rfl
                have g12 : (d.kd == 12) = false := by rw [hD15]; rfl
                have g14 : (d.kd == 14) = false := by rw [hD15]; rfl
                have g15 : (d.kd == 15) = true := by rw [hD15]; rfl
                have hwh := of_any d.vs (Nat.le_trans hvs (by decide))
                have hbi : ∀ W, CK w x m n b l (w.heap.size + 1) k (i + 1) wr.heap.size d W → Calls Try.prog 32 #[.pointer (some ⟨x, 0, none⟩), .string load, .string d.nm] W fun e w' => e = .returned (bitsV (bitsAt (some b) load d.nm)) ∧ Below W.heap.size W w' := fun W hW => bits_any hW.idx load d.nm
                have hwi := within_any (ofB d.vs) (bitsAt (some b) load d.nm) (wf_ofB _) (wf_at HX.out.wf _ _)
                have HV := Lib.hid (show withinB (ofB d.vs) (bitsAt (some b) load d.nm) = mayOne (some b) (mayTo (some b) l k) d k by
                  unfold mayOne
                  simp [hD15])
                obtain ⟨A, hA⟩ : ∃ A, A = ofB d.vs := ⟨_, rfl⟩
                obtain ⟨K, hK⟩ : ∃ K, K = bitsAt (some b) load d.nm := ⟨_, rfl⟩
                rw [← hA] at hwh hwi HV
                rw [← hK] at hbi hwi HV
                rw [bitsV_eq A] at hwh
                rw [bitsV_eq K] at hbi
                rw [bitsV_eq A, bitsV_eq K] at hwi
                have HWH := Lib.hid hwh
                have HBI := Lib.hid hbi
                have HWI := Lib.hid hwi
                have hk3 : CK w x m n b l (w.heap.size + 1) k (i + 1) wr.heap.size d wc.drew := ⟨hM3.step (Below.refl _ _).drew, (HX.out.below hM3.below).below (Below.refl _ _).drew, m7, m1⟩
                have hne := hne0
                clear hwh hbi hwi hA hK htw hkk hM3
                go_wp2_with fail
                go_region_held3 (fun w' => w'.cell? ⟨wr.heap.size, 7, none⟩ = some (.string d.vs) ∧ w'.cell? ⟨wr.heap.size, 1, none⟩ = some (.string d.nm))
                  (go_keep)
                  (first
                    | (go_at_call 17; (with_reducible refine (HWH.out _).mono ?_); rintro e w1 ⟨rfl, hb1⟩; have hk3 := CK.below (by assumption) hb1; have c7 := hk3.vs; have c1 := hk3.nm; clear hb1)
                    | (go_at_call 32; (with_reducible refine (HBI.out _ (by assumption)).mono ?_); rintro e w1 ⟨rfl, hb1⟩; have hk3 := CK.below (by assumption) hb1; have c7 := hk3.vs; have c1 := hk3.nm; clear hb1)
                    | (go_at_call 13; (with_reducible refine (HWI.out _).mono ?_); rintro e w1 ⟨rfl, hb1⟩; have hk3 := CK.below (by assumption) hb1; have c7 := hk3.vs; have c1 := hk3.nm; have HM5 := Lib.hid hk3.mkr; have hs := hk3.mkr.slot (by omega); clear hb1))
                all_goals go_wp2_with fail
                all_goals go_roundg (i + 1 - k)
                all_goals first | omega | exact ⟨k + 1, by omega, by omega, by go_num, HM5.out.put (by omega) HD.out HV.out (by omega)⟩
              · skip
                have n15 : d.kd ≠ 15 := hD15
                by_cases k11 : d.kd = 11
                · have ht : tw = false := by
                    cases h : tw
                    · rfl
                    · exact absurd ⟨k11, h⟩ hA
                  subst ht
                  have g11 : (d.kd == 11) = true := by rw [k11]; rfl
                  have g12 : (d.kd == 12) = false := by rw [beq_eq_false_iff_ne]; omega
                  have g14 : (d.kd == 14) = false := by rw [beq_eq_false_iff_ne]; omega
                  have g15 : (d.kd == 15) = false := by rw [beq_eq_false_iff_ne]; omega
                  have HV := Lib.hid (show true = mayOne (some b) (mayTo (some b) l k) d k by
                    unfold mayOne
                    simp [k11, ← htw])
                  have HM3 := Lib.hid hM3
                  clear hM3 htw hkk k11 n15 hA hB hC hD15
                  go_wp2_with fail
                  go_roundg (i + 1 - k)
                  case measure => omega
                  case rel => exact ⟨k + 1, by omega, by omega, by go_num, HM3.out.put (by omega) HD.out HV.out (by omega)⟩
                · by_cases k12 : d.kd = 12
                  · have ht : tw = false := by
                      cases h : tw
                      · rfl
                      · exact absurd ⟨k12, h⟩ hB
                    subst ht
                    have g11 : (d.kd == 11) = false := by rw [beq_eq_false_iff_ne]; omega
                    have g12 : (d.kd == 12) = true := by rw [k12]; rfl
                    have g14 : (d.kd == 14) = false := by rw [beq_eq_false_iff_ne]; omega
                    have g15 : (d.kd == 15) = false := by rw [beq_eq_false_iff_ne]; omega
                    have HV := Lib.hid (show true = mayOne (some b) (mayTo (some b) l k) d k by
                      unfold mayOne
                      simp [k12, ← htw])
                    have HM3 := Lib.hid hM3
                    clear hM3 htw hkk k11 k12 n15 hA hB hC hD15
                    go_wp2_with fail
                    go_roundg (i + 1 - k)
                    case measure => omega
                    case rel => exact ⟨k + 1, by omega, by omega, by go_num, HM3.out.put (by omega) HD.out HV.out (by omega)⟩
                  · by_cases k14 : d.kd = 14
                    · by_cases kh : d.how = 1
                      · have kv : d.vk ≠ 2 := fun e => hC ⟨k14, kh, e⟩
                        have g11 : (d.kd == 11) = false := by rw [beq_eq_false_iff_ne]; omega
                        have g12 : (d.kd == 12) = false := by rw [beq_eq_false_iff_ne]; omega
                        have g14 : (d.kd == 14) = true := by rw [k14]; rfl
                        have g15 : (d.kd == 15) = false := by rw [beq_eq_false_iff_ne]; omega
                        have gh : (d.how == 1) = true := by rw [kh]; rfl
                        have gv : (d.vk == 2) = false := by rw [beq_eq_false_iff_ne]; exact kv
                        have HV := Lib.hid (show true = mayOne (some b) (mayTo (some b) l k) d k by
                          unfold mayOne
                          simp [k14, kh, kv])
                        have HM3 := Lib.hid hM3
                        clear hM3 htw hkk k11 k12 k14 kh kv n15 hA hB hC hD15
                        go_wp2_with fail
                        go_roundg (i + 1 - k)
                        case measure => omega
                        case rel => exact ⟨k + 1, by omega, by omega, by go_num, HM3.out.put (by omega) HD.out HV.out (by omega)⟩
                      · skip
                        have g11 : (d.kd == 11) = false := by rw [beq_eq_false_iff_ne]; omega
                        have g12 : (d.kd == 12) = false := by rw [beq_eq_false_iff_ne]; omega
                        have g14 : (d.kd == 14) = true := by rw [k14]; rfl
                        have g15 : (d.kd == 15) = false := by rw [beq_eq_false_iff_ne]; omega
                        have gh : (d.how == 1) = false := by rw [beq_eq_false_iff_ne]; exact kh
                        have HV := Lib.hid (show true = mayOne (some b) (mayTo (some b) l k) d k by
                          unfold mayOne
                          simp [k14, kh])
                        have HM3 := Lib.hid hM3
                        clear hM3 htw hkk k11 k12 k14 kh n15 hA hB hC hD15
                        go_wp2_with fail
                        go_roundg (i + 1 - k)
                        case measure => omega
                        case rel => exact ⟨k + 1, by omega, by omega, by go_num, HM3.out.put (by omega) HD.out HV.out (by omega)⟩
                    · skip
                      have g11 : (d.kd == 11) = false := by rw [beq_eq_false_iff_ne]; omega
                      have g12 : (d.kd == 12) = false := by rw [beq_eq_false_iff_ne]; omega
                      have g14 : (d.kd == 14) = false := by rw [beq_eq_false_iff_ne]; omega
                      have g15 : (d.kd == 15) = false := by rw [beq_eq_false_iff_ne]; omega
                      have HV := Lib.hid (show true = mayOne (some b) (mayTo (some b) l k) d k by
                        unfold mayOne
                        simp [k11, k12, k14, n15])
                      have HM3 := Lib.hid hM3
                      clear hM3 htw hkk k11 k12 k14 n15 hA hB hC hD15
                      go_wp2_with fail
                      go_roundg (i + 1 - k)
                      case measure => omega
                      case rel => exact ⟨k + 1, by omega, by omega, by go_num, HM3.out.put (by omega) HD.out HV.out (by omega)⟩
    · have hke : k = i + 1 := by omega
      subst hke
      have hg := hM.got (Nat.lt_succ_self i)
      have HB := Lib.hid hM.below
      obtain ⟨v, hv⟩ : ∃ v, v = (mayTo (some b) l (i + 1)).getD i false := ⟨_, rfl⟩
      rw [← hv] at hg
      have HV := Lib.hid hv
      clear hv hM hk hgk
      have z1 : (0 : Int) ≤ (i : Int) := by omega
      have z2 : (i : Int) < (i : Int) + 1 := by omega
      go_wp2_with fail
      exact bodyPost_ret (results_tmp rfl _ _ _) rfl ⟨by rw [← HV.out]; rfl, HB.out⟩
end Go.Proofs.Ytlddpcbbhglibaa
