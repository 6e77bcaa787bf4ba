/- A reader in memory: its tokens, its nodes; what a call of it turns. -/
import Derived.Test.YtlonkcmkgmbkcaaDoorParS
import Derived.Test.YtlonkcmkgmbkcaaDoorLexF
namespace Go.Proofs.YtlonkcmkgmbkcaaDoor
open Go.RowKit LexS ParS
set_option maxHeartbeats 2000000
set_option linter.unusedVariables false

abbrev BA (l : Bytes) : ByteArray := ⟨l.toArray⟩
/-- A node, and its three rows. -/
structure NodeM where
  node : Nd
  lv : Value
  nv : Value
  av : Value
def NodeM.cells (m : NodeM) : List Value := [.int .i64 (m.node.kind : Int), .string (BA m.node.s), .int .i64 m.node.n, .int .i64 m.node.from_, .int .i64 m.node.to_, .int .i64 (m.node.v.kind : Int), .int .i64 m.node.v.n, .string (BA m.node.v.s),
  .int .i64 0, .int .i64 0, .int .i64 0, .int .i64 0, .int .i64 0, .int .i64 0, .int .i64 0, .int .i64 0, m.lv, m.nv, m.av]
def intsL (l : List Nat) : List Value := l.map fun (i : Nat) => .int .i64 (i : Int)
def strsL (l : List Bytes) : List Value := l.map fun s => .string (BA s)
def aggsL (l : List (Nat × Bytes)) : List Value := l.flatMap fun a => [.int .i64 (a.1 : Int), .string (BA a.2)]
structure MOk (W : World) (base : Nat) (m : NodeM) : Prop where
  l : W.ownsRow base 3 1 m.lv m.node.l.length (intsL m.node.l)
  names : W.ownsRow base 9 1 m.nv m.node.names.length (strsL m.node.names)
  aggs : W.ownsRow base 72 2 m.av m.node.aggs.length (aggsL m.node.aggs)
def cellsM (ms : List NodeM) : List Value := ms.flatMap NodeM.cells
def NS (W : World) (base : Nat) (v : Value) (ns : List Nd) : Prop := ∃ ms : List NodeM, ms.map (·.node) = ns ∧ W.ownsRow base 48 19 v ns.length (cellsM ms) ∧ ∀ m ∈ ms, MOk W base m

/-- What a call of a reader at r turns: the reader, its row of nodes; all else is as it was. -/
structure Stp (r : Nat) (nv : Value) (W : World) (nv' : Value) (W' : World) : Prop where
  os : W'.os = W.os
  tape : W'.tape = W.tape
  output : W'.output = W.output
  size : W.heap.size ≤ W'.heap.size
  block : ∀ i, i < W.heap.size → i ≠ r → nv.ownBlock ≠ some i → W'.heap[i]? = W.heap[i]?
  own : ∀ k, nv'.ownBlock = some k → nv.ownBlock = some k ∨ W.heap.size ≤ k
section
variable {r base : Nat} {nv nv' nv'' : Value} {W W' W'' : World}
theorem Stp.of (h : Below W.heap.size W W') : Stp r nv W nv W' := ⟨h.os, h.tape, h.output, h.size, fun i hi _ _ => h.block i hi, fun k hk => .inl hk⟩
theorem Stp.refl (r : Nat) (nv : Value) (W : World) : Stp r nv W nv W := Stp.of (Below.refl _ _)
theorem Stp.trans (h : Stp r nv W nv' W') (k : Stp r nv' W' nv'' W'') : Stp r nv W nv'' W'' :=
  ⟨k.os.trans h.os, k.tape.trans h.tape, k.output.trans h.output, Nat.le_trans h.size k.size, fun i hi h1 h2 => by
    rw [k.block i (Nat.lt_of_lt_of_le hi h.size) h1 (fun e => by
      rcases h.own i e with e' | e'
      · exact h2 e'
      · omega)]
    exact h.block i hi h1 h2, fun i hi => by
    rcases k.own i hi with e | e
    · exact h.own i e
    · exact .inr (Nat.le_trans h.size e)⟩
theorem Stp.below (h : Stp r nv W nv' W') (hr : base ≤ r) (hn : ∀ k, nv.ownBlock = some k → base ≤ k) (hb : base ≤ W.heap.size) : Below base W W' :=
  ⟨h.os, h.tape, h.output, h.size, fun i hi => h.block i (by omega) (by omega) (fun e => by have := hn i e; omega)⟩
theorem Stp.blk {g : Nat} {t : TypeId} {cs : Array Value} (h : Stp r nv W nv' W') (hb : Blk W g t cs) (h1 : g ≠ r) (h2 : nv.ownBlock ≠ some g) : Blk W' g t cs := (h.block g hb.lt h1 h2).trans hb
theorem Stp.set (h : Stp r nv W nv' W') (i : Nat) (u : Value) : Stp r nv W nv' (W'.setCell ⟨r, i, none⟩ u) :=
  ⟨h.os, h.tape, h.output, by simpa [World.setCell] using h.size, fun j hj h1 h2 => by
    rw [← h.block j hj h1 h2]
    simp only [World.setCell, Array.getElem?_modify]
    rw [if_neg (fun e => h1 e.symm)], h.own⟩
theorem Stp.drew (h : Stp r nv W nv' W') : Stp r nv W nv' W'.drew := ⟨h.os, h.tape, h.output, h.size, h.block, h.own⟩
/-- A row of another type than the reader's and the nodes' stands. -/
theorem row_block {e : TypeId} {size n : Nat} {v : Value} {xs : List Value} (h : W.ownsRow base e size v n xs) {k : Nat} (hk : v.ownBlock = some k) : ∃ cur, W.heap[k]? = some (.cells cur e (0, 0)) := by
  rcases h.2 with ⟨rfl, _⟩ | ⟨g, cap, cur, rfl, _, h4, _⟩
  · cases hk
  · injection hk with hk
    subst hk
    exact ⟨cur, h4⟩
theorem row_stp {b2 : Nat} {e : TypeId} {size n : Nat} {v : Value} {xs : List Value} (h : W.ownsRow b2 e size v n xs) (s : Stp r nv W nv' W') (hr : ∀ k, v.ownBlock = some k → k ≠ r ∧ nv.ownBlock ≠ some k) : W'.ownsRow b2 e size v n xs := by
  refine ⟨h.1, ?_⟩
  rcases h.2 with h2 | ⟨g, cap, cur, rfl, h3, h4, h5⟩
  · exact .inl h2
  · obtain ⟨e1, e2⟩ := hr g rfl
    exact .inr ⟨g, cap, cur, rfl, h3, (s.block g (Array.getElem?_eq_some_iff.1 h4).1 e1 e2).trans h4, h5⟩
theorem block_types {k : Nat} {c1 c2 : Array Value} {t1 t2 : TypeId} (h1 : W.heap[k]? = some (.cells c1 t1 (0, 0))) (h2 : W.heap[k]? = some (.cells c2 t2 (0, 0))) : t1 = t2 := by
  rw [h1] at h2
  injection h2 with h2
  injection h2
end

/-- The reader lies at r: tokens T, of which ts are left; nodes ns. -/
structure RS (base r : Nat) (tv : Value) (T : List Tok) (deep : Nat) (ts : List Tk) (ns : List Nd) (nv : Value) (W : World) : Prop where
  box : Blk W r 76 #[tv, .int .i64 ((T.length - ts.length : Nat) : Int), .int .i64 (deep : Int), nv]
  le : base ≤ r
  toks : W.ownsRow 0 32 4 tv T.length (toksL T)
  suf : ts = (T.map tk).drop (T.length - ts.length)
  short : ts.length ≤ T.length
  few : T.length ≤ 1024
  nodes : NS W base nv ns
section
variable {base r deep : Nat} {tv nv nv' : Value} {T : List Tok} {ts ts1 : List Tk} {ns : List Nd} {W W' : World}
theorem NS.block (h : NS W base nv ns) {k : Nat} (hk : nv.ownBlock = some k) : base ≤ k ∧ ∃ cur, W.heap[k]? = some (.cells cur 48 (0, 0)) := by
  obtain ⟨ms, _, ho, _⟩ := h
  exact ⟨(ho.lt k hk).1, row_block ho hk⟩
theorem RS.r_ne (h : RS base r tv T deep ts ns nv W) : nv.ownBlock ≠ some r := by
  intro e
  obtain ⟨_, cur, hc⟩ := h.nodes.block e
  have := block_types hc h.box
  cases this
/-- A row of numbers, names .. stands behind a call of the reader. -/
theorem RS.row {b2 size n : Nat} {e : TypeId} {v : Value} {xs : List Value} (h : RS base r tv T deep ts ns nv W) (s : Stp r nv W nv' W') (ho : W.ownsRow b2 e size v n xs) (h1 : e ≠ 76) (h2 : e ≠ 48) : W'.ownsRow b2 e size v n xs := by
  refine row_stp ho s fun k hk => ?_
  obtain ⟨cur, hc⟩ := row_block ho hk
  refine ⟨fun e1 => ?_, fun e1 => ?_⟩
  · subst e1
    exact h1 (block_types hc h.box)
  · obtain ⟨_, cur2, hc2⟩ := h.nodes.block e1
    exact h2 (block_types hc hc2)
theorem MOk.row {m : NodeM} (hm : MOk W base m) (h : RS base r tv T deep ts ns nv W) (s : Stp r nv W nv' W') : MOk W' base m :=
  ⟨h.row s hm.l (by decide) (by decide), h.row s hm.names (by decide) (by decide), h.row s hm.aggs (by decide) (by decide)⟩
theorem MOk.kept {m : NodeM} (hm : MOk W base m) (hb : Below W.heap.size W W') : MOk W' base m := ⟨own_kept hm.l hb, own_kept hm.names hb, own_kept hm.aggs hb⟩
theorem NS.kept (h : NS W base nv ns) (hb : Below W.heap.size W W') : NS W' base nv ns := by
  obtain ⟨ms, h1, h2, h3⟩ := h
  exact ⟨ms, h1, own_kept h2 hb, fun m hm => (h3 m hm).kept hb⟩
theorem RS.kept (h : RS base r tv T deep ts ns nv W) (hb : Below W.heap.size W W') : RS base r tv T deep ts ns nv W' :=
  ⟨h.box.kept hb, h.le, own_kept h.toks hb, h.suf, h.short, h.few, h.nodes.kept hb⟩
/-- The reader's own cells are written. -/
theorem RS.put (h : RS base r tv T deep ts ns nv W) (i : Nat) (u : Value) {cs : Array Value} (hc : cs = (#[tv, .int .i64 ((T.length - ts.length : Nat) : Int), .int .i64 (deep : Int), nv] : Array Value).setIfInBounds i u) :
    Blk (W.setCell ⟨r, i, none⟩ u) r 76 cs ∧ (W.setCell ⟨r, i, none⟩ u).ownsRow 0 32 4 tv T.length (toksL T) ∧ NS (W.setCell ⟨r, i, none⟩ u) base nv ns := by
  have s : Stp r nv W nv (W.setCell ⟨r, i, none⟩ u) := (Stp.refl r nv W).set i u
  refine ⟨by rw [hc]; exact h.box.put i u, h.row s h.toks (by decide) (by decide), ?_⟩
  obtain ⟨ms, h1, h2, h3⟩ := h.nodes
  refine ⟨ms, h1, ?_, fun m hm => (h3 m hm).row h s⟩
  refine ⟨h2.1, ?_⟩
  rcases h2.2 with h4 | ⟨g, cap, cur, rfl, h5, h6, h7⟩
  · exact .inl h4
  · refine .inr ⟨g, cap, cur, rfl, h5, ?_, h7⟩
    rw [← h6]
    simp only [World.setCell, Array.getElem?_modify]
    rw [if_neg (fun e => h.r_ne (by rw [e]; rfl))]
/-- One token further. -/
theorem RS.next (h : RS base r tv T deep ts ns nv W) {t : Tk} (ht : ts = t :: ts1) {a : Int} (ha : a = ((T.length - ts.length : Nat) : Int) + 1) : RS base r tv T deep ts1 ns nv (W.setCell ⟨r, 1, none⟩ (.int .i64 a)) := by
  have hs := h.short
  rw [ht, List.length_cons] at hs
  have e1 : T.length - ts1.length = T.length - ts.length + 1 := by rw [ht, List.length_cons]; omega
  obtain ⟨h1, h2, h3⟩ := h.put 1 (.int .i64 a) (cs := #[tv, .int .i64 ((T.length - ts1.length : Nat) : Int), .int .i64 (deep : Int), nv]) (by
    rw [ha, e1]
    simp)
  refine ⟨h1, h.le, h2, ?_, by omega, h.few, h3⟩
  rw [e1, ← List.drop_drop, ← h.suf, ht]
  rfl
theorem RS.deeper (h : RS base r tv T deep ts ns nv W) {d2 : Nat} {a : Int} (ha : a = (d2 : Int)) : RS base r tv T d2 ts ns nv (W.setCell ⟨r, 2, none⟩ (.int .i64 a)) := by
  obtain ⟨h1, h2, h3⟩ := h.put 2 (.int .i64 a) (cs := #[tv, .int .i64 ((T.length - ts.length : Nat) : Int), .int .i64 (d2 : Int), nv]) (by rw [ha]; simp)
  exact ⟨h1, h.le, h2, h.suf, h.short, h.few, h3⟩
end
/-- A call that turns the reader alone. -/
abbrev Mv (r : Nat) (W W' : World) : Prop := Stp r (.slice none 0 0) W (.slice none 0 0) W'
section
variable {base r deep d2 : Nat} {tv nv : Value} {T : List Tok} {ts ts1 : List Tk} {ns : List Nd} {W W' : World}
theorem Mv.stp (h : Mv r W W') (nv : Value) : Stp r nv W nv W' := ⟨h.os, h.tape, h.output, h.size, fun i hi h1 _ => h.block i hi h1 (fun e => by cases e), fun k hk => .inl hk⟩
theorem Mv.far (h : Mv r W W') {b : Nat} (hb : W.heap.size ≤ b) (i : Nat) (u : Value) : Mv r W (W'.setCell ⟨b, i, none⟩ u) :=
  ⟨h.os, h.tape, h.output, by simpa [World.setCell] using h.size, fun j hj h1 h2 => by
    rw [← h.block j hj h1 h2]
    simp only [World.setCell, Array.getElem?_modify]
    rw [if_neg (by omega)], fun k hk => by cases hk⟩
theorem row_mv {b2 size n : Nat} {e : TypeId} {v : Value} {xs : List Value} (ho : W.ownsRow b2 e size v n xs) (m : Mv r W W') (h : v.ownBlock ≠ some r) : W'.ownsRow b2 e size v n xs :=
  row_stp ho m fun k hk => ⟨fun e => h (by rw [hk, e]), fun e => by cases e⟩
/-- The reader behind such a call, from what it was. -/
theorem RS.again (h : RS base r tv T deep ts ns nv W) (m : Mv r W W') (hb : Blk W' r 76 #[tv, .int .i64 ((T.length - ts1.length : Nat) : Int), .int .i64 (d2 : Int), nv]) (hs : ts1 = (T.map tk).drop (T.length - ts1.length)) (hl : ts1.length ≤ T.length) : RS base r tv T d2 ts1 ns nv W' := by
  have s := m.stp nv
  obtain ⟨ms, h1, h2, h3⟩ := h.nodes
  exact ⟨hb, h.le, h.row s h.toks (by decide) (by decide), hs, hl, h.few, ms, h1, row_mv h2 m h.r_ne, fun x hx => (h3 x hx).row h s⟩
theorem drop_more {T : List Tk} {n : Nat} {ts ts1 : List Tk} (hs : ts = T.drop n) (h : ∃ l, ts = l ++ ts1) (hn : n + ts.length = T.length) : ts1 = T.drop (T.length - ts1.length) ∧ ts1.length ≤ T.length := by
  obtain ⟨l, hl⟩ := h
  have h1 : ts.length = l.length + ts1.length := by rw [hl, List.length_append]
  refine ⟨?_, by omega⟩
  rw [show T.length - ts1.length = n + l.length by omega, ← List.drop_drop, ← hs, hl]
  simp
/-- A store into a box of the call's own. -/
theorem RS.far {b : Nat} {t : TypeId} {cs : Array Value} (h : RS base r tv T deep ts ns nv W) (hb : Blk W b t cs) (h1 : t ≠ 3 ∧ t ≠ 9 ∧ t ≠ 72 ∧ t ≠ 32) (hn : nv.ownBlock ≠ some b) (hr : b ≠ r) (i : Nat) (u : Value) : RS base r tv T deep ts ns nv (W.setCell ⟨b, i, none⟩ u) := by
  have row : ∀ {b2 size n : Nat} {e : TypeId} {v : Value} {xs : List Value}, W.ownsRow b2 e size v n xs → (e ≠ t ∨ v.ownBlock ≠ some b) → (W.setCell ⟨b, i, none⟩ u).ownsRow b2 e size v n xs := by
    intro b2 size n e v xs ho hne
    refine ⟨ho.1, ?_⟩
    rcases ho.2 with h4 | ⟨g, cap, cur, rfl, h5, h6, h7⟩
    · exact .inl h4
    · refine .inr ⟨g, cap, cur, rfl, h5, ?_, h7⟩
      rw [← h6]
      simp only [World.setCell, Array.getElem?_modify]
      rw [if_neg (fun e1 => by
        rcases hne with hne | hne
        · rw [← e1] at h6
          exact hne (block_types h6 hb)
        · exact hne (by rw [e1]; rfl))]
  obtain ⟨ms, k1, k2, k3⟩ := h.nodes
  exact ⟨h.box.far (Ne.symm hr) _, h.le, row h.toks (.inl (Ne.symm h1.2.2.2)), h.suf, h.short, h.few, ms, k1, row k2 (.inr hn), fun m hm => ⟨row (k3 m hm).l (.inl (Ne.symm h1.1)), row (k3 m hm).names (.inl (Ne.symm h1.2.1)), row (k3 m hm).aggs (.inl (Ne.symm h1.2.2.1))⟩⟩
end
theorem cell?_setCell_ne {w : World} {g o g' o' : Nat} {v : Value} (h : g ≠ g') : (w.setCell ⟨g', o', none⟩ v).cell? ⟨g, o, none⟩ = w.cell? ⟨g, o, none⟩ := World.cell?_of_block (Below.heap_setCell w ⟨g', o', none⟩ v g h)
theorem cell_drewN_new (w : World) (n i : Nat) (cs : Array Value) (t : TypeId) : ((w.drewN n).alloc (.cells cs t)).cell? ⟨w.heap.size, i, none⟩ = cs[i]? := (Blk.new (w.drewN n) t cs).cell i
theorem free_drewN_new (w : World) (n i : Nat) (cs : Array Value) (t : TypeId) : ((w.drewN n).alloc (.cells cs t)).frozen? ⟨w.heap.size, i, none⟩ = false := (Blk.new (w.drewN n) t cs).free i
theorem cell_drew_new (w : World) (i : Nat) (cs : Array Value) (t : TypeId) : (w.drew.alloc (.cells cs t)).cell? ⟨w.heap.size, i, none⟩ = cs[i]? := (Blk.new w.drew t cs).cell i
theorem free_drew_new (w : World) (i : Nat) (cs : Array Value) (t : TypeId) : (w.drew.alloc (.cells cs t)).frozen? ⟨w.heap.size, i, none⟩ = false := (Blk.new w.drew t cs).free i
theorem below_box4 (w : World) (n : Nat) (cs : Array Value) (t : TypeId) (a b c d : Value) : Below w.heap.size w ((((((w.drewN n).alloc (.cells cs t)).setCell ⟨w.heap.size, 0, none⟩ a).setCell ⟨w.heap.size, 1, none⟩ b).setCell ⟨w.heap.size, 2, none⟩ c).setCell ⟨w.heap.size, 3, none⟩ d) :=
  (((((below_drewN (Below.refl _ _) n).alloc (Nat.le_refl _) _).setCell (Nat.le_refl _) _).setCell (Nat.le_refl _) _).setCell (Nat.le_refl _) _).setCell (Nat.le_refl _) _
/-- The token at hand. -/
theorem tok_at {T : List Tok} {ts ts1 : List Tk} {t : Tk} (hs : ts = (T.map tk).drop (T.length - ts.length)) (hl : ts.length ≤ T.length) (ht : ts = t :: ts1) : ∃ u, T[T.length - ts.length]? = some u ∧ tk u = t ∧ T.length - ts.length < T.length := by
  have h0 : 0 < ts.length := by rw [ht]; simp
  have hlt : T.length - ts.length < T.length := by omega
  refine ⟨T[T.length - ts.length], List.getElem?_eq_getElem hlt, ?_, hlt⟩
  have : (T.map tk)[T.length - ts.length]? = some t := by
    have h1 : ((T.map tk).drop (T.length - ts.length))[0]? = some t := by rw [← hs, ht]; rfl
    rwa [List.getElem?_drop, Nat.add_zero] at h1
  rw [List.getElem?_map, List.getElem?_eq_getElem hlt] at this
  simpa using this
end Go.Proofs.YtlonkcmkgmbkcaaDoor
