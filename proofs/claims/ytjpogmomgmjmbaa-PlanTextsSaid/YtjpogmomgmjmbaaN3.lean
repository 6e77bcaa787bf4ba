/- The walk of lex.Lex: a text is cut as the plain lexer cuts it. A reader in memory: its tokens, its nodes; what a call of it turns. What a row of tokens is in memory. A row of tokens in memory, whether it is empty or not; a world that draws. The walks of package parse's reader: is, sees, fail, wants, take, word, number. The walks of package parse's reader: take that fails, word, number, choice. A region whose last operation waits for all others: the others in whatever order, then that one. The walk of package parse's lay: a node behind the others. -/
import Derived.Test.YtjpogmomgmjmbaaN2
import Derived.OwnWalk
import Derived.Laws.AppendOwn
import Derived.ArgAppend
import Derived.Test.YtjpogmomgmjmbaaN1
import Derived.Deep.RegionLaw
import Derived.OrdersHeld
import Derived.Deep.RegionHeld
import Derived.Deep.AppendLies
import Derived.Deep.MidRow
/-! The walk of lex.Lex: a text is cut as the plain lexer cuts it. -/
namespace Go.Proofs.Ytjpogmomgmjmbaa
open Go.RowKit LexS
set_option maxHeartbeats 2000000

def toksL (l : List Tok) : List Value := l.flatMap fun t => (tokA t).toList
theorem toksL_app (l : List Tok) (t : Tok) : toksL l ++ (tokA t).toList = toksL (l ++ [t]) := by simp [toksL]
theorem own_kept {W W1 : World} {base : Nat} {e : TypeId} {size : Nat} {v : Value} {n : Nat} {xs : List Value} (h : W.ownsRow base e size v n xs) (hb : Below W.heap.size W W1) : W1.ownsRow base e size v n xs := by
  refine ⟨h.1, ?_⟩
  rcases h.2 with h2 | ⟨g, cap, cur, h2, h3, h4, h5⟩
  · exact .inl h2
  · exact .inr ⟨g, cap, cur, h2, h3, (hb.block g (Array.getElem?_eq_some_iff.1 h4).1).trans h4, h5⟩
theorem tok_info : (Try.prog.info? 52).map (fun i => (i.zero, i.size, i.bytes)) = some (some (.agg #[.int .i64 0, .string ⟨#[]⟩, .int .i64 0, .int .i64 0]), 4, 40) := by kernel_rfl
def LexRes (x : List Tok × Nat × Nat) (w : World) (e : Ending) (w' : World) : Prop :=
  ∃ v, e = .returned (.tuple #[v, .int .i64 (x.2.1 : Int), .int .i64 (x.2.2 : Int)]) ∧ w'.ownsRow w.heap.size 52 4 v x.1.length (toksL x.1) ∧ Below w.heap.size w w'
def LexRel (s : ByteArray) (w : World) (a : Nat) (acc : List Tok) (v : Value) (wr : World) : Prop :=
  a ≤ s.size ∧ acc.length ≤ a ∧ (∃ k, (s.data.toList.drop a).length < k ∧ lexS s.data.toList = lexGo k a (s.data.toList.drop a) acc) ∧
  wr.ownsRow w.heap.size 52 4 v acc.length (toksL acc) ∧ Below w.heap.size w wr
section
variable {s : ByteArray} {w wr : World} {a : Nat} {acc : List Tok} {v : Value} {c : UInt8} {r : Bytes}
theorem LexRel.start (hs : s.size ≤ 2048) : LexRel s w 0 [] (.slice none 0 0) w := by
  refine ⟨Nat.zero_le _, Nat.le_refl _, ⟨s.data.toList.length + 1, by simp, ?_⟩, ⟨rfl, .inl ⟨rfl, rfl⟩⟩, Below.refl _ _⟩
  unfold lexS
  rw [if_neg (by rw [size_list]; omega)]
  rfl
theorem LexRel.done (h : LexRel s w a acc v wr) (hd : s.data.toList.drop a = []) : lexS s.data.toList = (acc, 0, 0) := by
  obtain ⟨_, _, ⟨k, hk, he⟩, _⟩ := h
  rw [he, hd]
  cases k <;> rfl
theorem LexRel.res (h : LexRel s w a acc v wr) (hd : s.data.toList.drop a = []) : LexRes (lexS s.data.toList) w (.returned (.tuple #[v, .int .i64 0, .int .i64 0])) wr := by
  rw [h.done hd]
  exact ⟨v, rfl, h.2.2.2.1, h.2.2.2.2⟩
theorem nil_res {x : Nat} {e : Nat} (hb : Below w.heap.size w wr) : LexRes ([], x, e) w (.returned (.tuple #[.slice none 0 0, .int .i64 (x : Int), .int .i64 (e : Int)])) wr := ⟨_, rfl, ⟨rfl, .inl ⟨rfl, rfl⟩⟩, hb⟩
theorem LexRel.blank (h : LexRel s w a acc v wr) (hd : s.data.toList.drop a = c :: r) (hb : blankB c = true) : LexRel s w (a + 1) acc v wr := by
  obtain ⟨h1, h2, ⟨k, hk, he⟩, h4, h5⟩ := h
  obtain ⟨hlt, _, hr⟩ := byte_at hd
  refine ⟨hlt, by omega, ?_, h4, h5⟩
  rw [hd] at hk he
  rw [hr]
  match k, hk, he with
  | k + 1, hk, he =>
    refine ⟨k, by simp only [List.length_cons] at hk; omega, ?_⟩
    rw [he]
    simp [lexGo, hb]
theorem LexRel.bad (h : LexRel s w a acc v wr) (hd : s.data.toList.drop a = c :: r) (hb : blankB c = false) (hn : (oneS (c :: r)).2 = 0) : lexS s.data.toList = ([], a, 110) := by
  obtain ⟨h1, h2, ⟨k, hk, he⟩, h4, h5⟩ := h
  rw [hd] at hk he
  match k, hk, he with
  | k + 1, hk, he =>
    rw [he]
    simp [lexGo, hb, hn]
theorem LexRel.tok {v' : Value} {wr' : World} (h : LexRel s w a acc v wr) (hd : s.data.toList.drop a = c :: r) (hb : blankB c = false) {y : Tok} {n : Nat} (hy : (y, n) = oneS (c :: r)) (hn : n ≠ 0)
    (ho : wr'.ownsRow w.heap.size 52 4 v' (acc.length + 1) (toksL acc ++ (tokA { y with at_ := a }).toList)) (hw : Below w.heap.size w wr') :
    LexRel s w (a + n) (acc ++ [{ y with at_ := a }]) v' wr' := by
  obtain ⟨h1, h2, ⟨k, hk, he⟩, h4, h5⟩ := h
  have hle := oneS_le (c :: r)
  rw [← hy, ← hd, List.length_drop, size_list] at hle
  dsimp only at hle
  refine ⟨by omega, by simp; omega, ?_, by rw [toksL_app] at ho; simpa using ho, hw⟩
  rw [hd] at hk he
  match k, hk, he with
  | k + 1, hk, he =>
    refine ⟨k, ?_, ?_⟩
    · rw [← List.drop_drop, hd]
      simp only [List.length_cons, List.length_drop] at hk ⊢
      omega
    · rw [he, ← List.drop_drop, hd]
      have h0 : (oneS (c :: r)).2 = n := by rw [← hy]
      have h1 : (oneS (c :: r)).1 = y := by rw [← hy]
      simp [lexGo, hb, h0, h1, hn]
end
theorem blk_cells {W : World} {g : Nat} {t : TypeId} {cs : Array Value} (h : Blk W g t cs) : ∀ j u, cs.toList[j]? = some u → W.cell? ((⟨g, 0, none⟩ : Addr).add j) = some u := by
  intro j u hu
  rw [Addr.add_lit, Nat.zero_add, h.cell]
  simpa using hu
theorem new_second (W : World) (x y : Tok) : ∀ j u, (tokA y).toList[j]? = some u → ((W.alloc (.cells (tokA x) 52)).alloc (.cells (tokA y) 52)).cell? ((⟨W.heap.size + 1, 0, none⟩ : Addr).add j) = some u := by
  have h := Blk.new (W.alloc (.cells (tokA x) 52)) 52 (tokA y)
  rw [World.size_alloc] at h
  exact blk_cells h
theorem two_base {w W : World} (h : Below w.heap.size w W) (x y : Tok) : Below w.heap.size w ((W.alloc (.cells (tokA x) 52)).alloc (.cells (tokA y) 52)) :=
  (h.alloc h.size _).alloc (by rw [World.size_alloc]; have := h.size; omega) _
theorem res_three {P : Program} {f : Func} {p q r : Nat} {tmps : Array Value} {w : World} {x y z : Value} (hf : f.results = #[.tmp p, .tmp q, .tmp r]) (h1 : tmps[p]?.getD undef = x) (h2 : tmps[q]?.getD undef = y) (h3 : tmps[r]?.getD undef = z) :
    (results f tmps).run P w = .ok (.tuple #[x, y, z]) w := by
  simp [results, hf, go_sem, h1, h2, h3]
end Go.Proofs.Ytjpogmomgmjmbaa

/-! A reader in memory: its tokens, its nodes; what a call of it turns. -/
namespace Go.Proofs.Ytjpogmomgmjmbaa
open Go.RowKit LexS ParS
set_option maxHeartbeats 2000000
set_option linter.unusedVariables false

abbrev BA (l : Bytes) : ByteArray := ⟨l.toArray⟩
/-- A node, and its three rows. -/
structure NodeM where
  node : Nd
  lv : Value
  nv : Value
  av : Value
def NodeM.cells (m : NodeM) : List Value := [.int .i64 (m.node.kind : Int), .string (BA m.node.s), .int .i64 m.node.n, .int .i64 m.node.from_, .int .i64 m.node.to_, .int .i64 (m.node.v.kind : Int), .int .i64 m.node.v.n, .string (BA m.node.v.s),
  .int .i64 0, .int .i64 0, .int .i64 0, .int .i64 0, .int .i64 0, .int .i64 0, .int .i64 0, .int .i64 0, m.lv, m.nv, m.av]
def intsL (l : List Nat) : List Value := l.map fun (i : Nat) => .int .i64 (i : Int)
def strsL (l : List Bytes) : List Value := l.map fun s => .string (BA s)
def aggsL (l : List (Nat × Bytes)) : List Value := l.flatMap fun a => [.int .i64 (a.1 : Int), .string (BA a.2)]
structure MOk (W : World) (base : Nat) (m : NodeM) : Prop where
  l : W.ownsRow base 3 1 m.lv m.node.l.length (intsL m.node.l)
  names : W.ownsRow base 9 1 m.nv m.node.names.length (strsL m.node.names)
  aggs : W.ownsRow base 80 2 m.av m.node.aggs.length (aggsL m.node.aggs)
def cellsM (ms : List NodeM) : List Value := ms.flatMap NodeM.cells
def NS (W : World) (base : Nat) (v : Value) (ns : List Nd) : Prop := ∃ ms : List NodeM, ms.map (·.node) = ns ∧ W.ownsRow base 43 19 v ns.length (cellsM ms) ∧ ∀ m ∈ ms, MOk W base m
/-- What a call of a reader at r turns: the reader, its row of nodes; all else is as it was. -/
structure Stp (r : Nat) (nv : Value) (W : World) (nv' : Value) (W' : World) : Prop where
  os : W'.os = W.os
  tape : W'.tape = W.tape
  output : W'.output = W.output
  size : W.heap.size ≤ W'.heap.size
  block : ∀ i, i < W.heap.size → i ≠ r → nv.ownBlock ≠ some i → W'.heap[i]? = W.heap[i]?
  own : ∀ k, nv'.ownBlock = some k → nv.ownBlock = some k ∨ W.heap.size ≤ k
section
variable {r base : Nat} {nv nv' nv'' : Value} {W W' W'' : World}
theorem Stp.of (h : Below W.heap.size W W') : Stp r nv W nv W' := ⟨h.os, h.tape, h.output, h.size, fun i hi _ _ => h.block i hi, fun k hk => .inl hk⟩
theorem Stp.refl (r : Nat) (nv : Value) (W : World) : Stp r nv W nv W := Stp.of (Below.refl _ _)
theorem Stp.trans (h : Stp r nv W nv' W') (k : Stp r nv' W' nv'' W'') : Stp r nv W nv'' W'' :=
  ⟨k.os.trans h.os, k.tape.trans h.tape, k.output.trans h.output, Nat.le_trans h.size k.size, fun i hi h1 h2 => by
    rw [k.block i (Nat.lt_of_lt_of_le hi h.size) h1 (fun e => by
      rcases h.own i e with e' | e'
      · exact h2 e'
      · omega)]
    exact h.block i hi h1 h2, fun i hi => by
    rcases k.own i hi with e | e
    · exact h.own i e
    · exact .inr (Nat.le_trans h.size e)⟩
theorem Stp.below (h : Stp r nv W nv' W') (hr : base ≤ r) (hn : ∀ k, nv.ownBlock = some k → base ≤ k) (hb : base ≤ W.heap.size) : Below base W W' :=
  ⟨h.os, h.tape, h.output, h.size, fun i hi => h.block i (by omega) (by omega) (fun e => by have := hn i e; omega)⟩
theorem Stp.blk {g : Nat} {t : TypeId} {cs : Array Value} (h : Stp r nv W nv' W') (hb : Blk W g t cs) (h1 : g ≠ r) (h2 : nv.ownBlock ≠ some g) : Blk W' g t cs := (h.block g hb.lt h1 h2).trans hb
theorem Stp.set (h : Stp r nv W nv' W') (i : Nat) (u : Value) : Stp r nv W nv' (W'.setCell ⟨r, i, none⟩ u) :=
  ⟨h.os, h.tape, h.output, by simpa [World.setCell] using h.size, fun j hj h1 h2 => by
    rw [← h.block j hj h1 h2]
    simp only [World.setCell, Array.getElem?_modify]
    rw [if_neg (fun e => h1 e.symm)], h.own⟩
theorem Stp.drew (h : Stp r nv W nv' W') : Stp r nv W nv' W'.drew := ⟨h.os, h.tape, h.output, h.size, h.block, h.own⟩
/-- A row of another type than the reader's and the nodes' stands. -/
theorem row_block {e : TypeId} {size n : Nat} {v : Value} {xs : List Value} (h : W.ownsRow base e size v n xs) {k : Nat} (hk : v.ownBlock = some k) : ∃ cur, W.heap[k]? = some (.cells cur e (0, 0)) := by
  rcases h.2 with ⟨rfl, _⟩ | ⟨g, cap, cur, rfl, _, h4, _⟩
  · cases hk
  · injection hk with hk
    subst hk
    exact ⟨cur, h4⟩
theorem row_stp {b2 : Nat} {e : TypeId} {size n : Nat} {v : Value} {xs : List Value} (h : W.ownsRow b2 e size v n xs) (s : Stp r nv W nv' W') (hr : ∀ k, v.ownBlock = some k → k ≠ r ∧ nv.ownBlock ≠ some k) : W'.ownsRow b2 e size v n xs := by
  refine ⟨h.1, ?_⟩
  rcases h.2 with h2 | ⟨g, cap, cur, rfl, h3, h4, h5⟩
  · exact .inl h2
  · obtain ⟨e1, e2⟩ := hr g rfl
    exact .inr ⟨g, cap, cur, rfl, h3, (s.block g (Array.getElem?_eq_some_iff.1 h4).1 e1 e2).trans h4, h5⟩
theorem block_types {k : Nat} {c1 c2 : Array Value} {t1 t2 : TypeId} (h1 : W.heap[k]? = some (.cells c1 t1 (0, 0))) (h2 : W.heap[k]? = some (.cells c2 t2 (0, 0))) : t1 = t2 := by
  rw [h1] at h2
  injection h2 with h2
  injection h2
end

section
variable {base r deep : Nat} {tv nv nv' : Value} {T : List Tok} {ts ts1 : List Tk} {ns : List Nd} {W W' : World}
theorem NS.block (h : NS W base nv ns) {k : Nat} (hk : nv.ownBlock = some k) : base ≤ k ∧ ∃ cur, W.heap[k]? = some (.cells cur 43 (0, 0)) := by
  obtain ⟨ms, _, ho, _⟩ := h
  exact ⟨(ho.lt k hk).1, row_block ho hk⟩
theorem MOk.kept {m : NodeM} (hm : MOk W base m) (hb : Below W.heap.size W W') : MOk W' base m := ⟨own_kept hm.l hb, own_kept hm.names hb, own_kept hm.aggs hb⟩
theorem NS.kept (h : NS W base nv ns) (hb : Below W.heap.size W W') : NS W' base nv ns := by
  obtain ⟨ms, h1, h2, h3⟩ := h
  exact ⟨ms, h1, own_kept h2 hb, fun m hm => (h3 m hm).kept hb⟩
end
/-- A call that turns the reader alone. -/
abbrev Mv (r : Nat) (W W' : World) : Prop := Stp r (.slice none 0 0) W (.slice none 0 0) W'
section
variable {base r deep d2 : Nat} {tv nv : Value} {T : List Tok} {ts ts1 : List Tk} {ns : List Nd} {W W' : World}
theorem Mv.stp (h : Mv r W W') (nv : Value) : Stp r nv W nv W' := ⟨h.os, h.tape, h.output, h.size, fun i hi h1 _ => h.block i hi h1 (fun e => by cases e), fun k hk => .inl hk⟩
theorem Mv.far (h : Mv r W W') {b : Nat} (hb : W.heap.size ≤ b) (i : Nat) (u : Value) : Mv r W (W'.setCell ⟨b, i, none⟩ u) :=
  ⟨h.os, h.tape, h.output, by simpa [World.setCell] using h.size, fun j hj h1 h2 => by
    rw [← h.block j hj h1 h2]
    simp only [World.setCell, Array.getElem?_modify]
    rw [if_neg (by omega)], fun k hk => by cases hk⟩
theorem row_mv {b2 size n : Nat} {e : TypeId} {v : Value} {xs : List Value} (ho : W.ownsRow b2 e size v n xs) (m : Mv r W W') (h : v.ownBlock ≠ some r) : W'.ownsRow b2 e size v n xs :=
  row_stp ho m fun k hk => ⟨fun e => h (by rw [hk, e]), fun e => by cases e⟩
end
theorem cell?_setCell_ne {w : World} {g o g' o' : Nat} {v : Value} (h : g ≠ g') : (w.setCell ⟨g', o', none⟩ v).cell? ⟨g, o, none⟩ = w.cell? ⟨g, o, none⟩ := World.cell?_of_block (Below.heap_setCell w ⟨g', o', none⟩ v g h)
theorem cell_drewN_new (w : World) (n i : Nat) (cs : Array Value) (t : TypeId) : ((w.drewN n).alloc (.cells cs t)).cell? ⟨w.heap.size, i, none⟩ = cs[i]? := (Blk.new (w.drewN n) t cs).cell i
theorem free_drewN_new (w : World) (n i : Nat) (cs : Array Value) (t : TypeId) : ((w.drewN n).alloc (.cells cs t)).frozen? ⟨w.heap.size, i, none⟩ = false := (Blk.new (w.drewN n) t cs).free i
theorem cell_drew_new (w : World) (i : Nat) (cs : Array Value) (t : TypeId) : (w.drew.alloc (.cells cs t)).cell? ⟨w.heap.size, i, none⟩ = cs[i]? := (Blk.new w.drew t cs).cell i
theorem free_drew_new (w : World) (i : Nat) (cs : Array Value) (t : TypeId) : (w.drew.alloc (.cells cs t)).frozen? ⟨w.heap.size, i, none⟩ = false := (Blk.new w.drew t cs).free i
/-- The token at hand. -/
theorem tok_at {T : List Tok} {ts ts1 : List Tk} {t : Tk} (hs : ts = (T.map tk).drop (T.length - ts.length)) (hl : ts.length ≤ T.length) (ht : ts = t :: ts1) : ∃ u, T[T.length - ts.length]? = some u ∧ tk u = t ∧ T.length - ts.length < T.length := by
  have h0 : 0 < ts.length := by rw [ht]; simp
  have hlt : T.length - ts.length < T.length := by omega
  refine ⟨T[T.length - ts.length], List.getElem?_eq_getElem hlt, ?_, hlt⟩
  have : (T.map tk)[T.length - ts.length]? = some t := by
    have h1 : ((T.map tk).drop (T.length - ts.length))[0]? = some t := by rw [← hs, ht]; rfl
    rwa [List.getElem?_drop, Nat.add_zero] at h1
  rw [List.getElem?_map, List.getElem?_eq_getElem hlt] at this
  simpa using this
end Go.Proofs.Ytjpogmomgmjmbaa

/-! What a row of tokens is in memory. -/
namespace Go.Proofs.Ytjpogmomgmjmbaa
open Go.RowKit LexS
set_option maxHeartbeats 4000000

theorem toksL_cons (a : Tok) (l : List Tok) : toksL (a :: l) = (tokA a).toList ++ toksL l := by simp [toksL]
theorem toksL_get : ∀ (l : List Tok) (i : Nat) (t : Tok) (j : Nat), l[i]? = some t → j < 4 → (toksL l)[i * 4 + j]? = (tokA t).toList[j]?
  | [], i, t, j, h, _ => by simp at h
  | a :: l, 0, t, j, h, hj => by
    simp only [List.getElem?_cons_zero, Option.some.injEq] at h
    subst h
    rw [toksL_cons, Nat.zero_mul, Nat.zero_add, List.getElem?_append_left (by simp [tokA]; omega)]
  | a :: l, i + 1, t, j, h, hj => by
    have ha : (tokA a).toList.length = 4 := rfl
    rw [toksL_cons, List.getElem?_append_right (by rw [ha]; omega), ha]
    have : (i + 1) * 4 + j - 4 = i * 4 + j := by omega
    rw [this]
    exact toksL_get l i t j (by simpa using h) hj
theorem row_form {W : World} {base : Nat} {v : Value} {l : List Tok} (h : W.ownsRow base 52 4 v l.length (toksL l)) (hn : l ≠ []) :
    ∃ g cap, v = .slice (some ⟨g, 0, none⟩) l.length cap ∧ l.length ≤ cap ∧ base ≤ g ∧ g < W.heap.size ∧
      ∀ i t, l[i]? = some t → W.cell? ⟨g, i * 4, none⟩ = some (.int .i64 (t.kind : Int)) ∧ W.cell? ⟨g, i * 4 + 1, none⟩ = some (.string ⟨t.s.toArray⟩) ∧ W.cell? ⟨g, i * 4 + 2, none⟩ = some (.int .i64 t.n) ∧ W.cell? ⟨g, i * 4 + 3, none⟩ = some (.int .i64 (t.at_ : Int)) := by
  have hf := fun g hg => h.cells (g := g) hg
  have hlt := h.lt
  rcases h.2 with ⟨_, h2⟩ | ⟨g, cap, cur, h2, h3, h4, h5, _⟩
  · exact absurd (List.eq_nil_of_length_eq_zero h2) hn
  · subst h2
    refine ⟨g, cap, rfl, h5, h3, (hlt g rfl).2, fun i t hi => ?_⟩
    have hk : ∀ j u, j < 4 → (tokA t).toList[j]? = some u → W.cell? ⟨g, i * 4 + j, none⟩ = some u := by
      intro j u hj hu
      have := hf g rfl (i * 4 + j) u (by rw [toksL_get l i t j hi hj]; exact hu)
      rwa [Addr.add_lit, Nat.zero_add] at this
    exact ⟨hk 0 _ (by omega) rfl, hk 1 _ (by omega) rfl, hk 2 _ (by omega) rfl, hk 3 _ (by omega) rfl⟩
end Go.Proofs.Ytjpogmomgmjmbaa

/-! A row of tokens in memory, whether it is empty or not; a world that draws. -/
namespace Go.Proofs.Ytjpogmomgmjmbaa
open Go.RowKit LexS BigFrame
set_option maxHeartbeats 4000000

def Drawn (w W : World) : Prop := ∃ k, W = w.drewN k
theorem Drawn.base (w : World) (k : Nat) : Drawn w (w.drewN k) := ⟨k, rfl⟩
theorem drewN_twice (w : World) (a b : Nat) : (w.drewN a).drewN b = w.drewN (a + b) := by
  simp [World.drewN, Nat.add_assoc]
theorem Drawn.more {w W : World} (h : Drawn w W) (n : Nat) : Drawn w (W.drewN n) := by
  obtain ⟨k, rfl⟩ := h
  exact ⟨k + n, drewN_twice w k n⟩
theorem row_max {W : World} {base : Nat} {v : Value} {n : Nat} {xs : List Value} (h : W.ownsRow base 52 4 v n xs) : n ≤ maxLen := by
  rcases h.2 with ⟨_, h2⟩ | ⟨g, cap, cur, h2, h3, h4, h5, h6, _⟩
  · rw [h2]; exact Nat.zero_le _
  · exact Nat.le_trans h5 h6
theorem row_any {W : World} {base : Nat} {v : Value} {l : List Tok} (h : W.ownsRow base 52 4 v l.length (toksL l)) :
    ∃ p cap, v = .slice p l.length cap ∧ l.length ≤ cap ∧ l.length ≤ maxLen ∧ (l ≠ [] → ∃ g, p = some ⟨g, 0, none⟩ ∧ base ≤ g ∧ g < W.heap.size ∧
      ∀ i t, l[i]? = some t → W.cell? ⟨g, i * 4, none⟩ = some (.int .i64 (t.kind : Int)) ∧ W.cell? ⟨g, i * 4 + 1, none⟩ = some (.string ⟨t.s.toArray⟩) ∧ W.cell? ⟨g, i * 4 + 2, none⟩ = some (.int .i64 t.n) ∧ W.cell? ⟨g, i * 4 + 3, none⟩ = some (.int .i64 (t.at_ : Int))) := by
  by_cases hn : l = []
  · subst hn
    rcases h.2 with ⟨h2, _⟩ | ⟨g, cap, cur, h2, h3, h4, h5, _⟩
    · exact ⟨none, 0, h2, Nat.le_refl _, Nat.zero_le _, fun hc => absurd rfl hc⟩
    · exact ⟨_, cap, h2, Nat.zero_le _, Nat.zero_le _, fun hc => absurd rfl hc⟩
  · obtain ⟨g, cap, h1, h2, h3, h4, h5⟩ := row_form h hn
    exact ⟨_, cap, h1, h2, row_max h, fun _ => ⟨g, rfl, h3, h4, h5⟩⟩
end Go.Proofs.Ytjpogmomgmjmbaa

/-! The walks of package parse's reader: is, sees, fail, wants, take, word, number. -/
namespace Go.Proofs.Ytjpogmomgmjmbaa
open Go.RowKit LexS ParS BigFrame
set_option maxHeartbeats 4000000
set_option linter.unusedVariables false
attribute [local go_sem] World.cell?_alloc_some cell_drewN_new free_drewN_new cell_drew_new free_drew_new

abbrev RP (r : Nat) : Value := .pointer (some ⟨r, 0, none⟩)
def isS (b : Bytes) (ts : List Tk) : Bool := (sees b ts).isSome
theorem isS_cons (b : Bytes) (t : Tk) (ts : List Tk) : isS b (t :: ts) = isW b t := by
  unfold isS
  rw [sees_cons]
  cases isW b t <;> rfl
section
variable {base r deep : Nat} {tv nv nv' : Value} {T : List Tok} {ts ts1 : List Tk} {ns : List Nd} {W W' : World}
/-- A token's value. -/
def TokIs (t : Tk) (v : Value) : Prop := ∃ a : Int, v = .agg #[.int .i64 (t.kind : Int), .string (BA t.s), .int .i64 t.n, .int .i64 a]
end
end Go.Proofs.Ytjpogmomgmjmbaa

/-! The walks of package parse's reader: take that fails, word, number, choice. -/
namespace Go.Proofs.Ytjpogmomgmjmbaa
open Go.RowKit LexS ParS BigFrame
set_option maxHeartbeats 4000000
set_option linter.unusedVariables false
theorem field_tok1 (k n a : Int) (s : ByteArray) (W : World) : (Instr.field 52 (.agg #[.int .i64 k, .string s, .int .i64 n, .int .i64 a]) 1).run Try.prog W = .ok (.string s) W := by kernel_rfl
theorem field_tok2 (k n a : Int) (s : ByteArray) (W : World) : (Instr.field 52 (.agg #[.int .i64 k, .string s, .int .i64 n, .int .i64 a]) 2).run Try.prog W = .ok (.int .i64 n) W := by kernel_rfl
attribute [local go_sem] field_tok1 field_tok2
attribute [local go_sem] World.cell?_alloc_some cell_drewN_new free_drewN_new cell_drew_new free_drew_new
section
variable {base r deep : Nat} {tv nv nv' : Value} {T : List Tok} {ts ts1 : List Tk} {ns : List Nd} {W W' : World}
theorem Mv.blk {g : Nat} {t : TypeId} {cs : Array Value} (h : Mv r W W') (hb : Blk W g t cs) (h1 : g ≠ r) : Blk W' g t cs := Stp.blk h hb h1 (fun e => by cases e)
end
end Go.Proofs.Ytjpogmomgmjmbaa

/-! A region whose last operation waits for all others: the others in whatever order, then that one. -/
namespace Go
section
variable {P : Program} {ops : Array Oper} {o : Oper} {Q : Exit → Act → World → Prop} {S : World → Prop}
/-- The last one waits for all others; each waits for elder ones alone; no guard looks at the last one. -/
def lastOk (ops : Array Oper) (o : Oper) : Bool :=
  (List.range ops.size).all (fun i => (o.after.any fun e => Region.binds .any e && e.on == i) || (o.after.any fun e => Region.binds .any e && ((ops[e.on]?).map fun x => x.after.any fun d => Region.binds .any d && d.on == i).getD false))
  && o.after.all (fun e => !Region.binds .any e || decide (e.on < ops.size))
  && (List.range ops.size).all fun i => ((ops[i]?).map fun x => x.after.all (fun e => !Region.binds .any e || decide (e.on < i)) && (match x.guard with | none => true | some (g, _) => decide (g < ops.size))).getD false
/-- What is to be shown behind the others: the last one's step. -/
def ThenOp (P : Program) (ops : Array Oper) (n : Nat) (Q : Exit → Act → World → Prop) : Exit → Act → World → Prop
  | .normal, a, w => wpOp P ops Q n (fun a w => Q .normal a w) a w
  | e, a, w => Q e a w
structure LastOk (ops : Array Oper) (o : Oper) : Prop where
  all : ∀ i, i < ops.size → (∃ e ∈ o.after, Region.binds .any e = true ∧ e.on = i) ∨ ∃ e ∈ o.after, Region.binds .any e = true ∧ ∃ x, ops[e.on]? = some x ∧ ∃ d ∈ x.after, Region.binds .any d = true ∧ d.on = i
  own : ∀ e ∈ o.after, Region.binds .any e = true → e.on < ops.size
  elder : ∀ (i : Nat) (x : Oper), ops[i]? = some x → ∀ e ∈ x.after, Region.binds .any e = true → e.on < i
  guard : ∀ (i : Nat) (x : Oper), ops[i]? = some x → ∀ g b, x.guard = some (g, b) → g < ops.size
theorem lastOk_spec (h : lastOk ops o = true) : LastOk ops o := by
  simp only [lastOk, Bool.and_eq_true, List.all_eq_true, List.mem_range] at h
  obtain ⟨⟨h1, h2⟩, h3⟩ := h
  have h3' : ∀ (i : Nat) (x : Oper), ops[i]? = some x → (x.after.all (fun e => !Region.binds .any e || decide (e.on < i)) && (match x.guard with | none => true | some (g, _) => decide (g < ops.size))) = true := by
    intro i x hx
    have hi : i < ops.size := by
      rcases Nat.lt_or_ge i ops.size with h | h
      · exact h
      · rw [Array.getElem?_eq_none h] at hx; cases hx
    have := h3 i hi
    rw [hx] at this
    simpa using this
  refine ⟨fun i hi => ?_, fun e he hb => ?_, fun i x hx e he hb => ?_, fun i x hx g b hg => ?_⟩
  · have h1' := h1 i hi
    rw [Bool.or_eq_true] at h1'
    rcases h1' with h1' | h1'
    · obtain ⟨j, hj, h⟩ := Array.any_iff_exists.1 h1'
      obtain ⟨_, _, h⟩ := h
      simp only [Bool.and_eq_true, beq_iff_eq] at h
      exact .inl ⟨o.after[j], Array.getElem_mem hj, h.1, h.2⟩
    · obtain ⟨j, hj, h⟩ := Array.any_iff_exists.1 h1'
      obtain ⟨_, _, h⟩ := h
      rw [Bool.and_eq_true] at h
      refine .inr ⟨o.after[j], Array.getElem_mem hj, h.1, ?_⟩
      cases hx : ops[o.after[j].on]? with
      | none => rw [hx] at h; simp at h
      | some x =>
        rw [hx] at h
        obtain ⟨k, hk, h2'⟩ := Array.any_iff_exists.1 (by simpa using h.2 : (x.after.any fun d => Region.binds .any d && d.on == i) = true)
        obtain ⟨_, _, h2'⟩ := h2'
        simp only [Bool.and_eq_true, beq_iff_eq] at h2'
        exact ⟨x, rfl, x.after[k], Array.getElem_mem hk, h2'.1, h2'.2⟩
  · have := Array.all_eq_true_iff_forall_mem.1 h2 e he
    simp only [hb, Bool.not_true, Bool.false_or, decide_eq_true_eq] at this
    exact this
  · have := h3' i x hx
    rw [Bool.and_eq_true] at this
    have := Array.all_eq_true_iff_forall_mem.1 this.1 e he
    simp only [hb, Bool.not_true, Bool.false_or, decide_eq_true_eq] at this
    exact this
  · have := h3' i x hx
    rw [Bool.and_eq_true, hg] at this
    simpa using this.2
theorem all_listed (hc : LastOk ops o) {listed : Array Bool} (h : Region.ready .any ops listed = []) : ∀ i, i < ops.size → listed.getD i true = true := by
  intro i
  induction i using Nat.strongRecOn with
  | ind i ih =>
    intro hi
    cases hl : listed.getD i true with
    | true => rfl
    | false =>
      have hx : ops[i]? = some ops[i] := Array.getElem?_eq_getElem hi
      have hm : i ∈ Region.ready .any ops listed := mem_ready.2 ⟨hl, ops[i], hx, fun e he hb => by
        have hlt := hc.elder i _ hx e he hb
        have h1 := ih e.on hlt (Nat.lt_trans hlt hi)
        rcases Nat.lt_or_ge e.on listed.size with h' | h'
        · simpa [h'] using h1
        · have : listed.getD i true = true := by simp [Array.getElem?_eq_none (Nat.le_trans h' (Nat.le_of_lt hlt))]
          rw [this] at hl; cases hl⟩
      rw [h] at hm
      cases hm
theorem getD_push {listed : Array Bool} {i : Nat} {b d : Bool} (h : i < listed.size) : (listed.push b).getD i d = listed.getD i d := by
  simp [Array.getElem?_push, Nat.ne_of_lt h]
theorem getD_last {listed : Array Bool} {b d : Bool} : (listed.push b).getD listed.size d = b := by simp
theorem get_push {ops : Array Oper} {o : Oper} {i : Nat} (h : i < ops.size) : (ops.push o)[i]? = ops[i]? := by
  simp [Array.getElem?_push, Nat.ne_of_lt h]
theorem get_some {ops : Array Oper} {i : Nat} {x : Oper} (h : ops[i]? = some x) : i < ops.size := by
  rcases Nat.lt_or_ge i ops.size with h' | h'
  · exact h'
  · rw [Array.getElem?_eq_none h'] at h; cases h
theorem ready_push (hc : LastOk ops o) {listed : Array Bool} (hs : listed.size = ops.size) {i : Nat} (hi : i < ops.size) : i ∈ Region.ready .any (ops.push o) (listed.push false) ↔ i ∈ Region.ready .any ops listed := by
  rw [mem_ready, mem_ready, getD_push (by omega), get_push hi]
  constructor
  · rintro ⟨h1, x, hx, h2⟩
    exact ⟨h1, x, hx, fun e he hb => by rw [← getD_push (b := false) (by have := hc.elder i x hx e he hb; omega)]; exact h2 e he hb⟩
  · rintro ⟨h1, x, hx, h2⟩
    exact ⟨h1, x, hx, fun e he hb => by rw [getD_push (by have := hc.elder i x hx e he hb; omega)]; exact h2 e he hb⟩
/-- What is listed has its elders listed. -/
def Closed (ops : Array Oper) (listed : Array Bool) : Prop := ∀ (j : Nat) (x : Oper), ops[j]? = some x → listed.getD j true = true → ∀ d ∈ x.after, Region.binds .any d = true → listed.getD d.on true = true
theorem ready_last (hc : LastOk ops o) {listed : Array Bool} (hs : listed.size = ops.size) (hcl : Closed ops listed) : ops.size ∈ Region.ready .any (ops.push o) (listed.push false) ↔ ∀ i, i < ops.size → listed.getD i true = true := by
  rw [mem_ready]
  have hn : (ops.push o)[ops.size]? = some o := by simp
  constructor
  · rintro ⟨_, x, hx, h2⟩ i hi
    rw [hn] at hx
    injection hx with hx
    subst hx
    have direct : ∀ e ∈ o.after, Region.binds .any e = true → e.on < ops.size → listed.getD e.on true = true := by
      intro e he hb hlt
      have := h2 e he hb
      rw [getD_push (by omega)] at this
      have hl : e.on < listed.size := by omega
      simpa [hl] using this
    rcases hc.all i hi with ⟨e, he, hb, rfl⟩ | ⟨e, he, hb, x, hx, d, hd, hdb, rfl⟩
    · exact direct e he hb hi
    · exact hcl e.on x hx (direct e he hb (get_some hx)) d hd hdb
  · intro h
    refine ⟨by rw [← hs]; exact getD_last, o, hn, fun e he hb => ?_⟩
    have hl := hc.own e he hb
    rw [getD_push (by omega)]
    have hl' : e.on < listed.size := by omega
    have := h e.on hl
    simpa [hl'] using this
theorem ready_lt {md : Region.Mode} {ops : Array Oper} {listed : Array Bool} {i : Nat} (h : i ∈ Region.ready md ops listed) : i < ops.size := by
  obtain ⟨_, x, hx, _⟩ := mem_ready.1 h
  exact get_some hx
theorem closed_set {ops : Array Oper} {listed : Array Bool} (hcl : Closed ops listed) {i : Nat} (hi : i ∈ Region.ready .any ops listed) : Closed ops (listed.setIfInBounds i true) := by
  have up : ∀ k, listed.getD k true = true → (listed.setIfInBounds i true).getD k true = true := by
    intro k hk
    simp only [Array.getD_eq_getD_getElem?, Array.getElem?_setIfInBounds] at hk ⊢
    split
    · split <;> rfl
    · exact hk
  intro j x hx hj d hd hb
  by_cases e : j = i
  · subst e
    obtain ⟨_, y, hy, h2⟩ := mem_ready.1 hi
    rw [hx] at hy
    injection hy with hy
    subst hy
    have := h2 d hd hb
    refine up _ ?_
    rcases Nat.lt_or_ge d.on listed.size with h' | h'
    · simpa [h'] using this
    · simp [Array.getElem?_eq_none h']
  · refine up _ (hcl j x hx ?_ d hd hb)
    simp only [Array.getD_eq_getD_getElem?, Array.getElem?_setIfInBounds] at hj ⊢
    rw [if_neg (fun h => e h.symm)] at hj
    exact hj
theorem wp_then {n : Nat} {ops' : Array Oper} {x : Oper} {a : Act} {w : World} {K : Act → World → Prop} (h : x.wp P a w K (ThenOp P ops' n Q)) : x.wp P a w K Q := by
  unfold Oper.wp at *
  generalize (execOp a.eval x).run P w = r at *
  cases r with
  | ok v w' =>
    cases v <;> simp only [Oper.upon] at h ⊢
    case enter f args => exact Calls.mono h fun e w'' he => by cases e <;> exact he
    all_goals exact h
  | halt v w' => cases v <;> simp only [Oper.upon] at h ⊢ <;> exact h
theorem wpOp_push (hc : LastOk ops o) {i : Nat} (hi : i < ops.size) {n : Nat} {ops' : Array Oper} {K : Act → World → Prop} {a : Act} {w : World} (h : wpOp P ops (ThenOp P ops' n Q) i K a w) : wpOp P (ops.push o) Q i K a w := by
  unfold wpOp at *
  rw [get_push hi]
  have hx : ops[i]? = some ops[i] := Array.getElem?_eq_getElem hi
  simp only [hx] at h ⊢
  have hw : Region.wanted ops[i] (yielded (ops.push o) a.tmps) = Region.wanted ops[i] (yielded ops a.tmps) := by
    unfold Region.wanted
    cases hg : ops[i].guard with
    | none => rfl
    | some gb =>
      obtain ⟨g, b⟩ := gb
      have := hc.guard i _ hx g b hg
      simp only [yielded]
      rw [get_push this]
  rw [hw]
  split
  · rename_i hwt
    rw [if_pos hwt] at h
    exact h.imp wp_then id
  · rename_i hwt
    rw [if_neg hwt] at h
    exact h
theorem wpAny_last (hc : LastOk ops o) : ∀ (fuel : Nat) (listed : Array Bool) (a : Act) (w : World), listed.size = ops.size → Closed ops listed →
    wpAny P .any ops (ThenOp P (ops.push o) ops.size Q) fuel listed a w → wpAny P .any (ops.push o) Q (fuel + 1) (listed.push false) a w := by
  have fin : ∀ (fuel : Nat) (listed : Array Bool) (a : Act) (w : World), listed.size = ops.size → Closed ops listed → Region.ready .any ops listed = [] → ThenOp P (ops.push o) ops.size Q .normal a w → wpAny P .any (ops.push o) Q (fuel + 1) (listed.push false) a w := by
    intro fuel listed a w hs hcl hr hq
    have hall := all_listed hc hr
    have hlast := (ready_last hc hs hcl).2 hall
    refine ⟨fun h0 => (by rw [h0] at hlast; cases hlast), fun i hi => ?_⟩
    have hlt := ready_lt hi
    rw [Array.size_push] at hlt
    rcases Nat.lt_or_ge i ops.size with h' | h'
    · have := (ready_push hc hs h').1 hi
      rw [hr] at this
      cases this
    · obtain rfl : i = ops.size := by omega
      have hnone : Region.ready .any (ops.push o) ((listed.push false).setIfInBounds ops.size true) = [] := by
        rw [← hs, show (listed.push false).setIfInBounds listed.size true = listed.push true by
          apply Array.ext'
          simp [List.set_append_right]]
        refine List.eq_nil_iff_forall_not_mem.2 fun j hj => ?_
        have h1 := (mem_ready.1 hj).1
        have h2 := ready_lt hj
        rw [Array.size_push] at h2
        rcases Nat.lt_or_ge j ops.size with h3 | h3
        · rw [getD_push (by omega), hall j h3] at h1
          cases h1
        · obtain rfl : j = listed.size := by omega
          rw [getD_last] at h1
          cases h1
      refine wpOp_mono (fun a' w' hq' => ?_) hq
      cases fuel with
      | zero => exact ⟨hnone, hq'⟩
      | succ fuel => exact ⟨fun _ => hq', by rw [hnone]; intro j hj; cases hj⟩
  intro fuel
  induction fuel with
  | zero => intro listed a w hs hcl h; exact fin 0 listed a w hs hcl h.1 h.2
  | succ fuel ih =>
    intro listed a w hs hcl h
    rcases hr : Region.ready .any ops listed with _ | ⟨r, rs⟩
    · exact fin (fuel + 1) listed a w hs hcl hr (h.1 hr)
    · have hmem : r ∈ Region.ready .any ops listed := by rw [hr]; exact List.mem_cons_self
      have hrlt := ready_lt hmem
      refine ⟨fun h0 => ?_, fun i hi => ?_⟩
      · have := (ready_push (o := o) hc hs hrlt).2 hmem
        rw [h0] at this
        cases this
      · have hlt := ready_lt hi
        rw [Array.size_push] at hlt
        rcases Nat.lt_or_ge i ops.size with h' | h'
        · have hi' := (ready_push hc hs h').1 hi
          have hp := wpOp_push (Q := Q) hc h' (h.2 i hi')
          rw [show (listed.push false).setIfInBounds i true = (listed.setIfInBounds i true).push false by
            apply Array.ext'
            simp [List.set_append_left, hs, h']]
          exact wpOp_mono (fun a' w' hh => ih _ a' w' (by simpa using hs) (closed_set hcl hi') hh) hp
        · obtain rfl : i = ops.size := by omega
          have := (ready_last hc hs hcl).1 hi r hrlt
          rw [(mem_ready.1 hmem).1] at this
          cases this
theorem then_step {a : Act} {w : World} (h : ∀ K' : Act → World → Prop, Shut (∀ a w, Q .normal a w → K' a w) → if Region.wanted o (yielded (ops.push o) a.tmps) = true then Oper.wp P o a w K' Q else K' (a.put o.dst undef) w) : ThenOp P (ops.push o) ops.size Q .normal a w :=
  wpOp_step (by simp) (fun K' hK => h K' hK)
/-- THE LAW. -/
theorem wp_region_last {id : Nat} {a : Act} {w : World} (hm : P.follows .mixedOrders = true) (hc : lastOk ops o = true) (hS : S w.drew)
    (h : S w.drew → wpAnyH P .any ops (ThenOp P (ops.push o) ops.size Q) S ops.size (Array.replicate ops.size false) a w.drew) : (Code.region id (ops.push o) true).wp P Q a w := by
  refine wp_region_any hm ?_
  have := wpAny_last (Q := Q) (lastOk_spec hc) ops.size (Array.replicate ops.size false) a w.drew (by simp) (fun j x hx hj => by
    have := get_some hx
    simp [this] at hj) (wpAny_of_held _ _ _ _ (h hS))
  rw [show (ops.push o).size = ops.size + 1 from Array.size_push _, show Array.replicate (ops.size + 1) false = (Array.replicate ops.size false).push false from Array.replicate_succ]
  exact this
end
end Go

/-! The walk of package parse's lay: a node behind the others. -/
namespace Go.Proofs.Ytjpogmomgmjmbaa
open Go.RowKit LexS ParS BigFrame
set_option maxHeartbeats 4000000
set_option linter.unusedVariables false
attribute [local go_sem] World.cell?_alloc_some cell_drewN_new free_drewN_new cell_drew_new free_drew_new

theorem undNode : Try.prog.underlying 43 = some (.struct (Try.prog.fieldsOf 43)) := by kernel_rfl
theorem sizeNode : (Try.prog.info? 43).map (·.size) = some 19 := by kernel_rfl
theorem fold19 (c0 c1 c2 c3 c4 c5 c6 c7 c8 c9 c10 c11 c12 c13 c14 c15 c16 c17 c18 : Value) : (List.foldl (fun (cs : Array Value) (x : Value × Nat) => cs.setIfInBounds x.snd x.fst) #[.int .i64 0, .string ⟨#[]⟩, .int .i64 0, .int .i64 0, .int .i64 0, .int .i64 0, .int .i64 0, .string ⟨#[]⟩, .int .i64 0, .int .i64 0, .int .i64 0, .int .i64 0, .int .i64 0, .int .i64 0, .int .i64 0, .int .i64 0, .slice none 0 0, .slice none 0 0, .slice none 0 0] [c0, c1, c2, c3, c4, c5, c6, c7, c8, c9, c10, c11, c12, c13, c14, c15, c16, c17, c18].zipIdx) = [c0, c1, c2, c3, c4, c5, c6, c7, c8, c9, c10, c11, c12, c13, c14, c15, c16, c17, c18].toArray := by kernel_rfl
theorem fold_nd (cs : List Value) (h : cs.length = 19) : (List.foldl (fun (cs : Array Value) (x : Value × Nat) => cs.setIfInBounds x.snd x.fst) #[.int .i64 0, .string ⟨#[]⟩, .int .i64 0, .int .i64 0, .int .i64 0, .int .i64 0, .int .i64 0, .string ⟨#[]⟩, .int .i64 0, .int .i64 0, .int .i64 0, .int .i64 0, .int .i64 0, .int .i64 0, .int .i64 0, .int .i64 0, .slice none 0 0, .slice none 0 0, .slice none 0 0] cs.zipIdx) = cs.toArray := by
  match cs, h with
  | [c0, c1, c2, c3, c4, c5, c6, c7, c8, c9, c10, c11, c12, c13, c14, c15, c16, c17, c18], _ => exact fold19 _ _ _ _ _ _ _ _ _ _ _ _ _ _ _ _ _ _ _
def zeroNd : Array Value := #[.int .i64 0, .string ⟨#[]⟩, .int .i64 0, .int .i64 0, .int .i64 0, .int .i64 0, .int .i64 0, .string ⟨#[]⟩, .int .i64 0, .int .i64 0, .int .i64 0, .int .i64 0, .int .i64 0, .int .i64 0, .int .i64 0, .int .i64 0, .slice none 0 0, .slice none 0 0, .slice none 0 0]
theorem infoNode : (Try.prog.info? 43).map (fun i => (i.zero, i.size, i.bytes)) = some (some (.agg zeroNd), 19, 216) := by kernel_rfl
theorem cellsM_app (ms : List NodeM) (m : NodeM) : cellsM ms ++ m.cells = cellsM (ms ++ [m]) := by simp [cellsM]
section
variable {base r deep : Nat} {tv nv nv' : Value} {T : List Tok} {ts ts1 : List Tk} {ns : List Nd} {W Wk W' : World}
theorem Stp.grown {v : Value} {g : Nat} (hb : Below W.heap.size W Wk) (hg : Wk.grownBy W' nv.ownBlock) (hv : v.ownBlock = some g) (hgH : nv.ownBlock = some g ∨ g = Wk.heap.size) : Stp r nv W v W' :=
  ⟨hg.os.trans hb.os, hg.tape.trans hb.tape, hg.output.trans hb.output, Nat.le_trans hb.size hg.size, fun i hi h1 h2 => by
    rw [hg.block i (Nat.lt_of_lt_of_le hi hb.size) (Ne.symm h2)]
    exact hb.block i hi, fun k hk => by
    rw [hv] at hk
    injection hk with hk
    subst hk
    rcases hgH with e | e
    · exact .inl e
    · right; rw [e]; exact hb.size⟩
theorem one_cells (m : NodeM) (hm : MOk W base m) : ∀ u ∈ m.cells, u.oneCell' = true := by
  have hs : ∀ {b2 size n : Nat} {e : TypeId} {v : Value} {xs : List Value}, W.ownsRow b2 e size v n xs → v.oneCell' = true := by
    intro b2 size n e v xs ho
    rcases ho.2 with ⟨rfl, _⟩ | ⟨g, cap, cur, rfl, _⟩ <;> rfl
  intro u hu
  simp only [NodeM.cells, List.mem_cons, List.not_mem_nil, or_false] at hu
  rcases hu with rfl | rfl | rfl | rfl | rfl | rfl | rfl | rfl | rfl | rfl | rfl | rfl | rfl | rfl | rfl | rfl | rfl | rfl | rfl
  all_goals first | rfl | exact hs hm.l | exact hs hm.names | exact hs hm.aggs
end
end Go.Proofs.Ytjpogmomgmjmbaa
