/- An index in memory; the walk of lay. -/
import Derived.Test.YtlddpcbbhglibaaHMap
import Derived.Test.YtlddpcbbhglibaaKeep
namespace Go.Proofs.Ytlddpcbbhglibaa
open Go.RowKit Bits
open Go.ChangeMaps (setBlock)
set_option maxHeartbeats 4000000

/-- All but the blocks m and n stands. -/
structure Kept (m n : Nat) (W W' : World) : Prop where
  os : W'.os = W.os
  tape : W'.tape = W.tape
  output : W'.output = W.output
  size : W.heap.size ≤ W'.heap.size
  block : ∀ i, i < W.heap.size → i ≠ m → i ≠ n → W'.heap[i]? = W.heap[i]?
theorem Kept.of {m n : Nat} {W W' : World} (h : Below W.heap.size W W') : Kept m n W W' := ⟨h.os, h.tape, h.output, h.size, fun i hi _ _ => h.block i hi⟩
theorem Kept.trans {m n : Nat} {W W' W'' : World} (h : Kept m n W W') (k : Kept m n W' W'') : Kept m n W W'' :=
  ⟨k.os.trans h.os, k.tape.trans h.tape, k.output.trans h.output, Nat.le_trans h.size k.size, fun i hi h1 h2 => (k.block i (Nat.lt_of_lt_of_le hi h.size) h1 h2).trans (h.block i hi h1 h2)⟩
theorem set_at (W : World) {m : Nat} (o : Obj) (h : m < W.heap.size) : (setBlock W m o).heap[m]? = some o := by simp [setBlock, h]
theorem set_off (W : World) {m i : Nat} (o : Obj) (h : i ≠ m) : (setBlock W m o).heap[i]? = W.heap[i]? := by
  simp only [setBlock, Array.getElem?_setIfInBounds]
  rw [if_neg (fun e => h e.symm)]
theorem set_size (W : World) (m : Nat) (o : Obj) : (setBlock W m o).heap.size = W.heap.size := by simp [setBlock]
theorem Kept.set1 (m n : Nat) (W : World) (o : Obj) : Kept m n W (setBlock W m o) := ⟨rfl, rfl, rfl, by rw [set_size]; exact Nat.le_refl _, fun _ _ h _ => set_off W o h⟩
theorem Kept.set2 (m n : Nat) (W : World) (o : Obj) : Kept m n W (setBlock W n o) := ⟨rfl, rfl, rfl, by rw [set_size]; exact Nat.le_refl _, fun _ _ _ h => set_off W o h⟩
theorem Kept.base {m n base : Nat} {w W W' : World} (h : Kept m n W W') (hb : Below base w W) (hw : base ≤ w.heap.size) (hm : base ≤ m) (hn : base ≤ n) : Below base w W' :=
  ⟨h.os.trans hb.os, h.tape.trans hb.tape, h.output.trans hb.output, Nat.le_trans hb.size h.size, fun i hi => (h.block i (Nat.lt_of_lt_of_le (Nat.lt_of_lt_of_le hi hw) (by have := hb.size; omega)) (by omega) (by omega)).trans (hb.block i hi)⟩
theorem Blk.keptK {m n g : Nat} {W W' : World} {t : TypeId} {cs : Array Value} (h : Blk W g t cs) (k : Kept m n W W') (h1 : g ≠ m) (h2 : g ≠ n) : Blk W' g t cs := (k.block g h.lt h1 h2).trans h

theorem Blk.keptB {g : Nat} {W W' : World} {t : TypeId} {cs : Array Value} (h : Blk W g t cs) (hb : Below W.heap.size W W') : Blk W' g t cs := h.below hb h.lt
/-- An index lies at x: its two maps. -/
structure Idx (W : World) (x m n : Nat) (s : Bool) (st : Option B) : Prop where
  at_ : Blk W x 69 #[.map (some m), .map (some n)]
  seen : W.heap[m]? = some (seenO s)
  bits : W.heap[n]? = some (bitsO st)
  ne : m ≠ n
  wf : ∀ b, st = some b → WF b
section
variable {W W' : World} {x m n : Nat} {s : Bool} {st : Option B}
theorem Idx.m_lt (h : Idx W x m n s st) : m < W.heap.size := (Array.getElem?_eq_some_iff.1 h.seen).1
theorem Idx.n_lt (h : Idx W x m n s st) : n < W.heap.size := (Array.getElem?_eq_some_iff.1 h.bits).1
theorem Idx.x_ne (h : Idx W x m n s st) : x ≠ m ∧ x ≠ n := by
  refine ⟨fun e => ?_, fun e => ?_⟩
  · subst e
    have := h.at_.symm.trans h.seen
    cases s <;> simp [seenO] at this
  · subst e
    have := h.at_.symm.trans h.bits
    cases st <;> simp [bitsO] at this
theorem Idx.blk_ne (h : Idx W x m n s st) {g : Nat} {t : TypeId} {cs : Array Value} (hb : Blk W g t cs) : g ≠ m ∧ g ≠ n := by
  refine ⟨fun e => ?_, fun e => ?_⟩
  · subst e
    have := hb.symm.trans h.seen
    cases s <;> simp [seenO] at this
  · subst e
    have := hb.symm.trans h.bits
    cases st <;> simp [bitsO] at this
theorem Idx.below (h : Idx W x m n s st) (hb : Below W.heap.size W W') : Idx W' x m n s st :=
  ⟨h.at_.keptB hb, (hb.block m h.m_lt).trans h.seen, (hb.block n h.n_lt).trans h.bits, h.ne, h.wf⟩
theorem Idx.set_seen (h : Idx W x m n s st) : Idx (setBlock W m (seenO true)) x m n true st :=
  ⟨(set_off W _ h.x_ne.1).trans h.at_, set_at W _ h.m_lt, (set_off W _ h.ne.symm).trans h.bits, h.ne, h.wf⟩
theorem Idx.set_bits (h : Idx W x m n s st) {b : B} (hb : WF b) : Idx (setBlock W n (bitsO (some b))) x m n s (some b) :=
  ⟨(set_off W _ h.x_ne.2).trans h.at_, (set_off W _ h.ne).trans h.seen, set_at W _ h.n_lt, h.ne, fun _ e => by cases e; exact hb⟩
theorem wf_at (h : ∀ b, st = some b → WF b) (a c : ByteArray) : WF (bitsAt st a c) := by
  match st, h with
  | none, _ => exact wf_zero
  | some b, h =>
    unfold bitsAt
    dsimp only
    split
    · exact h b rfl
    · exact wf_zero
end
/-- What is laid: the old fingerprint, or none, with the new one. -/
def layB (st : Option B) (b : B) : B := joinB (bitsAt st load host) b

def LayK (w : World) (x m n : Nat) (s : Bool) (st : Option B) (b : B) (W : World) : Prop := Below w.heap.size w W ∧ Idx W x m n s st ∧ Blk W w.heap.size 75 #[.string load, .string host] ∧ Blk W (w.heap.size + 1) 24 (bitsA b)
section
variable {w W W' : World} {x m n : Nat} {s : Bool} {st : Option B} {b : B}
theorem LayK.start (h : Idx w x m n s st) : LayK w x m n s st b (((w.alloc (.cells #[.string load, .string host] 75)).alloc (.cells (bitsA b) 24)).drew) := by
  have hb : Below w.heap.size w (((w.alloc (.cells #[.string load, .string host] 75)).alloc (.cells (bitsA b) 24)).drew) := (((Below.refl _ _).alloc (Nat.le_refl _) _).alloc (by simp) _).drew
  have h2 := Blk.new (w.alloc (.cells #[.string load, .string host] 75)) 24 (bitsA b)
  rw [World.size_alloc] at h2
  exact ⟨hb, h.below hb, ((Blk.new w 75 _).alloc _).drew, h2.drew⟩
theorem LayK.below (h : LayK w x m n s st b W) (hb : Below W.heap.size W W') : LayK w x m n s st b W' :=
  ⟨chain' h.1 hb, h.2.1.below hb, h.2.2.1.keptB hb, h.2.2.2.keptB hb⟩
theorem LayK.cells (h : LayK w x m n s st b W) :
    W.cell? ⟨x, 1, none⟩ = some (.map (some n)) ∧ W.cell? ⟨w.heap.size, 0, none⟩ = some (.string load) ∧ W.cell? ⟨w.heap.size, 1, none⟩ = some (.string host) ∧
    W.cell? ⟨w.heap.size + 1, 0, none⟩ = some (.int .u64 (b 0 : Int)) ∧ W.cell? ⟨w.heap.size + 1, 1, none⟩ = some (.int .u64 (b 1 : Int)) ∧ W.cell? ⟨w.heap.size + 1, 2, none⟩ = some (.int .u64 (b 2 : Int)) ∧ W.cell? ⟨w.heap.size + 1, 3, none⟩ = some (.int .u64 (b 3 : Int)) :=
  ⟨h.2.1.at_.cell 1, h.2.2.1.cell 0, h.2.2.1.cell 1, h.2.2.2.cell 0, h.2.2.2.cell 1, h.2.2.2.cell 2, h.2.2.2.cell 3⟩
theorem cell_set {W : World} {g i k : Nat} {o : Obj} {v : Option Value} (h : W.cell? ⟨g, i, none⟩ = v) (hg : g ≠ k) : (setBlock W k o).cell? ⟨g, i, none⟩ = v := by
  rw [← h]
  exact World.cell?_of_block (set_off W o hg)
theorem LayK.cells2 (h : LayK w x m n s st b W) (o : Obj) :
    (setBlock W n o).cell? ⟨x, 1, none⟩ = some (.map (some n)) ∧ (setBlock W n o).cell? ⟨w.heap.size, 0, none⟩ = some (.string load) ∧ (setBlock W n o).cell? ⟨w.heap.size, 1, none⟩ = some (.string host) ∧
    (setBlock W n o).cell? ⟨w.heap.size + 1, 0, none⟩ = some (.int .u64 (b 0 : Int)) ∧ (setBlock W n o).cell? ⟨w.heap.size + 1, 1, none⟩ = some (.int .u64 (b 1 : Int)) ∧ (setBlock W n o).cell? ⟨w.heap.size + 1, 2, none⟩ = some (.int .u64 (b 2 : Int)) ∧ (setBlock W n o).cell? ⟨w.heap.size + 1, 3, none⟩ = some (.int .u64 (b 3 : Int)) := by
  obtain ⟨h1, h2, h3, h4, h5, h6, h7⟩ := h.cells
  have e1 := (h.2.1.blk_ne h.2.2.1).2
  have e2 := (h.2.1.blk_ne h.2.2.2).2
  exact ⟨cell_set h1 h.2.1.x_ne.2, cell_set h2 e1, cell_set h3 e1, cell_set h4 e2, cell_set h5 e2, cell_set h6 e2, cell_set h7 e2⟩
theorem LayK.look (h : LayK w x m n s st b W) {K : B} (hK : K = bitsAt st load host) :
    (Instr.lookup 67 (.map (some n)) (.agg #[.string load, .string host]) false).run Try.prog W = .ok (.agg #[.int .u64 (K 0 : Int), .int .u64 (K 1 : Int), .int .u64 (K 2 : Int), .int .u64 (K 3 : Int)]) W := by
  subst hK
  exact look_bits h.2.1.bits load host
theorem LayK.upd (h : LayK w x m n s st b W) (J : B) :
    (Instr.mapUpdate 67 (.map (some n)) (.agg #[.string load, .string host]) (.agg #[.int .u64 (J 0 : Int), .int .u64 (J 1 : Int), .int .u64 (J 2 : Int), .int .u64 (J 3 : Int)])).run Try.prog W = .ok () (setBlock W n (bitsO (some J))) :=
  store_bits h.2.1.bits J
theorem LayK.fin (h : LayK w x m n s st b W) (hb : WF b) : Idx (setBlock W n (bitsO (some (layB st b)))) x m n s (some (layB st b)) ∧ Kept m n w (setBlock W n (bitsO (some (layB st b)))) :=
  ⟨h.2.1.set_bits (wf_joinB (wf_at h.2.1.wf _ _) hb), (Kept.of h.1).trans (Kept.set2 m n W _)⟩
end

theorem res_void {P : Program} {f : Func} {tmps : Array Value} {w : World} (hf : f.results = #[]) : (results f tmps).run P w = .ok (.tuple #[]) w := by
  simp [results, hf, go_sem]
theorem lay_any {w : World} {x m n : Nat} {s : Bool} {st : Option B} (b : B) (hb : WF b) (h : Idx w x m n s st) :
    Calls Try.prog 37 #[.pointer (some ⟨x, 0, none⟩), keyV load host, bitsV b] w fun e w' => e = .returned (.tuple #[]) ∧ Idx w' x m n s (some (layB st b)) ∧ Kept m n w w' := by
  have hj := join_any (bitsAt st load host) b (wf_at h.wf _ _) hb
  obtain ⟨J, hJ⟩ : ∃ J, J = layB st b := ⟨_, rfl⟩
  obtain ⟨K, hK⟩ : ∃ K, K = bitsAt st load host := ⟨_, rfl⟩
  rw [show joinB (bitsAt st load host) b = J from hJ.symm, ← hK, bitsV_eq K, bitsV_eq b, bitsV_eq J] at hj
  rw [bitsV_eq b]
  have HJ := Lib.hid hj
  have HK := Lib.hid hK
  have hk := LayK.start (b := b) h
  have HE := Lib.hid hJ
  clear hj hJ hK h
  have hl := hk.look HK.out
  unfold bitsA at hk hl
  unfold keyV
  go_enter Try.func37, Try.ntmps37
  go_wp2_with fail
  go_region_held3 (fun w' => w'.cell? ⟨x, 1, none⟩ = some (.map (some n)) ∧ w'.cell? ⟨w.heap.size, 0, none⟩ = some (.string load) ∧ w'.cell? ⟨w.heap.size, 1, none⟩ = some (.string host) ∧
    w'.cell? ⟨w.heap.size + 1, 0, none⟩ = some (.int .u64 (b 0 : Int)) ∧ w'.cell? ⟨w.heap.size + 1, 1, none⟩ = some (.int .u64 (b 1 : Int)) ∧ w'.cell? ⟨w.heap.size + 1, 2, none⟩ = some (.int .u64 (b 2 : Int)) ∧ w'.cell? ⟨w.heap.size + 1, 3, none⟩ = some (.int .u64 (b 3 : Int)))
    (first | exact LayK.cells (by assumption) | exact LayK.cells2 (by assumption) _ | go_keep)
    ((go_at_call 11; (with_reducible refine (HJ.out _).mono ?_); rintro e w1 ⟨rfl, hb1⟩; have hk := LayK.below (by assumption) hb1; have hu := LayK.upd hk J; clear hb1))
  exact bodyPost_end (v := .tuple #[]) (res_void rfl) rfl ⟨rfl, by rw [HE.out]; exact (LayK.fin (by assumption) hb)⟩
end Go.Proofs.Ytlddpcbbhglibaa
