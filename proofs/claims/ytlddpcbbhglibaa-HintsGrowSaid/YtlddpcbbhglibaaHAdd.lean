/- The walks of texts and Add, for points of the one schema. -/
import Derived.Test.YtlddpcbbhglibaaHLay
namespace Go.Proofs.Ytlddpcbbhglibaa
open Go.RowKit Bits
open Go.ChangeMaps (setBlock)
set_option maxHeartbeats 4000000

def colA (c : ByteArray) (k : Int) : Array Value := #[.string c, .int .i64 k]
def valA (k : Int) (t : ByteArray) : Array Value := #[.int .i64 k, .int .i64 0, .string t, .int .i64 0, .int .i64 0, .int .i64 0, .int .i64 0, .int .i64 0, .int .i64 0, .int .i64 0, .int .i64 0]
def slice1 (g : Nat) : Value := .slice (some ⟨g, 0, none⟩) 1 1
/-- The fingerprint of a host's whole text. -/
def wB (t : ByteArray) : B := ofB (wholeS t)

def TxtK (w : World) (g h : Nat) (t : ByteArray) (W : World) : Prop := w.heap.size ≤ W.heap.size ∧ Blk W g 72 (colA host 2) ∧ Blk W h 56 (valA 2 t)
section
variable {w W W' : World} {x m n g h : Nat} {s : Bool} {st : Option B} {t : ByteArray}
theorem TxtK.below (k : TxtK w g h t W) (hb : Below W.heap.size W W') : TxtK w g h t W' := ⟨Nat.le_trans k.1 hb.size, k.2.1.keptB hb, k.2.2.keptB hb⟩
theorem TxtK.kept (k : TxtK w g h t W) (i : Idx W x m n s st) (hb : Kept m n W W') : TxtK w g h t W' :=
  ⟨Nat.le_trans k.1 hb.size, k.2.1.keptK hb (i.blk_ne k.2.1).1 (i.blk_ne k.2.1).2, k.2.2.keptK hb (i.blk_ne k.2.2).1 (i.blk_ne k.2.2).2⟩
theorem TxtK.cells (k : TxtK w g h t W) : W.cell? ⟨g, 0, none⟩ = some (.string host) ∧ W.cell? ⟨h, 2, none⟩ = some (.string t) := ⟨k.2.1.cell 0, k.2.2.cell 2⟩
end

theorem texts_str {w : World} {x m n g h : Nat} {s : Bool} {st : Option B} {t : ByteArray} (ht : t.size ≤ 140737488351232) (hi : Idx w x m n s st) (hg : Blk w g 72 (colA host 2)) (hv : Blk w h 56 (valA 2 t)) :
    Calls Try.prog 35 #[.pointer (some ⟨x, 0, none⟩), .string load, slice1 g, slice1 h] w fun e w' => e = .returned (.tuple #[]) ∧ Idx w' x m n s (some (layB st (wB t))) ∧ Kept m n w w' := by
  have hl : ∀ w' s' st', Idx w' x m n s' st' → Calls Try.prog 37 #[.pointer (some ⟨x, 0, none⟩), keyV load host, bitsV (wB t)] w' fun e w2 => e = .returned (.tuple #[]) ∧ Idx w2 x m n s' (some (layB st' (wB t))) ∧ Kept m n w' w2 := fun w' s' st' h' => lay_any (wB t) (wf_ofB _) h'
  have hw := whole_any t ht
  rw [show ofB (wholeS t) = wB t from rfl] at hw
  obtain ⟨b, hb⟩ : ∃ b, b = wB t := ⟨_, rfl⟩
  rw [← hb] at hl hw ⊢
  rw [bitsV_eq b] at hl hw
  unfold keyV at hl
  have HL := Lib.hid hl
  have HW := Lib.hid hw
  have k0 : w.cell? ⟨h, 0, none⟩ = some (.int .i64 2) := hv.cell 0
  have hk : TxtK w g h t w.drew := ⟨Nat.le_refl _, hg.drew, hv.drew⟩
  have hI : Idx w.drew x m n s st := hi.below (Below.refl _ _).drew
  have hK : Kept m n w w.drew := Kept.of (Below.refl _ _).drew
  clear hl hw hg hv hb ht hi
  unfold slice1
  go_enter Try.func35, Try.ntmps35
  go_wp2_with fail
  go_loopw [14] (fun c wr => (c = .int .i64 0 ∧ wr = w) ∨ (c = .int .i64 1 ∧ Idx wr x m n s (some (layB st b)) ∧ Kept m n w wr)) (fun c _ => 2 - (intOf c).toNat)
  case atStart => exact .inl ⟨rfl, rfl⟩
  case round =>
    rcases hrel with ⟨rfl, rfl⟩ | ⟨rfl, hI', hK'⟩
    · go_wp2_with fail
      go_region_held3 (fun w' => w'.cell? ⟨g, 0, none⟩ = some (.string host) ∧ w'.cell? ⟨h, 2, none⟩ = some (.string t))
        (first | exact TxtK.cells (by assumption) | go_keep)
        (first
          | (go_at_call 19; (with_reducible refine (HW.out _).mono ?_); rintro e w1 ⟨rfl, hb1⟩; have hk := TxtK.below (by assumption) hb1; have hI := Idx.below (by assumption) hb1; have hK := Kept.trans (by assumption) (Kept.of (m := m) (n := n) hb1); clear hb1)
          | (go_at_call 37; (with_reducible refine (HL.out _ _ _ (by assumption)).mono ?_); rintro e w2 ⟨rfl, hI2, hK2⟩; have hk := TxtK.kept (by assumption) (by assumption) hK2; have hK3 := Kept.trans (by assumption) hK2; clear hK2))
      have HP := Lib.hid (And.intro hI2 hK3)
      clear hI2 hK3
      go_wp2_with fail
      exact ⟨.inr ⟨rfl, HP.out⟩, by simp [intOf]⟩
    · have HP := Lib.hid (And.intro hI' hK')
      clear hI' hK' hI hK hk k0
      go_wp2_with fail
      exact bodyPost_end (v := .tuple #[]) (res_void rfl) rfl ⟨rfl, HP.out⟩

theorem texts_int {w : World} {x g h : Nat} (hv : Blk w h 56 (valA 1 ⟨#[]⟩)) :
    Calls Try.prog 35 #[.pointer (some ⟨x, 0, none⟩), .string load, slice1 g, slice1 h] w fun e w' => e = .returned (.tuple #[]) ∧ Below w.heap.size w w' := by
  have k0 : w.cell? ⟨h, 0, none⟩ = some (.int .i64 1) := hv.cell 0
  clear hv
  unfold slice1
  go_enter Try.func35, Try.ntmps35
  go_wp2_with fail
  go_loopw [14] (fun c wr => (c = .int .i64 0 ∨ c = .int .i64 1) ∧ wr = w) (fun c _ => 2 - (intOf c).toNat)
  case atStart => exact ⟨.inl rfl, rfl⟩
  case round =>
    obtain ⟨rfl | rfl, rfl⟩ := hrel
    · go_wp2_with fail
      exact ⟨⟨.inr rfl, trivial⟩, by simp [intOf]⟩
    · go_wp2_with fail
      exact bodyPost_end (v := .tuple #[]) (res_void rfl) rfl ⟨rfl, Below.refl _ _⟩

def schemaA (g1 g2 : Nat) : Array Value := #[.string load, slice1 g1, slice1 g2]
def pointA (h1 h2 : Nat) : Array Value := #[.string load, slice1 h1, .int .i64 0, slice1 h2]
/-- The schema's columns and a point's values, in memory. -/
structure Parts (W : World) (g1 g2 h1 h2 : Nat) (t : ByteArray) : Prop where
  c1 : Blk W g1 72 (colA host 2)
  c2 : Blk W g2 72 (colA ⟨#[110]⟩ 1)
  v1 : Blk W h1 56 (valA 2 t)
  v2 : Blk W h2 56 (valA 1 ⟨#[]⟩)
theorem Parts.below {W W' : World} {g1 g2 h1 h2 : Nat} {t : ByteArray} (k : Parts W g1 g2 h1 h2 t) (hb : Below W.heap.size W W') : Parts W' g1 g2 h1 h2 t := ⟨k.c1.keptB hb, k.c2.keptB hb, k.v1.keptB hb, k.v2.keptB hb⟩
theorem Parts.kept {W W' : World} {g1 g2 h1 h2 x m n : Nat} {s : Bool} {st : Option B} {t : ByteArray} (k : Parts W g1 g2 h1 h2 t) (i : Idx W x m n s st) (hb : Kept m n W W') : Parts W' g1 g2 h1 h2 t :=
  ⟨k.c1.keptK hb (i.blk_ne k.c1).1 (i.blk_ne k.c1).2, k.c2.keptK hb (i.blk_ne k.c2).1 (i.blk_ne k.c2).2, k.v1.keptK hb (i.blk_ne k.v1).1 (i.blk_ne k.v1).2, k.v2.keptK hb (i.blk_ne k.v2).1 (i.blk_ne k.v2).2⟩
/-- Behind the boxes: the index, the parts, and both boxes. -/
structure AddK (w : World) (x m n : Nat) (s : Bool) (st : Option B) (g1 g2 h1 h2 : Nat) (t : ByteArray) (W : World) : Prop where
  idx : Idx W x m n s st
  parts : Parts W g1 g2 h1 h2 t
  box1 : Blk W w.heap.size 41 (schemaA g1 g2)
  box2 : Blk W (w.heap.size + 1) 45 (pointA h1 h2)
  kept : Kept m n w W
section
variable {w W W' : World} {x m n g1 g2 h1 h2 : Nat} {s s' : Bool} {st st' : Option B} {t : ByteArray}
theorem AddK.start (i : Idx w x m n s st) (p : Parts w g1 g2 h1 h2 t) : AddK w x m n s st g1 g2 h1 h2 t (((w.alloc (.cells (schemaA g1 g2) 41)).alloc (.cells (pointA h1 h2) 45)).drew) := by
  have hb : Below w.heap.size w (((w.alloc (.cells (schemaA g1 g2) 41)).alloc (.cells (pointA h1 h2) 45)).drew) := (((Below.refl _ _).alloc (Nat.le_refl _) _).alloc (by simp) _).drew
  have h2' := Blk.new (w.alloc (.cells (schemaA g1 g2) 41)) 45 (pointA h1 h2)
  rw [World.size_alloc] at h2'
  exact ⟨i.below hb, p.below hb, ((Blk.new w 41 _).alloc _).drew, h2'.drew, Kept.of hb⟩
theorem AddK.step (k : AddK w x m n s st g1 g2 h1 h2 t W) (i : Idx W' x m n s' st') (hb : Kept m n W W') : AddK w x m n s' st' g1 g2 h1 h2 t W' :=
  ⟨i, k.parts.kept k.idx hb, k.box1.keptK hb (k.idx.blk_ne k.box1).1 (k.idx.blk_ne k.box1).2, k.box2.keptK hb (k.idx.blk_ne k.box2).1 (k.idx.blk_ne k.box2).2, k.kept.trans hb⟩
theorem AddK.below (k : AddK w x m n s st g1 g2 h1 h2 t W) (hb : Below W.heap.size W W') : AddK w x m n s st g1 g2 h1 h2 t W' := k.step (k.idx.below hb) (Kept.of hb)
theorem AddK.seen (k : AddK w x m n s st g1 g2 h1 h2 t W) : AddK w x m n true st g1 g2 h1 h2 t (setBlock W m (seenO true)) := k.step k.idx.set_seen (Kept.set1 m n W _)
theorem AddK.cells (k : AddK w x m n s st g1 g2 h1 h2 t W) : W.cell? ⟨x, 0, none⟩ = some (.map (some m)) ∧ W.cell? ⟨w.heap.size, 0, none⟩ = some (.string load) := ⟨k.idx.at_.cell 0, k.box1.cell 0⟩
theorem AddK.box (k : AddK w x m n s st g1 g2 h1 h2 t W) : W.cell? ⟨w.heap.size, 0, none⟩ = some (.string load) ∧ W.cell? ⟨w.heap.size, 1, none⟩ = some (slice1 g1) ∧ W.cell? ⟨w.heap.size, 2, none⟩ = some (slice1 g2) ∧
    W.cell? ⟨w.heap.size + 1, 1, none⟩ = some (slice1 h1) ∧ W.cell? ⟨w.heap.size + 1, 3, none⟩ = some (slice1 h2) := ⟨k.box1.cell 0, k.box1.cell 1, k.box1.cell 2, k.box2.cell 1, k.box2.cell 3⟩
theorem AddK.upd (k : AddK w x m n s st g1 g2 h1 h2 t W) : (Instr.mapUpdate 66 (.map (some m)) (.string load) (.bool true)).run Try.prog W = .ok () (setBlock W m (seenO true)) := store_seen k.idx.seen
end

theorem add_any {w : World} {x m n g1 g2 h1 h2 : Nat} {s : Bool} {st : Option B} {t : ByteArray} (ht : t.size ≤ 140737488351232) (hi : Idx w x m n s st) (hp : Parts w g1 g2 h1 h2 t) :
    Calls Try.prog 23 #[.pointer (some ⟨x, 0, none⟩), .agg (schemaA g1 g2), .agg (pointA h1 h2)] w fun e w' => e = .returned (.tuple #[]) ∧ Idx w' x m n true (some (layB st (wB t))) ∧ Kept m n w w' := by
  have hk := AddK.start hi hp
  have hu := hk.upd
  have HT := Lib.hid ht
  clear hi hp ht
  unfold schemaA pointA slice1 at hk hu
  unfold schemaA pointA slice1
  go_enter Try.func23, Try.ntmps23
  go_wp2_with fail
  go_region_held3 (fun w' => w'.cell? ⟨x, 0, none⟩ = some (.map (some m)) ∧ w'.cell? ⟨w.heap.size, 0, none⟩ = some (.string load))
    (first | exact AddK.cells (by assumption) | exact AddK.cells (AddK.seen (by assumption)) | go_keep)
    (fail)
  have hk1 := AddK.seen hk
  clear hk hu
  generalize setBlock _ m (seenO true) = W1 at hk1 ⊢
  obtain ⟨a0, a1, a2, a3, a4⟩ := hk1.box
  unfold slice1 at a1 a2 a3 a4
  have H1 := Lib.hid hk1
  clear hk1
  go_wp2_with fail
  refine (texts_str HT.out H1.out.idx H1.out.parts.c1 H1.out.parts.v1).mono ?_
  rintro e w2 ⟨rfl, hI2, hK2⟩
  have hk2 := H1.out.step hI2 hK2
  obtain ⟨b0, b1, b2, b3, b4⟩ := hk2.box
  unfold slice1 at b1 b2 b3 b4
  have H2 := Lib.hid hk2
  clear hk2 hI2 hK2 a0 a1 a2 a3 a4
  go_wp2_with fail
  refine (texts_int H2.out.parts.v2).mono ?_
  rintro e w3 ⟨rfl, hb3⟩
  have H3 := Lib.hid (H2.out.below hb3)
  clear hb3
  go_wp2_with fail
  exact bodyPost_end (v := .tuple #[]) (res_void rfl) rfl ⟨rfl, H3.out.idx, H3.out.kept⟩
end Go.Proofs.Ytlddpcbbhglibaa
