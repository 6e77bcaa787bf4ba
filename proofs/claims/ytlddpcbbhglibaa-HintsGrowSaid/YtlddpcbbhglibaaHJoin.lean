/- The walks of maps.Copy and Join, of two indexes of the one schema. -/
import Derived.Test.YtlddpcbbhglibaaHIter
namespace Go.Proofs.Ytlddpcbbhglibaa
open Go.RowKit Bits
open Go.ChangeMaps (setBlock)
set_option maxHeartbeats 4000000

theorem copy_none {w : World} {m m2 : Nat} (h2 : w.heap[m2]? = some (seenO false)) :
    Calls Try.prog 36 #[.map (some m), .map (some m2)] w fun e w' => e = .returned (.tuple #[]) ∧ Below w.heap.size w w' := by
  have hr := range_66 h2
  have h2' : (w.alloc (.mapIter (some m2) 0 #[] 0)).heap[m2]? = some (.map #[] 0) := (Below.heap_alloc _ _ _ (Array.getElem?_eq_some_iff.1 h2).1).trans h2
  have hn := fun ty => next_none ty (heap_alloc_new w (.mapIter (some m2) 0 #[] 0)) h2'
  have HB := Lib.hid ((Below.refl w.heap.size w).alloc (Nat.le_refl _) (.mapIter (some m2) 0 #[] 0))
  clear h2 h2'
  go_enter Try.func36, Try.ntmps36
  go_wp2_with fail
  go_loopw [4, 5] (fun _ _ wr => wr = w.alloc (.mapIter (some m2) 0 #[] 0)) (fun _ _ _ => 0)
  case atStart => rfl
  case round =>
    subst hrel
    go_wp2_with fail
    exact bodyPost_end (v := .tuple #[]) (res_void rfl) rfl ⟨rfl, HB.out⟩

theorem copy_one {w : World} {m m2 : Nat} {s : Bool} (h1 : w.heap[m]? = some (seenO s)) (h2 : w.heap[m2]? = some (seenO true)) (hne : m ≠ m2) :
    Calls Try.prog 36 #[.map (some m), .map (some m2)] w fun e w' => e = .returned (.tuple #[]) ∧ w'.heap[m]? = some (seenO true) ∧ Kept m m w w' := by
  have hr := range_66 h2
  have l1 := (Array.getElem?_eq_some_iff.1 h1).1
  have l2 := (Array.getElem?_eq_some_iff.1 h2).1
  obtain ⟨W1, hW1⟩ : ∃ W1, W1 = w.alloc (.mapIter (some m2) 1 #[] 1) := ⟨_, rfl⟩
  have a1 : W1.heap[m]? = some (seenO s) := by rw [hW1]; exact (Below.heap_alloc _ _ _ l1).trans h1
  have a2 : W1.heap[m2]? = some (seenO true) := by rw [hW1]; exact (Below.heap_alloc _ _ _ l2).trans h2
  have a3 : W1.heap[w.heap.size]? = some (.mapIter (some m2) 1 #[] 1) := by rw [hW1]; exact heap_alloc_new w _
  have aK : Kept m m w W1 := by rw [hW1]; exact Kept.of ((Below.refl _ _).alloc (Nat.le_refl _) _)
  have hn1 := fun ty => next_first (v := .bool true) (k := .string load) ty a3 a2
  obtain ⟨W2, hW2⟩ : ∃ W2, W2 = setBlock W1 w.heap.size (.mapIter (some m2) 1 #[0] 1) := ⟨_, rfl⟩
  have b1 : W2.heap[m]? = some (seenO s) := by rw [hW2, set_off _ _ (by omega)]; exact a1
  have b2 : W2.heap[m2]? = some (seenO true) := by rw [hW2, set_off _ _ (by omega)]; exact a2
  have b3 : W2.heap[w.heap.size]? = some (.mapIter (some m2) 1 #[0] 1) := by rw [hW2]; exact set_at _ _ (Array.getElem?_eq_some_iff.1 a3).1
  have bK : Kept m m w W2 := ⟨by rw [hW2]; exact aK.os, by rw [hW2]; exact aK.tape, by rw [hW2]; exact aK.output, by rw [hW2, set_size]; exact aK.size, fun i hi h h' => by rw [hW2, set_off _ _ (by omega)]; exact aK.block i hi h h'⟩
  have he := entry_one (v := .bool true) (k := .string load) b3 b2
  have hu := store_seen b1
  obtain ⟨W3, hW3⟩ : ∃ W3, W3 = setBlock W2 m (seenO true) := ⟨_, rfl⟩
  have c1 : W3.heap[m]? = some (seenO true) := by rw [hW3]; exact set_at _ _ (Array.getElem?_eq_some_iff.1 b1).1
  have c2 : W3.heap[m2]? = some (seenO true) := by rw [hW3, set_off _ _ hne.symm]; exact b2
  have c3 : W3.heap[w.heap.size]? = some (.mapIter (some m2) 1 #[0] 1) := by rw [hW3, set_off _ _ (by omega)]; exact b3
  have cK : Kept m m w W3 := bK.trans (by rw [hW3]; exact Kept.set1 m m W2 _)
  have hn2 := fun ty => next_last (v := .bool true) (k := .string load) ty c3 c2
  rw [← hW1] at hr
  rw [← hW2] at hn1
  rw [← hW3] at hu
  have HP := Lib.hid (And.intro c1 cK)
  have HL1 := Lib.hid (show itLeft w.heap.size W1 = 1 by unfold itLeft; rw [a3]; rfl)
  have HL3 := Lib.hid (show itLeft w.heap.size W3 = 0 by unfold itLeft; rw [c3]; rfl)
  clear h1 h2 a1 a2 a3 aK b1 b2 b3 bK c1 c2 c3 cK hW1 hW2 hW3 l1 l2 hne
  go_enter Try.func36, Try.ntmps36
  go_wp2_with fail
  go_loopw [4, 5] (fun _ _ wr => wr = W1 ∨ wr = W3) (fun _ _ wr => itLeft w.heap.size wr)
  case atStart => exact .inl rfl
  case round =>
    rcases hrel with rfl | rfl
    · go_wp2_with fail
      exact ⟨.inr trivial, by rw [HL1.out, HL3.out]; decide⟩
    · go_wp2_with fail
      exact bodyPost_end (v := .tuple #[]) (res_void rfl) rfl ⟨rfl, HP.out⟩

/-- Another index, whose maps are not the one's. -/
structure Apart (m n y m2 n2 : Nat) : Prop where
  a : m2 ≠ m
  b : m2 ≠ n
  c : n2 ≠ m
  d : n2 ≠ n
theorem Idx.keptA {w w' : World} {m n y m2 n2 : Nat} {s2 : Bool} {st2 : Option B} (h : Idx w y m2 n2 s2 st2) (ap : Apart m n y m2 n2) (k : Kept m n w w') (hy : y ≠ m ∧ y ≠ n) : Idx w' y m2 n2 s2 st2 :=
  ⟨h.at_.keptK k hy.1 hy.2, (k.block m2 h.m_lt ap.a ap.b).trans h.seen, (k.block n2 h.n_lt ap.c ap.d).trans h.bits, h.ne, h.wf⟩
def joinSt (st st2 : Option B) : Option B := match st2 with
  | none => st
  | some b => some (layB st b)

/-- Both indexes' heads, in memory. -/
def JK (w : World) (x m y m2 : Nat) (n n2 : Nat) (W : World) : Prop := w.heap.size ≤ W.heap.size ∧ Blk W x 69 #[.map (some m), .map (some n)] ∧ Blk W y 69 #[.map (some m2), .map (some n2)]
theorem JK.cells {w W : World} {x m y m2 n n2 : Nat} (h : JK w x m y m2 n n2 W) : W.cell? ⟨x, 0, none⟩ = some (.map (some m)) ∧ W.cell? ⟨y, 0, none⟩ = some (.map (some m2)) := ⟨h.2.1.cell 0, h.2.2.cell 0⟩

theorem join_none {w : World} {x m n y m2 n2 : Nat} {s : Bool} {st : Option B} (hx : Idx w x m n s st) (hy : Idx w y m2 n2 false none) :
    Calls Try.prog 26 #[.pointer (some ⟨x, 0, none⟩), .pointer (some ⟨y, 0, none⟩)] w fun e w' => e = .returned (.tuple #[]) ∧ Idx w' x m n s st ∧ Below w.heap.size w w' := by
  have hc : ∀ W, Below w.heap.size w W → Calls Try.prog 36 #[.map (some m), .map (some m2)] W fun e w' => e = .returned (.tuple #[]) ∧ Below W.heap.size W w' := fun W hW => copy_none ((hW.block m2 hy.m_lt).trans hy.seen)
  have HC := Lib.hid hc
  have HX := Lib.hid hx
  have HY := Lib.hid hy
  have hk : JK w x m y m2 n n2 w.drew := ⟨Nat.le_refl _, hx.at_.drew, hy.at_.drew⟩
  have hB : Below w.heap.size w w.drew := (Below.refl _ _).drew
  clear hc hx hy
  go_enter Try.func26, Try.ntmps26
  go_wp2_with fail
  go_region_held3 (fun w' => w'.cell? ⟨x, 0, none⟩ = some (.map (some m)) ∧ w'.cell? ⟨y, 0, none⟩ = some (.map (some m2)))
    (first | exact JK.cells (by assumption) | go_keep)
    ((go_at_call 36; (with_reducible refine (HC.out _ (by assumption)).mono ?_); rintro e w1 ⟨rfl, hb1⟩; have hB1 := chain' (by assumption) hb1; have hk1 : JK w x m y m2 n n2 w1 := ⟨hB1.size, (HX.out.below hB1).at_, (HY.out.below hB1).at_⟩; clear hb1))
  have HX1 := Lib.hid (HX.out.below hB1)
  have hy1 := HY.out.below hB1
  have HB1 := Lib.hid hB1
  have y1 : w1.cell? ⟨y, 1, none⟩ = some (.map (some n2)) := hy1.at_.cell 1
  have hr := range_67 hy1.bits
  have h2' : (w1.alloc (.mapIter (some n2) 0 #[] 0)).heap[n2]? = some (.map #[] 0) := (Below.heap_alloc _ _ _ hy1.n_lt).trans hy1.bits
  have hn := fun ty => next_none ty (heap_alloc_new w1 (.mapIter (some n2) 0 #[] 0)) h2'
  have HB2 := Lib.hid (HB1.out.alloc HB1.out.size (.mapIter (some n2) 0 #[] 0))
  have HX2 := Lib.hid (HX.out.below HB2.out)
  clear hk hk1 hB hB1 hy1 h2'
  go_wp2_with fail
  go_loopw [24] (fun _ wr => wr = w1.alloc (.mapIter (some n2) 0 #[] 0)) (fun _ _ => 0)
  case atStart => rfl
  case round =>
    subst hrel
    go_wp2_with fail
    exact bodyPost_end (v := .tuple #[]) (res_void rfl) rfl ⟨rfl, HX2.out, HB2.out⟩
end Go.Proofs.Ytlddpcbbhglibaa
