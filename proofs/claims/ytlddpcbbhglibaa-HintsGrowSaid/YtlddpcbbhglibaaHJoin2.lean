/- The walk of Join where the other index holds something. -/
import Derived.Test.YtlddpcbbhglibaaHJoin
namespace Go.Proofs.Ytlddpcbbhglibaa
open Go.RowKit Bits
open Go.ChangeMaps (setBlock)
set_option maxHeartbeats 4000000

theorem Kept.wide {m n : Nat} {w w' : World} (k : Kept m m w w') : Kept m n w w' := ⟨k.os, k.tape, k.output, k.size, fun i hi h _ => k.block i hi h h⟩
/-- What the ranging stands at. -/
structure RJ (w : World) (x m n : Nat) (st : Option B) (n2 r : Nat) (b : B) (it : Array Nat) (W : World) : Prop where
  idx : Idx W x m n true st
  oth : W.heap[n2]? = some (bitsO (some b))
  iter : W.heap[r]? = some (.mapIter (some n2) 1 it 1)
  kept : Kept m n w W
section
variable {w W W' : World} {x m n n2 r : Nat} {st st' : Option B} {b : B} {it : Array Nat}
theorem RJ.below (h : RJ w x m n st n2 r b it W) (hb : Below W.heap.size W W') : RJ w x m n st n2 r b it W' :=
  ⟨h.idx.below hb, (hb.block _ (Array.getElem?_eq_some_iff.1 h.oth).1).trans h.oth, (hb.block _ (Array.getElem?_eq_some_iff.1 h.iter).1).trans h.iter, h.kept.trans (Kept.of hb)⟩
theorem RJ.step (h : RJ w x m n st n2 r b it W) (i : Idx W' x m n true st') (k : Kept m n W W') (h1 : n2 ≠ m) (h2 : n2 ≠ n) : RJ w x m n st' n2 r b it W' := by
  have r1 : r ≠ m := fun e => by
    have := h.iter
    rw [e, h.idx.seen] at this
    cases this
  have r2 : r ≠ n := fun e => by
    have := h.iter
    rw [e, h.idx.bits] at this
    cases st <;> cases this
  exact ⟨i, (k.block _ (Array.getElem?_eq_some_iff.1 h.oth).1 h1 h2).trans h.oth, (k.block _ (Array.getElem?_eq_some_iff.1 h.iter).1 r1 r2).trans h.iter, h.kept.trans k⟩
theorem RJ.turn (h : RJ w x m n st n2 r b #[] W) (hr : w.heap.size ≤ r) (hn2 : n2 < w.heap.size) (hm : m < w.heap.size) (hn : n < w.heap.size) (hx : x < w.heap.size) : RJ w x m n st n2 r b #[0] (setBlock W r (.mapIter (some n2) 1 #[0] 1)) := by
  refine ⟨⟨(set_off _ _ (by omega)).trans h.idx.at_, (set_off _ _ (by omega)).trans h.idx.seen, (set_off _ _ (by omega)).trans h.idx.bits, h.idx.ne, h.idx.wf⟩, (set_off _ _ (by omega)).trans h.oth, set_at _ _ (Array.getElem?_eq_some_iff.1 h.iter).1, ?_⟩
  refine ⟨h.kept.os, h.kept.tape, h.kept.output, by rw [set_size]; exact h.kept.size, fun i hi h1 h2 => ?_⟩
  rw [set_off _ _ (by omega)]
  exact h.kept.block i hi h1 h2
end

theorem join_some {w : World} {x m n y m2 n2 : Nat} {s : Bool} {st : Option B} {b : B} (hx : Idx w x m n s st) (hy : Idx w y m2 n2 true (some b)) (ap : Apart m n y m2 n2) :
    Calls Try.prog 26 #[.pointer (some ⟨x, 0, none⟩), .pointer (some ⟨y, 0, none⟩)] w fun e w' => e = .returned (.tuple #[]) ∧ Idx w' x m n true (some (layB st b)) ∧ Kept m n w w' := by
  have hc : ∀ W, Below w.heap.size w W → Calls Try.prog 36 #[.map (some m), .map (some m2)] W fun e w' => e = .returned (.tuple #[]) ∧ w'.heap[m]? = some (seenO true) ∧ Kept m m W w' := fun W hW => copy_one ((hW.block m hx.m_lt).trans hx.seen) ((hW.block m2 hy.m_lt).trans hy.seen) ap.a.symm
  have hwf := hy.wf b rfl
  have hl : ∀ w', Idx w' x m n true st → Calls Try.prog 37 #[.pointer (some ⟨x, 0, none⟩), keyV load host, bitsV b] w' fun e w2 => e = .returned (.tuple #[]) ∧ Idx w2 x m n true (some (layB st b)) ∧ Kept m n w' w2 := fun w' h' => lay_any b hwf h'
  rw [bitsV_eq b] at hl
  unfold keyV at hl
  have HC := Lib.hid hc
  have HL := Lib.hid hl
  have HX := Lib.hid hx
  have HY := Lib.hid hy
  have HA := Lib.hid ap
  have hk : JK w x m y m2 n n2 w.drew := ⟨Nat.le_refl _, hx.at_.drew, hy.at_.drew⟩
  have hB : Below w.heap.size w w.drew := (Below.refl _ _).drew
  have LX := hx.at_.lt
  have LM := hx.m_lt
  have LN := hx.n_lt
  have LN2 := hy.n_lt
  clear hc hx hy ap hl hwf
  go_enter Try.func26, Try.ntmps26
  go_wp2_with fail
  go_region_held3 (fun w' => w'.cell? ⟨x, 0, none⟩ = some (.map (some m)) ∧ w'.cell? ⟨y, 0, none⟩ = some (.map (some m2)))
    (first | exact JK.cells (by assumption) | go_keep)
    ((go_at_call 36; (with_reducible refine (HC.out _ (by assumption)).mono ?_); rintro e w1 ⟨rfl, hm1, hk0⟩; have hK1 := Kept.trans (Kept.of (by assumption)) (Kept.wide (n := m) hk0); have hk1 : JK w x m y m2 n n2 w1 := ⟨hK1.size, HX.out.at_.keptK hK1 HX.out.x_ne.1 HX.out.x_ne.1, HY.out.at_.keptK hK1 (HX.out.blk_ne HY.out.at_).1 (HX.out.blk_ne HY.out.at_).1⟩; clear hk0))
  have hX1 : Idx w1 x m n true st := ⟨hk1.2.1, hm1, (hK1.block n LN HX.out.ne.symm HX.out.ne.symm).trans HX.out.bits, HX.out.ne, HX.out.wf⟩
  have hY1 : w1.heap[n2]? = some (bitsO (some b)) := (hK1.block n2 LN2 HA.out.c HA.out.c).trans HY.out.bits
  have y1 : w1.cell? ⟨y, 1, none⟩ = some (.map (some n2)) := hk1.2.2.cell 1
  have hr := range_67 hY1
  obtain ⟨r, hrr⟩ : ∃ r, r = w1.heap.size := ⟨_, rfl⟩
  obtain ⟨W2, hW2⟩ : ∃ W2, W2 = w1.alloc (.mapIter (some n2) 1 #[] 1) := ⟨_, rfl⟩
  have hR : RJ w x m n st n2 r b #[] W2 := by
    have hb : Below w1.heap.size w1 W2 := by rw [hW2]; exact (Below.refl _ _).alloc (Nat.le_refl _) _
    refine ⟨hX1.below hb, (hb.block _ (Array.getElem?_eq_some_iff.1 hY1).1).trans hY1, ?_, (Kept.wide hK1).trans (Kept.of hb)⟩
    rw [hrr, hW2]
    exact heap_alloc_new w1 _
  have hn1 := fun ty => next_first ty hR.iter hR.oth
  have hsz : w.heap.size ≤ r := by rw [hrr]; exact hK1.size
  have hR3 := hR.turn hsz LN2 LM LN LX
  obtain ⟨W3, hW3⟩ : ∃ W3, W3 = setBlock W2 r (.mapIter (some n2) 1 #[0] 1) := ⟨_, rfl⟩
  rw [← hW3] at hn1 hR3
  have he := entry_one hR3.iter hR3.oth
  rw [bitsV_eq b] at hn1 he
  unfold keyV at hn1 he
  rw [← hrr, ← hW2] at hr
  have HR3 := Lib.hid hR3
  have HM := Lib.hid (show itLeft r W2 = 1 by unfold itLeft; rw [hR.iter]; rfl)
  have HRE := Lib.hid hrr
  have HWE := Lib.hid hW2
  clear hk hk1 hB hK1 hm1 hX1 hY1 hR hR3 hW2 hW3 hrr
  go_wp2_with fail
  go_loopw [24] (fun _ wr => wr = W2 ∨ RJ w x m n (some (layB st b)) n2 r b #[0] wr) (fun _ wr => itLeft r wr)
  case atStart => exact .inl rfl
  case round =>
    rcases hrel with rfl | hR5
    · go_wp2_with fail
      have hb4 := (new2 W3 #[.string load, .string host] #[.int .u64 (b 0 : Int), .int .u64 (b 1 : Int), .int .u64 (b 2 : Int), .int .u64 (b 3 : Int)] 75 24).2.2
      have HR4 := Lib.hid (HR3.out.below hb4)
      clear hb4
      refine (HL.out _ HR4.out.idx).mono ?_
      rintro e w5 ⟨rfl, hi5, hk5⟩
      have HR5 := Lib.hid (HR4.out.step hi5 hk5 HA.out.c HA.out.d)
      clear hi5 hk5
      go_wp2_with fail
      exact ⟨.inr HR5.out, by rw [HM.out]; unfold itLeft; rw [HR5.out.iter]; exact (by decide : 1 - (#[0] : Array Nat).size < 1)⟩
    · have hn2 := fun ty => next_last ty hR5.iter hR5.oth
      have HP := Lib.hid (And.intro hR5.idx hR5.kept)
      clear hR5 hn1 he hr
      go_wp2_with fail
      exact bodyPost_end (v := .tuple #[]) (res_void rfl) rfl ⟨rfl, HP.out⟩
end Go.Proofs.Ytlddpcbbhglibaa
