/- The walk of Clone. -/
import Derived.Test.YtlddpcbbhglibaaHSure
import Derived.Laws.Externs
import Derived.MapKept
namespace Go.Proofs.Ytlddpcbbhglibaa
open Go.RowKit Bits
open Go.ChangeMaps (setBlock)
set_option maxHeartbeats 4000000

section
variable {P : Program}
theorem eqIn_nil (w : World) (d : Nat) (t k e : TypeId) (p : Option Nat) (h : P.underlying t = some (.map k e)) : (Op.equalIn (d + 1) t (.map p) (.map none)).run P w = .ok p.isNone w := by
  cases p <;> simp [Op.equalIn, run_underlying h]
theorem eq_nil (w : World) (t k e : TypeId) (p : Option Nat) (h : P.underlying t = some (.map k e)) : (binOp .eql t (.map p) (.map none)).run P w = .ok (.bool p.isNone) w := by
  have h1 : (Op.equalIn (9999 + 1) t (.map p) (.map none)).run P w = .ok p.isNone w := eqIn_nil w 9999 t k e p h
  simp only [binOp]
  simp [show Op.equal t (.map p) (.map none) = Op.equalIn (9999 + 1) t (.map p) (.map none) from rfl, h1]
theorem assert_map (w : World) (t xT k e : TypeId) (v : Value) (h : P.underlying t = some (.map k e)) : (Instr.typeAssert (.iface t v) xT t false).run P w = .ok v w := by
  simp [Instr.typeAssert, run_underlying h, go_sem, Result.andThen]
theorem run_clone {r : Nat} {es : Array MapEntry} {ck : Nat} (w : World) (t : TypeId) (hb : w.heap[r]? = some (.map es ck)) : (Extern.MapsClone.clone #[.iface t (.map (some r))]).run P w = .ok (.iface t (.map (some w.heap.size))) (w.alloc (.map es ck)) := by
  have e : Extern.MapsClone.clone #[.iface t (.map (some r))] = (getObj r >>= fun o => match o with
      | .map es' c' => (newObj (.map es' c') >>= fun n => pure (.iface t (.map (some n))))
      | _ => stuck "maps.clone: a map expected") := rfl
  rw [e]
  simp [MapKept.run_getObj_map hb, Result.andThen, go_sem]
end
theorem clone66 {r : Nat} {es : Array MapEntry} {ck : Nat} (w : World) (hb : w.heap[r]? = some (.map es ck)) : Calls Try.prog 38 #[.map (some r)] w fun e w' => e = .returned (.map (some w.heap.size)) ∧ w' = w.alloc (.map es ck) := by
  have hq := fun w => eq_nil (P := Try.prog) w 66 _ _ (some r) und66
  go_enter Try.func38, Try.ntmps38
  go_wp2
  rw [run_callFunc_extern Try.func40 (by kernel_rfl) (by kernel_rfl) (by kernel_rfl) (e := Extern.MapsClone.clone) (by kernel_rfl), run_clone w 66 hb]
  simp only [Result.andThen]
  rw [Oper.upon_value]
  go_wp2
  rw [assert_map _ 66 20 _ _ _ und66]
  simp only [Result.andThen]
  rw [Oper.upon_value]
  go_wp2
  go_ret
  exact ⟨rfl, rfl⟩
theorem clone67 {r : Nat} {es : Array MapEntry} {ck : Nat} (w : World) (hb : w.heap[r]? = some (.map es ck)) : Calls Try.prog 39 #[.map (some r)] w fun e w' => e = .returned (.map (some w.heap.size)) ∧ w' = w.alloc (.map es ck) := by
  have hq := fun w => eq_nil (P := Try.prog) w 67 _ _ (some r) und67
  go_enter Try.func39, Try.ntmps39
  go_wp2
  rw [run_callFunc_extern Try.func40 (by kernel_rfl) (by kernel_rfl) (by kernel_rfl) (e := Extern.MapsClone.clone) (by kernel_rfl), run_clone w 67 hb]
  simp only [Result.andThen]
  rw [Oper.upon_value]
  go_wp2
  rw [assert_map _ 67 20 _ _ _ und67]
  simp only [Result.andThen]
  rw [Oper.upon_value]
  go_wp2
  go_ret
  exact ⟨rfl, rfl⟩
theorem seenO_map (s : Bool) : ∃ es ck, seenO s = .map es ck := by cases s <;> exact ⟨_, _, rfl⟩
theorem bitsO_map (st : Option B) : ∃ es ck, bitsO st = .map es ck := by cases st <;> exact ⟨_, _, rfl⟩
theorem cloneS {r : Nat} {s : Bool} (w : World) (hb : w.heap[r]? = some (seenO s)) : Calls Try.prog 38 #[.map (some r)] w fun e w' => e = .returned (.map (some w.heap.size)) ∧ w' = w.alloc (seenO s) := by
  obtain ⟨es, ck, h⟩ := seenO_map s
  rw [h] at hb ⊢
  exact clone66 w hb
theorem cloneB {r : Nat} {st : Option B} (w : World) (hb : w.heap[r]? = some (bitsO st)) : Calls Try.prog 39 #[.map (some r)] w fun e w' => e = .returned (.map (some w.heap.size)) ∧ w' = w.alloc (bitsO st) := by
  obtain ⟨es, ck, h⟩ := bitsO_map st
  rw [h] at hb ⊢
  exact clone67 w hb
/-- A block of the call's own. -/
structure Mine (w W : World) (r : Nat) (o : Obj) : Prop where
  base : w.heap.size ≤ r
  at_ : W.heap[r]? = some o
  below : Below w.heap.size w W
theorem Mine.lt {w W : World} {r : Nat} {o : Obj} (h : Mine w W r o) : r < W.heap.size := (Array.getElem?_eq_some_iff.1 h.at_).1
theorem Mine.step {w W W' : World} {r : Nat} {o : Obj} (h : Mine w W r o) (hb : Below W.heap.size W W') : Mine w W' r o := ⟨h.base, (hb.block r h.lt).trans h.at_, chain' h.below hb⟩
theorem Mine.new {w W : World} (o : Obj) (hb : Below w.heap.size w W) : Mine w (W.alloc o) W.heap.size o := ⟨hb.size, heap_alloc_new W o, chain' hb ((Below.refl _ _).alloc (Nat.le_refl _) o)⟩
theorem clone_fin {w W : World} {s : Bool} {st : Option B} {m n : Nat} (hm : Mine w W m (seenO s)) (hn : Mine w W n (bitsO st)) (ne : m ≠ n) (wf : ∀ b, st = some b → WF b) :
    Idx (W.alloc (.cells #[.map (some m), .map (some n)] 69)) W.heap.size m n s st ∧ w.heap.size ≤ m ∧ w.heap.size ≤ n ∧ w.heap.size ≤ W.heap.size ∧ Below w.heap.size w (W.alloc (.cells #[.map (some m), .map (some n)] 69)) := by
  have hb : Below W.heap.size W (W.alloc (.cells #[.map (some m), .map (some n)] 69)) := (Below.refl _ _).alloc (Nat.le_refl _) _
  exact ⟨⟨Blk.new W 69 _, (hm.step hb).at_, (hn.step hb).at_, ne, wf⟩, hm.base, hn.base, hm.below.size, (hm.step hb).below⟩
theorem cloneS' {w W : World} {x m n : Nat} {s : Bool} {st : Option B} (hi : Idx W x m n s st) (hb : Below w.heap.size w W) : Calls Try.prog 38 #[.map (some m)] W fun e w' => e = .returned (.map (some W.heap.size)) ∧ Mine w w' W.heap.size (seenO s) ∧ Idx w' x m n s st ∧ Below w.heap.size w w' ∧ Below W.heap.size W w' := by
  refine (cloneS W hi.seen).mono ?_
  rintro e w' ⟨rfl, rfl⟩
  have h := Mine.new (seenO s) hb
  have hk : Below W.heap.size W (W.alloc (seenO s)) := (Below.refl _ _).alloc (Nat.le_refl _) _
  exact ⟨rfl, h, hi.below hk, h.below, hk⟩
theorem cloneB' {w W : World} {x m n : Nat} {s : Bool} {st : Option B} (hi : Idx W x m n s st) (hb : Below w.heap.size w W) : Calls Try.prog 39 #[.map (some n)] W fun e w' => e = .returned (.map (some W.heap.size)) ∧ Mine w w' W.heap.size (bitsO st) ∧ Idx w' x m n s st ∧ Below w.heap.size w w' ∧ Below W.heap.size W w' := by
  refine (cloneB W hi.bits).mono ?_
  rintro e w' ⟨rfl, rfl⟩
  have h := Mine.new (bitsO st) hb
  have hk : Below W.heap.size W (W.alloc (bitsO st)) := (Below.refl _ _).alloc (Nat.le_refl _) _
  exact ⟨rfl, h, hi.below hk, h.below, hk⟩
theorem clone_any {w : World} {x m n : Nat} {s : Bool} {st : Option B} (h : Idx w x m n s st) :
    Calls Try.prog 31 #[.pointer (some ⟨x, 0, none⟩)] w fun e w' => ∃ y m' n', e = .returned (.pointer (some ⟨y, 0, none⟩)) ∧ Idx w' y m' n' s st ∧ w.heap.size ≤ m' ∧ w.heap.size ≤ n' ∧ w.heap.size ≤ y ∧ Below w.heap.size w w' := by
  have hwf := Lib.hid h.wf
  have hi : Idx w.drew x m n s st := h.below (Below.refl _ _).drew
  have hb : Below w.heap.size w w.drew := (Below.refl _ _).drew
  clear h
  go_enter Try.func31, Try.ntmps31
  go_wp2_with fail
  go_region_held3 (fun w' => w'.cell? ⟨x, 0, none⟩ = some (.map (some m)) ∧ w'.cell? ⟨x, 1, none⟩ = some (.map (some n)))
    (first | exact ⟨(Idx.at_ (by assumption)).cell 0, (Idx.at_ (by assumption)).cell 1⟩ | go_keep)
    (first
      | (go_at_call 38; (with_reducible refine (cloneS' (w := w) (by assumption) (by assumption)).mono ?_); rintro e w1 ⟨rfl, hS, hi1, hb1, hk1⟩)
      | (go_at_call 39; (with_reducible refine (cloneB' (w := w) (by assumption) (by assumption)).mono ?_); rintro e w2 ⟨rfl, hB, hi2, hb2, hk2⟩))
  · have HR := Lib.hid (clone_fin (hS.step hk2) hB (Nat.ne_of_lt hS.lt) hwf.out)
    clear hS hi1 hb1 hk1 hB hi2 hb2 hk2
    go_wp2_with fail
    exact bodyPost_ret (results_tmp rfl _ _ _) rfl ⟨_, _, _, rfl, HR.out⟩
end Go.Proofs.Ytlddpcbbhglibaa
