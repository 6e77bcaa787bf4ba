/- The walks of package parse's within, not. -/
import Derived.Test.YtlonkcmkgmbkcaaDoorRdE
namespace Go.Proofs.YtlonkcmkgmbkcaaDoor
open Go.RowKit LexS ParS BigFrame
set_option maxHeartbeats 4000000
set_option linter.unusedVariables false
set_option linter.unusedSimpArgs false
attribute [local go_sem] field_tok1 field_tok2
attribute [local go_sem] World.cell?_alloc_some cell_drewN_new free_drewN_new cell_drew_new free_drew_new

/-! Boxes of the call's own, as lists -/
def setMany (l : List Value) : Nat → List Value → List Value
  | _, [] => l
  | o, v :: r => setMany (l.set o v) (o + 1) r
section
variable {W : World} {b : Nat} {t : TypeId} {l : List Value}
theorem box_put (h : Blk W b t l.toArray) (i : Nat) (v : Value) : Blk (W.setCell ⟨b, i, none⟩ v) b t (l.set i v).toArray := by
  have := h.put i v
  rwa [List.setIfInBounds_toArray] at this
theorem box_puts : ∀ (vs : List Value) {W : World} {l : List Value} (o : Nat), Blk W b t l.toArray → Blk (W.setCells b o vs) b t (setMany l o vs).toArray
  | [], W, l, o, h => h
  | v :: r, W, l, o, h => box_puts r (o + 1) (box_put h o v)
theorem box_range (h : Blk W b t l.toArray) : W.rangeAt b 0 l := by
  intro j v hj
  rw [Nat.zero_add, h.cell j]
  simpa using hj
theorem box_there {o n : Nat} (h : Blk W b t l.toArray) (hn : o + n ≤ l.length) : W.there b o n := fun j hj => by
  refine ⟨?_, h.free _⟩
  rw [h.cell]
  have : o + j < l.length := by omega
  simp [this]
theorem far_puts {g : Nat} {u : TypeId} {cs : Array Value} (hg : g ≠ b) : ∀ (vs : List Value) {W : World} (o : Nat), Blk W g u cs → Blk (W.setCells b o vs) g u cs
  | [], W, o, h => h
  | v :: r, W, o, h => far_puts hg r (o + 1) (h.far hg v)
theorem mv_puts {r : Nat} {W0 : World} (hb : W0.heap.size ≤ b) : ∀ (vs : List Value) {W : World} (o : Nat), Mv r W0 W → Mv r W0 (W.setCells b o vs)
  | [], W, o, h => h
  | v :: s, W, o, h => mv_puts hb s (o + 1) (h.far hb o v)
end
theorem lay_any' {base r deep : Nat} {tv nv : Value} {T : List Tok} {ts : List Tk} {ns : List Nd} {W : World} (m : NodeM) (h : RS base r tv T deep ts ns nv W) (hm : MOk W base m) (hn : ns.length ≤ 100000) (hbase : base ≤ W.heap.size) :
    Calls Tryd.prog 66 #[RP r, .agg m.cells.toArray] W fun e W' => ∃ nv', e = .returned (.int .i64 (ns.length : Int)) ∧ RS base r tv T deep ts (ns ++ [m.node]) nv' W' ∧ Stp r nv W nv' W' := lay_any m h hm hn hbase
theorem one_nd (kd : Nat) (s : Bytes) (n fr to_ : Int) (v : Val) {lv nv av : Value} (h1 : lv.oneCell' = true) (h2 : nv.oneCell' = true) (h3 : av.oneCell' = true) (l : List Nat) (nm : List Bytes) (ag : List (Nat × Bytes)) :
    (NodeM.cells ⟨⟨kd, s, n, fr, to_, v, l, nm, ag⟩, lv, nv, av⟩).toArray.all (·.oneCell') = true := by
  refine all_oneCell_toArray ?_
  intro u hu
  simp only [NodeM.cells, List.mem_cons, List.not_mem_nil, or_false] at hu
  rcases hu with rfl | rfl | rfl | rfl | rfl | rfl | rfl | rfl | rfl | rfl | rfl | rfl | rfl | rfl | rfl | rfl | rfl | rfl | rfl
  all_goals first | rfl | assumption
/-- A new box of a node, with what is stored into it. -/
theorem nd_new (W : World) (m : NodeM) : Blk ((W.alloc (.cells zeroNd 48)).setCells W.heap.size 0 m.cells) W.heap.size 48 m.cells.toArray :=
  box_puts m.cells (l := zeroNd.toList) 0 (Blk.new W _ _)
theorem nd_there (W : World) : (W.alloc (.cells zeroNd 48)).there W.heap.size 0 19 := box_there (l := zeroNd.toList) (Blk.new W _ _) (by decide)
section
variable {base r deep : Nat} {tv nv nv' : Value} {T : List Tok} {ts ts1 : List Tk} {ns : List Nd} {W W' : World}
/-- Too much is open. -/
theorem within_deep {fv : Value} (h : RS base r tv T deep ts ns nv W) (hd : 16 ≤ deep) (hd2 : deep ≤ 100) (ht : ts.length + 1 ≤ T.length) :
    Calls Tryd.prog 87 #[RP r, fv] W fun e W' => e = Bad T (ts.length + 1) true ∧ W = W' := by
  have hfew := h.few
  obtain ⟨i, hi⟩ : ∃ i, i = T.length - ts.length := ⟨_, rfl⟩
  have c1 : W.cell? ⟨r, 1, none⟩ = some (.int .i64 (i : Int)) := by rw [hi]; exact h.box.cell 1
  have c2 : W.cell? ⟨r, 2, none⟩ = some (.int .i64 (deep : Int)) := h.box.cell 2
  have q1 : (16 : Int) ≤ (deep : Int) := by omega
  have q2 : decide ((16 : Int) ≤ (deep : Int)) = true := decide_eq_true q1
  have HB := Lib.hid (show Bad T (ts.length + 1) true = .panicked [{ v := .iface 74 (.agg #[.int .i64 ((i : Int) - 1), .int .i64 2]), recovered := false }] by
    unfold Bad
    rw [show ((T.length - (ts.length + 1) : Nat) : Int) = (i : Int) - 1 by omega]
    rfl)
  have hi1 : 1 ≤ i := by omega
  have hi2 : i ≤ 1024 := by omega
  clear hi h
  go_enter Tryd.func87, Tryd.ntmps87
  go_wp2_with fail
  exact ⟨rfl, HB.out.symm, rfl⟩
/-- Something that is opened: a call at one more depth. -/
theorem within_mid (h : RS base r tv T deep ts ns nv W) : RS base r tv T (deep + 1) ts ns nv (W.setCell ⟨r, 2, none⟩ (.int .i64 ((deep : Int) + 1))) ∧ Stp r nv W nv (W.setCell ⟨r, 2, none⟩ (.int .i64 ((deep : Int) + 1))) :=
  ⟨h.deeper (by omega), (Stp.refl r nv W).set 2 _⟩
theorem within_not {p : M Nat} (h : RS base r tv T deep ts ns nv W) (hd : deep < 16)
    (hr : ∀ W1 : World, RS base r tv T (deep + 1) ts ns nv W1 → W.heap.size ≤ W1.heap.size → Calls Tryd.prog 68 #[RP r] W1 (PostN base r tv T (deep + 1) nv W1 (p ts ns))) :
    Calls Tryd.prog 87 #[RP r, .func (.func 68) #[RP r] #[]] W (PostN base r tv T deep nv W (p ts ns)) := by
  have c2 : W.cell? ⟨r, 2, none⟩ = some (.int .i64 (deep : Int)) := h.box.cell 2
  have f2 := h.box.free 2
  have q1 : ¬ (16 : Int) ≤ (deep : Int) := by omega
  have q2 : decide ((16 : Int) ≤ (deep : Int)) = false := decide_eq_false q1
  have hm := within_mid h
  have HM := Lib.hid hm
  have HR := Lib.hid (hr _ hm.1 hm.2.size)
  clear hm hr h
  go_enter Tryd.func87, Tryd.ntmps87
  go_wp2_with fail
  refine HR.out.mono ?_
  rintro e w1 hp
  rcases hpr : p ts ns with ⟨k, long⟩ | ⟨a, ts1, ns1⟩
  · rw [hpr] at hp
    obtain ⟨rfl, nv1, s1⟩ := hp
    have HF := Lib.hid (And.intro hpr (HM.out.2.trans s1))
    clear hpr s1
    unfold Bad
    go_wp2_with fail
    exact ⟨rfl, by first | exact ⟨rfl, _, HF.out.2⟩ | (rw [HF.out.1]; exact ⟨rfl, _, HF.out.2⟩)⟩
  · rw [hpr] at hp
    obtain ⟨nv1, rfl, h1, s1⟩ := hp
    have c2 : w1.cell? ⟨r, 2, none⟩ = some (.int .i64 ((deep : Int) + 1)) := h1.box.cell 2
    have f2 := h1.box.free 2
    have HF := Lib.hid (And.intro hpr (And.intro (h1.deeper (d2 := deep) (a := (deep : Int)) rfl) ((HM.out.2.trans s1).set 2 (.int .i64 (deep : Int)))))
    have v1 : IntKind.i64.wrap ((deep : Int) + 1 - 1) = (deep : Int) := by rw [show ((deep : Int) + 1 - 1) = (deep : Int) by omega]; exact IntWalk.i64_in _ (by omega)
    have v2 : ((deep : Int) + 1 - 1) = (deep : Int) := by omega
    clear hpr h1 s1
    go_wp2_with fail
    exact bodyPost_ret (results_tmp rfl _ _ _) rfl (by first | exact ⟨_, rfl, HF.out.2⟩ | (rw [HF.out.1]; exact ⟨_, rfl, HF.out.2⟩))
theorem within_cond {p : M Nat} {bx : Nat} (h : RS base r tv T deep ts ns nv W) (hd : deep < 16) (hbx : Blk W bx 62 #[RP r]) (hne : bx ≠ r)
    (hr : ∀ W1 : World, RS base r tv T (deep + 1) ts ns nv W1 → W.heap.size ≤ W1.heap.size → Blk W1 bx 62 #[RP r] → Calls Tryd.prog 88 #[.pointer (some ⟨bx, 0, none⟩)] W1 (PostN base r tv T (deep + 1) nv W1 (p ts ns))) :
    Calls Tryd.prog 87 #[RP r, .func (.func 88) #[] #[.pointer (some ⟨bx, 0, none⟩)]] W (PostN base r tv T deep nv W (p ts ns)) := by
  have c2 : W.cell? ⟨r, 2, none⟩ = some (.int .i64 (deep : Int)) := h.box.cell 2
  have f2 := h.box.free 2
  have q1 : ¬ (16 : Int) ≤ (deep : Int) := by omega
  have q2 : decide ((16 : Int) ≤ (deep : Int)) = false := decide_eq_false q1
  have hm := within_mid h
  have HM := Lib.hid hm
  have HR := Lib.hid (hr _ hm.1 hm.2.size (hbx.far hne _))
  clear hm hr h
  go_enter Tryd.func87, Tryd.ntmps87
  go_wp2_with fail
  refine HR.out.mono ?_
  rintro e w1 hp
  rcases hpr : p ts ns with ⟨k, long⟩ | ⟨a, ts1, ns1⟩
  · rw [hpr] at hp
    obtain ⟨rfl, nv1, s1⟩ := hp
    have HF := Lib.hid (And.intro hpr (HM.out.2.trans s1))
    clear hpr s1
    unfold Bad
    go_wp2_with fail
    exact ⟨rfl, by first | exact ⟨rfl, _, HF.out.2⟩ | (rw [HF.out.1]; exact ⟨rfl, _, HF.out.2⟩)⟩
  · rw [hpr] at hp
    obtain ⟨nv1, rfl, h1, s1⟩ := hp
    have c2 : w1.cell? ⟨r, 2, none⟩ = some (.int .i64 ((deep : Int) + 1)) := h1.box.cell 2
    have f2 := h1.box.free 2
    have HF := Lib.hid (And.intro hpr (And.intro (h1.deeper (d2 := deep) (a := (deep : Int)) rfl) ((HM.out.2.trans s1).set 2 (.int .i64 (deep : Int)))))
    have v1 : IntKind.i64.wrap ((deep : Int) + 1 - 1) = (deep : Int) := by rw [show ((deep : Int) + 1 - 1) = (deep : Int) by omega]; exact IntWalk.i64_in _ (by omega)
    have v2 : ((deep : Int) + 1 - 1) = (deep : Int) := by omega
    clear hpr h1 s1
    go_wp2_with fail
    exact bodyPost_ret (results_tmp rfl _ _ _) rfl (by first | exact ⟨_, rfl, HF.out.2⟩ | (rw [HF.out.1]; exact ⟨_, rfl, HF.out.2⟩))
theorem within_query {p : M Nat} {bx : Nat} (h : RS base r tv T deep ts ns nv W) (hd : deep < 16) (hbx : Blk W bx 62 #[RP r]) (hne : bx ≠ r)
    (hr : ∀ W1 : World, RS base r tv T (deep + 1) ts ns nv W1 → W.heap.size ≤ W1.heap.size → Blk W1 bx 62 #[RP r] → Calls Tryd.prog 104 #[.pointer (some ⟨bx, 0, none⟩)] W1 (PostN base r tv T (deep + 1) nv W1 (p ts ns))) :
    Calls Tryd.prog 87 #[RP r, .func (.func 104) #[] #[.pointer (some ⟨bx, 0, none⟩)]] W (PostN base r tv T deep nv W (p ts ns)) := by
  have c2 : W.cell? ⟨r, 2, none⟩ = some (.int .i64 (deep : Int)) := h.box.cell 2
  have f2 := h.box.free 2
  have q1 : ¬ (16 : Int) ≤ (deep : Int) := by omega
  have q2 : decide ((16 : Int) ≤ (deep : Int)) = false := decide_eq_false q1
  have hm := within_mid h
  have HM := Lib.hid hm
  have HR := Lib.hid (hr _ hm.1 hm.2.size (hbx.far hne _))
  clear hm hr h
  go_enter Tryd.func87, Tryd.ntmps87
  go_wp2_with fail
  refine HR.out.mono ?_
  rintro e w1 hp
  rcases hpr : p ts ns with ⟨k, long⟩ | ⟨a, ts1, ns1⟩
  · rw [hpr] at hp
    obtain ⟨rfl, nv1, s1⟩ := hp
    have HF := Lib.hid (And.intro hpr (HM.out.2.trans s1))
    clear hpr s1
    unfold Bad
    go_wp2_with fail
    exact ⟨rfl, by first | exact ⟨rfl, _, HF.out.2⟩ | (rw [HF.out.1]; exact ⟨rfl, _, HF.out.2⟩)⟩
  · rw [hpr] at hp
    obtain ⟨nv1, rfl, h1, s1⟩ := hp
    have c2 : w1.cell? ⟨r, 2, none⟩ = some (.int .i64 ((deep : Int) + 1)) := h1.box.cell 2
    have f2 := h1.box.free 2
    have HF := Lib.hid (And.intro hpr (And.intro (h1.deeper (d2 := deep) (a := (deep : Int)) rfl) ((HM.out.2.trans s1).set 2 (.int .i64 (deep : Int)))))
    have v1 : IntKind.i64.wrap ((deep : Int) + 1 - 1) = (deep : Int) := by rw [show ((deep : Int) + 1 - 1) = (deep : Int) by omega]; exact IntWalk.i64_in _ (by omega)
    have v2 : ((deep : Int) + 1 - 1) = (deep : Int) := by omega
    clear hpr h1 s1
    go_wp2_with fail
    exact bodyPost_ret (results_tmp rfl _ _ _) rfl (by first | exact ⟨_, rfl, HF.out.2⟩ | (rw [HF.out.1]; exact ⟨_, rfl, HF.out.2⟩))

end
end Go.Proofs.YtlonkcmkgmbkcaaDoor
