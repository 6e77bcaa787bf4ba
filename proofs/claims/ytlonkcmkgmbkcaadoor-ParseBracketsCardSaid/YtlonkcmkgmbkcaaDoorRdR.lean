/- The deferred closure of package parse's all: it catches what wrong panicked, or finds nothing. -/
import Derived.Test.YtlonkcmkgmbkcaaDoorRdQ
import Derived.Defers
import Derived.Recover
namespace Go.Proofs.YtlonkcmkgmbkcaaDoor
open Go.RowKit LexS ParS BigFrame
set_option maxHeartbeats 4000000
set_option linter.unusedVariables false
set_option linter.unusedSimpArgs false
attribute [local go_sem] World.cell?_alloc_some cell_drewN_new free_drewN_new cell_drew_new free_drew_new

theorem wrong_is (x c : Int) (W : World) : (Instr.typeAssert (.iface 74 (.agg #[.int .i64 x, .int .i64 c])) 20 74 true).run Tryd.prog W = .ok (.tuple #[.agg #[.int .i64 x, .int .i64 c], .bool true]) W := by kernel_rfl
attribute [local go_sem] wrong_is
section
variable {W : World} {p0 p1 p2 B : Nat} {x c : Int}
set_option maxRecDepth 100000 in
theorem caught (h0 : Blk W p0 39 #[.slice none 0 0]) (h1 : Blk W p1 3 #[.int .i64 0]) (h2 : Blk W p2 24 #[.int .i64 0]) (n01 : p0 ≠ p1) (n02 : p0 ≠ p2) (n12 : p1 ≠ p2) (b0 : B ≤ p0) (b1 : B ≤ p1) (b2 : B ≤ p2) :
    CallsD Tryd.prog 48 #[.pointer (some ⟨p0, 0, none⟩), .pointer (some ⟨p1, 0, none⟩), .pointer (some ⟨p2, 0, none⟩)] (.panicking [{ v := .iface 74 (.agg #[.int .i64 x, .int .i64 c]), recovered := false }]) W fun e u' W' =>
      e = .returned (.tuple #[]) ∧ u' = .panicking [{ v := .iface 74 (.agg #[.int .i64 x, .int .i64 c]), recovered := true }] ∧ Below B W W' ∧ Blk W' p0 39 #[.slice none 0 0] ∧ Blk W' p1 3 #[.int .i64 x] ∧ Blk W' p2 24 #[.int .i64 c] := by
  have c0 : W.cell? ⟨p0, 0, none⟩ = some (.slice none 0 0) := h0.cell 0
  have c1 : W.cell? ⟨p1, 0, none⟩ = some (.int .i64 0) := h1.cell 0
  have c2 : W.cell? ⟨p2, 0, none⟩ = some (.int .i64 0) := h2.cell 0
  have f0 := h0.free 0
  have f1 := h1.free 0
  have f2 := h2.free 0
  have l0 : p0 ≠ W.heap.size := Nat.ne_of_lt h0.lt
  have l1 : p1 ≠ W.heap.size := Nat.ne_of_lt h1.lt
  have l2 : p2 ≠ W.heap.size := Nat.ne_of_lt h2.lt
  have hb : Below W.heap.size W (W.alloc (.cells #[.int .i64 x, .int .i64 c] 74)) := (Below.refl _ _).alloc (Nat.le_refl _) _
  have g0 := (h0.kept hb).free 0
  have g1 := (h1.kept hb).free 0
  have g2 := (h2.kept hb).free 0
  have d0 : (W.alloc (.cells #[.int .i64 x, .int .i64 c] 74)).cell? ⟨p0, 0, none⟩ = some (.slice none 0 0) := (h0.kept hb).cell 0
  have d1 : (W.alloc (.cells #[.int .i64 x, .int .i64 c] 74)).cell? ⟨p1, 0, none⟩ = some (.int .i64 0) := (h1.kept hb).cell 0
  have d2 : (W.alloc (.cells #[.int .i64 x, .int .i64 c] 74)).cell? ⟨p2, 0, none⟩ = some (.int .i64 0) := (h2.kept hb).cell 0
  have HH := Lib.hid (And.intro (h0.kept hb) (And.intro (h1.kept hb) (And.intro (h2.kept hb) hb)))
  refine callsD_of_wpS Tryd.func48 rfl fun c₀ cs hu => ?_
  apply wpS_seq
  apply wpS_region
  simp [wpOpsS, go_sem, recoverD, hu, Tryd.ntmps48, Exit.thenS]
  refine wpS_of_wp ?_
  show Code.wp _ _ _ { tmps := #[.pointer (some ⟨p0, 0, none⟩), .pointer (some ⟨p1, 0, none⟩), .pointer (some ⟨p2, 0, none⟩), undef, undef, undef, .iface 74 (.agg #[.int .i64 x, .int .i64 c]), undef, undef, undef, undef, undef, undef, undef, undef, undef, undef], defers := [] } W
  go_wp2_with fail
  go_region
  have k0 := ((HH.out.1.put 0 (.slice none 0 0)).far (show p0 ≠ (⟨p1, 0, none⟩ : Addr).block from n01) (.int .i64 x)).far (show p0 ≠ (⟨p2, 0, none⟩ : Addr).block from n02) (.int .i64 c)
  have k1 := ((HH.out.2.1.far (show p1 ≠ (⟨p0, 0, none⟩ : Addr).block from Ne.symm n01) (.slice none 0 0)).put 0 (.int .i64 x)).far (show p1 ≠ (⟨p2, 0, none⟩ : Addr).block from n12) (.int .i64 c)
  have k2 := ((HH.out.2.2.1.far (show p2 ≠ (⟨p0, 0, none⟩ : Addr).block from Ne.symm n02) (.slice none 0 0)).far (show p2 ≠ (⟨p1, 0, none⟩ : Addr).block from Ne.symm n12) (.int .i64 x)).put 0 (.int .i64 c)
  have hB : B ≤ W.heap.size := Nat.le_trans b0 (Nat.le_of_lt h0.lt)
  have kb := ((((HH.out.2.2.2.mono hB).setCell (p := ⟨p0, 0, none⟩) b0 (.slice none 0 0)).setCell (p := ⟨p1, 0, none⟩) b1 (.int .i64 x)).setCell (p := ⟨p2, 0, none⟩) b2 (.int .i64 c)).drew
  exact ⟨rfl, _, rfl, .tuple #[], results_none rfl _ _ _, rfl, rfl, kb, k0, k1, k2⟩
theorem idle : CallsD Tryd.prog 48 #[.pointer (some ⟨p0, 0, none⟩), .pointer (some ⟨p1, 0, none⟩), .pointer (some ⟨p2, 0, none⟩)] .returning W fun e u' W' => e = .returned (.tuple #[]) ∧ u' = .returning ∧ W' = W := by
  refine callsD_of_wpS Tryd.func48 rfl fun c₀ cs hu => ?_
  apply wpS_seq
  apply wpS_region
  simp [wpOpsS, go_sem, recoverD, hu, Tryd.ntmps48, Exit.thenS]
  refine wpS_of_wp ?_
  show Code.wp _ _ _ { tmps := #[.pointer (some ⟨p0, 0, none⟩), .pointer (some ⟨p1, 0, none⟩), .pointer (some ⟨p2, 0, none⟩), undef, undef, undef, .nilIface, undef, undef, undef, undef, undef, undef, undef, undef, undef, undef], defers := [] } W
  go_wp2_with fail
  cases c₀
  simp_all [bodyPostS, results]
end
end Go.Proofs.YtlonkcmkgmbkcaaDoor
