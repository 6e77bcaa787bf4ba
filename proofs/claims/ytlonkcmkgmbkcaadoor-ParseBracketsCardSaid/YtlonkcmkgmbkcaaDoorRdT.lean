/- The walks of package parse's Parse and Cond. -/
import Derived.Test.YtlonkcmkgmbkcaaDoorRdS
namespace Go.Proofs.YtlonkcmkgmbkcaaDoor
open Go.RowKit LexS ParS BigFrame
set_option maxHeartbeats 4000000
set_option linter.unusedVariables false
set_option linter.unusedSimpArgs false
attribute [local go_sem] World.cell?_alloc_some cell_drewN_new free_drewN_new cell_drew_new free_drew_new

section
variable {W : World} {tv : Value} {T : List Tok}
theorem res_q {f : Func} {r q u g : Nat} {tmps : Array Value} {w : World} {nv b c : Value} (hf : f.results = #[.cell r 39, .tmp q, .tmp u]) (ht : tmps[r]?.getD undef = .pointer (some ⟨g, 0, none⟩)) (hq : tmps[q]?.getD undef = b) (hu : tmps[u]?.getD undef = c)
    (h : Blk w g 39 #[nv]) : (results f tmps).run Tryd.prog w = .ok (.tuple #[.agg #[nv], b, c]) w := by
  have e0 : w.cell? ⟨g, 0, none⟩ = some nv := h.cell 0
  simp [results, hf, go_sem, ht, hq, hu, e0]
theorem cost_query (d : Nat) : Cost 0 0 (pQuery d) := cost_queryOf (cost_step (cost_inner d) (cost_pCond d))
theorem one_put {W W0 w1 : World} {nv : Value} {ns : List Nd} (hb0 : Below W.heap.size W W0) (hs0 : W.heap.size < W0.heap.size) (k0 : Blk W0 W.heap.size 39 #[.slice none 0 0]) (hn : NS w1 W0.heap.size nv ns) (hb : Below W0.heap.size W0 w1) :
    Blk (w1.setCell ⟨W.heap.size, 0, none⟩ nv) W.heap.size 39 #[nv] ∧ NS (w1.setCell ⟨W.heap.size, 0, none⟩ nv) W.heap.size nv ns ∧ Below W.heap.size W (w1.setCell ⟨W.heap.size, 0, none⟩ nv) :=
  ⟨(k0.kept hb).put 0 nv, hn.high (fun k hk => Below.heap_setCell _ _ _ _ (show k ≠ W.heap.size by omega)) (by omega), (hb0.trans (hb.mono (Nat.le_of_lt hs0))).setCell (p := ⟨W.heap.size, 0, none⟩) (Nat.le_refl _) nv⟩

set_option maxRecDepth 100000 in
theorem parse_any (htoks : W.ownsRow 0 32 4 tv T.length (toksL T)) : Calls Tryd.prog 28 #[tv] W (PostAll W (parseS T)) := by
  obtain ⟨W0, hW0⟩ : ∃ W0, W0 = W.alloc (.cells #[.slice none 0 0] 39) := ⟨_, rfl⟩
  have hb0 : Below W.heap.size W W0 := by rw [hW0]; exact (Below.refl _ _).alloc (Nat.le_refl _) _
  have k0 : Blk W0 W.heap.size 39 #[.slice none 0 0] := by rw [hW0]; exact Blk.new W _ _
  have hs0 : W.heap.size < W0.heap.size := k0.lt
  have HA := Lib.hid (all_query (pQuery_reads 16 0 rfl) (cost_query 16) (own_kept htoks hb0))
  have HK := Lib.hid (And.intro hb0 (And.intro hs0 k0))
  have HW0 := Lib.hid hW0
  clear hb0 k0 hs0 htoks
  go_enter Tryd.func28, Tryd.ntmps28
  go_wp2_with fail
  rw [show W.alloc (.cells #[.slice none 0 0] 39) = W0 from HW0.out.symm]
  clear hW0
  refine HA.out.mono ?_
  rintro e w1 ⟨nv, rfl, hn, hb⟩
  obtain ⟨no, nc, rfl⟩ : ∃ o c, nv = .slice o (parseS T).1.length c := by
    obtain ⟨ms, _, ho, _⟩ := hn
    exact row_slice ho
  have k1 := HK.out.2.2.kept hb
  have c0 : w1.cell? ⟨W.heap.size, 0, none⟩ = some (.slice none 0 0) := k1.cell 0
  have f0 := k1.free 0
  have HF := Lib.hid (one_put HK.out.1 HK.out.2.1 HK.out.2.2 hn hb)
  clear hn hb k1
  go_wp2_with fail
  exact bodyPost_ret (res_q Tryd.results28 rfl rfl rfl HF.out.1) rfl ⟨_, rfl, HF.out.2.1, HF.out.2.2⟩

end
end Go.Proofs.YtlonkcmkgmbkcaaDoor
