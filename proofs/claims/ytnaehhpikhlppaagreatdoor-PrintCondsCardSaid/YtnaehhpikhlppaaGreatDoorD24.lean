/- Several texts of the proof, joined. -/
import Derived.Test.YtnaehhpikhlppaaGreatDoorD23
import Derived.Deep.CutBlock
import Derived.Test.YtnaehhpikhlppaaGreatDoorD12
set_option maxHeartbeats 4000000
set_option linter.unusedVariables false
set_option linter.unusedSimpArgs false
namespace Go.Proofs.YtnaehhpikhlppaaGreatDoor
open Go.RowKit LexS ParS BigFrame
attribute [local go_sem] field_tok1 field_tok2
attribute [local go_sem] World.cell?_alloc_some cell_drewN_new free_drewN_new cell_drew_new free_drew_new
/-- What all answers: the nodes, a place, an error. -/
def PostAll (W : World) (x : List Nd × Nat × Nat) (e : Ending) (W' : World) : Prop :=
  ∃ nv, e = .returned (.tuple #[.agg #[nv], .int .i64 (x.2.1 : Int), .int .i64 (x.2.2 : Int)]) ∧ NS W' W.heap.size nv x.1 ∧ Below W.heap.size W W'
theorem nil_NS {W : World} {b : Nat} : NS W b (.slice none 0 0) [] := ⟨[], rfl, nil_row, fun m hm => by cases hm⟩
theorem three_boxes (W : World) : ∃ W3, W3 = ((W.alloc (.cells #[.slice none 0 0] 25)).alloc (.cells #[.int .i64 0] 3)).alloc (.cells #[.int .i64 0] 26) ∧ Below W.heap.size W W3 ∧
    Blk W3 W.heap.size 25 #[.slice none 0 0] ∧ Blk W3 (W.heap.size + 1) 3 #[.int .i64 0] ∧ Blk W3 (W.heap.size + 1 + 1) 26 #[.int .i64 0] ∧ W3.heap.size = W.heap.size + 3 := by
  refine ⟨_, rfl, ?_, ?_, ?_, ?_, ?_⟩
  · exact (((Below.refl _ _).alloc (Nat.le_refl _) _).alloc (by rw [World.size_alloc]; omega) _).alloc (by rw [World.size_alloc, World.size_alloc]; omega) _
  · exact ((Blk.new W _ _).kept ((Below.refl _ _).alloc (Nat.le_refl _) _)).kept ((Below.refl _ _).alloc (Nat.le_refl _) _)
  · have := (Blk.new (W.alloc (.cells #[.slice none 0 0] 25)) 3 #[.int .i64 0]).kept ((Below.refl _ _).alloc (Nat.le_refl _) (.cells #[.int .i64 0] 26))
    rwa [World.size_alloc] at this
  · have := Blk.new ((W.alloc (.cells #[.slice none 0 0] 25)).alloc (.cells #[.int .i64 0] 3)) 26 #[.int .i64 0]
    rwa [World.size_alloc, World.size_alloc] at this
  · rw [World.size_alloc, World.size_alloc, World.size_alloc]
theorem far3 {W : World} {g b : Nat} {t : TypeId} {cs : Array Value} (h : Blk W g t cs) (hn : g ≠ b) (u : Value) : Blk (W.setCell ⟨b, 0, none⟩ u) g t cs := h.far (show g ≠ (⟨b, 0, none⟩ : Addr).block from hn) u
theorem boxes_put {W Wx : World} {u0 x0 c0 u x c : Value} {t0 t1 t2 : TypeId} (h0 : Blk Wx W.heap.size t0 #[u0]) (h1 : Blk Wx (W.heap.size + 1) t1 #[x0]) (h2 : Blk Wx (W.heap.size + 1 + 1) t2 #[c0]) (hb : Below W.heap.size W Wx) :
    Blk (((Wx.setCell ⟨W.heap.size, 0, none⟩ u).setCell ⟨W.heap.size + 1, 0, none⟩ x).setCell ⟨W.heap.size + 1 + 1, 0, none⟩ c) W.heap.size t0 #[u] ∧ Blk (((Wx.setCell ⟨W.heap.size, 0, none⟩ u).setCell ⟨W.heap.size + 1, 0, none⟩ x).setCell ⟨W.heap.size + 1 + 1, 0, none⟩ c) (W.heap.size + 1) t1 #[x] ∧
    Blk (((Wx.setCell ⟨W.heap.size, 0, none⟩ u).setCell ⟨W.heap.size + 1, 0, none⟩ x).setCell ⟨W.heap.size + 1 + 1, 0, none⟩ c) (W.heap.size + 1 + 1) t2 #[c] ∧ Below W.heap.size W (((Wx.setCell ⟨W.heap.size, 0, none⟩ u).setCell ⟨W.heap.size + 1, 0, none⟩ x).setCell ⟨W.heap.size + 1 + 1, 0, none⟩ c) :=
  ⟨far3 (far3 (h0.put 0 u) (by omega) x) (by omega) c, far3 ((far3 h1 (by omega) u).put 0 x) (by omega) c, (far3 (far3 h2 (by omega) u) (by omega) x).put 0 c,
    ((hb.setCell (p := ⟨W.heap.size, 0, none⟩) (Nat.le_refl _) u).setCell (p := ⟨W.heap.size + 1, 0, none⟩) (Nat.le_succ _) x).setCell (p := ⟨W.heap.size + 1 + 1, 0, none⟩) (Nat.le_succ_of_le (Nat.le_succ _)) c⟩
theorem boxes_on {W W4 w5 : World} {r : Nat} {nv5 u0 x0 c0 : Value} {t0 t1 t2 : TypeId} (h0 : Blk W4 W.heap.size t0 #[u0]) (h1 : Blk W4 (W.heap.size + 1) t1 #[x0]) (h2 : Blk W4 (W.heap.size + 1 + 1) t2 #[c0]) (hb : Below W.heap.size W W4)
    (s : Stp r (.slice none 0 0) W4 nv5 w5) (hr : W.heap.size + 3 ≤ r) : Blk w5 W.heap.size t0 #[u0] ∧ Blk w5 (W.heap.size + 1) t1 #[x0] ∧ Blk w5 (W.heap.size + 1 + 1) t2 #[c0] ∧ Below W.heap.size W w5 :=
  ⟨s.blk h0 (by omega) (fun e => by cases e), s.blk h1 (by omega) (fun e => by cases e), s.blk h2 (by omega) (fun e => by cases e), hb.trans (s.below (by omega) (fun k hk => by cases hk) hb.size)⟩
theorem own_high {W W' : World} {b size n : Nat} {e : TypeId} {v : Value} {xs : List Value} (h : W.ownsRow b e size v n xs) (hk : ∀ k, b ≤ k → W'.heap[k]? = W.heap[k]?) : W'.ownsRow b e size v n xs := by
  refine ⟨h.1, ?_⟩
  rcases h.2 with h2 | ⟨g, cap, cur, h2, h3, h4, h5⟩
  · exact .inl h2
  · exact .inr ⟨g, cap, cur, h2, h3, (hk g h3).trans h4, h5⟩
theorem NS.high {W W' : World} {b b' : Nat} {v : Value} {ns : List Nd} (h : NS W b v ns) (hk : ∀ k, b ≤ k → W'.heap[k]? = W.heap[k]?) (hb : b' ≤ b) : NS W' b' v ns := by
  obtain ⟨ms, h1, h2, h3⟩ := h
  exact ⟨ms, h1, own_base (own_high h2 hk) hb, fun m hm => ⟨own_base (own_high (h3 m hm).l hk) hb, own_base (own_high (h3 m hm).names hk) hb, own_base (own_high (h3 m hm).aggs hk) hb⟩⟩
theorem nodes_put {W : World} {b a : Nat} {v u x c : Value} {ns : List Nd} (h : NS W b v ns) (ha : a + 3 ≤ b) : NS (((W.setCell ⟨a, 0, none⟩ u).setCell ⟨a + 1, 0, none⟩ x).setCell ⟨a + 1 + 1, 0, none⟩ c) a v ns :=
  h.high (fun k hk => by
    rw [Below.heap_setCell _ _ _ _ (show k ≠ a + 1 + 1 by omega), Below.heap_setCell _ _ _ _ (show k ≠ a + 1 by omega), Below.heap_setCell _ _ _ _ (show k ≠ a by omega)]) (by omega)
section
variable {W' : World} {a0 a1 a2 : Nat} {tmps : Array Value} {nv : Value} {x c : Int} {R : Ending → World → Prop}
theorem res3 (ht0 : tmps[4]?.getD undef = .pointer (some ⟨a0, 0, none⟩)) (ht1 : tmps[5]?.getD undef = .pointer (some ⟨a1, 0, none⟩)) (ht2 : tmps[6]?.getD undef = .pointer (some ⟨a2, 0, none⟩))
    (h0 : Blk W' a0 25 #[nv]) (h1 : Blk W' a1 3 #[.int .i64 x]) (h2 : Blk W' a2 26 #[.int .i64 c]) : (results Tryz.f52 tmps).run Tryz.prog W' = .ok (.tuple #[.agg #[nv], .int .i64 x, .int .i64 c]) W' := by
  have e0 : W'.cell? ⟨a0, 0, none⟩ = some nv := h0.cell 0
  have e1 : W'.cell? ⟨a1, 0, none⟩ = some (.int .i64 x) := h1.cell 0
  have e2 : W'.cell? ⟨a2, 0, none⟩ = some (.int .i64 c) := h2.cell 0
  simp [results, Tryz.results52, go_sem, ht0, ht1, ht2, e0, e1, e2]
theorem leave_ret {a0 : Nat} (ht0 : tmps[4]?.getD undef = .pointer (some ⟨a0, 0, none⟩)) (ht1 : tmps[5]?.getD undef = .pointer (some ⟨a0 + 1, 0, none⟩)) (ht2 : tmps[6]?.getD undef = .pointer (some ⟨a0 + 1 + 1, 0, none⟩))
    (h0 : Blk W' a0 25 #[nv]) (h1 : Blk W' (a0 + 1) 3 #[.int .i64 x]) (h2 : Blk W' (a0 + 1 + 1) 26 #[.int .i64 c]) (hR : R (.returned (.tuple #[.agg #[nv], .int .i64 x, .int .i64 c])) W') :
    bodyPostD Tryz.prog Tryz.f52 R .ret { tmps := tmps, defers := [{ target := .fn (.func 100) #[.pointer (some ⟨a0, 0, none⟩), .pointer (some ⟨a0 + 1, 0, none⟩), .pointer (some ⟨a0 + 1 + 1, 0, none⟩)], args := #[] }] } W' := by
  show Leaves _ _ _ _ _ _ _
  refine leaves_cons (f := 100) (args := #[.pointer (some ⟨a0, 0, none⟩), .pointer (some ⟨a0 + 1, 0, none⟩), .pointer (some ⟨a0 + 1 + 1, 0, none⟩)]) (by simp) (by simp [go_sem]) ?_
  refine idle.mono ?_
  rintro e u' w'' ⟨rfl, rfl, rfl⟩
  exact ⟨_, res3 ht0 ht1 ht2 h0 h1 h2, hR⟩
theorem leave_bad {a0 : Nat} (ht0 : tmps[4]?.getD undef = .pointer (some ⟨a0, 0, none⟩)) (ht1 : tmps[5]?.getD undef = .pointer (some ⟨a0 + 1, 0, none⟩)) (ht2 : tmps[6]?.getD undef = .pointer (some ⟨a0 + 1 + 1, 0, none⟩))
    (h0 : Blk W' a0 25 #[.slice none 0 0]) (h1 : Blk W' (a0 + 1) 3 #[.int .i64 0]) (h2 : Blk W' (a0 + 1 + 1) 26 #[.int .i64 0])
    (hR : ∀ w2, Below a0 W' w2 → R (.returned (.tuple #[.agg #[.slice none 0 0], .int .i64 x, .int .i64 c])) w2) :
    bodyPostD Tryz.prog Tryz.f52 R (.panic [{ v := .iface 145 (.agg #[.int .i64 x, .int .i64 c]), recovered := false }]) { tmps := tmps, defers := [{ target := .fn (.func 100) #[.pointer (some ⟨a0, 0, none⟩), .pointer (some ⟨a0 + 1, 0, none⟩), .pointer (some ⟨a0 + 1 + 1, 0, none⟩)], args := #[] }] } W' := by
  show Leaves _ _ _ _ _ _ _
  refine leaves_cons (f := 100) (args := #[.pointer (some ⟨a0, 0, none⟩), .pointer (some ⟨a0 + 1, 0, none⟩), .pointer (some ⟨a0 + 1 + 1, 0, none⟩)]) (by simp) (by simp [go_sem]) ?_
  refine (caught (B := a0) h0 h1 h2 (by omega) (by omega) (by omega) (by omega) (by omega) (by omega)).mono ?_
  rintro e u' w'' ⟨rfl, rfl, hb, k0, k1, k2⟩
  exact ⟨_, res3 ht0 ht1 ht2 k0 k1 k2, hR _ hb⟩
end
section
variable {W : World} {tv : Value} {T : List Tok}
set_option maxRecDepth 100000 in
theorem all_query {q : M Nat} (hq : Reads 53 q 0) (nq : Cost 0 0 q) (htoks : W.ownsRow 0 65 4 tv T.length (toksL T)) :
    Calls Tryz.prog 52 #[tv, .func (.func 53) #[] #[]] W (PostAll W (parseAll q (T.map tk))) := by
  have hmf := hmfA
  have hmx := htoks.1
  obtain ⟨to_, tc, rfl⟩ := row_slice htoks
  obtain ⟨W3, hW3, hb3, k0, k1, k2, hsz⟩ := three_boxes W
  have HSZ := Lib.hid hsz
  clear hsz
  have HW3 := Lib.hid hW3
  have HB3 := Lib.hid hb3
  have HK3 := Lib.hid (And.intro k0 (And.intro k1 k2))
  have c0 : W3.cell? ⟨W.heap.size, 0, none⟩ = some (.slice none 0 0) := k0.cell 0
  have c1 : W3.cell? ⟨W.heap.size + 1, 0, none⟩ = some (.int .i64 0) := k1.cell 0
  have c2 : W3.cell? ⟨W.heap.size + 1 + 1, 0, none⟩ = some (.int .i64 0) := k2.cell 0
  have f0 := k0.free 0
  have f1 := k1.free 0
  have f2 := k2.free 0
  have r3 : ∀ (K : World → Prop), K W3 → K (((W.alloc (.cells #[.slice none 0 0] 25)).alloc (.cells #[.int .i64 0] 3)).alloc (.cells #[.int .i64 0] 26)) := fun K h => by rw [← HW3.out]; exact h
  have hn01 : W.heap.size ≠ W.heap.size + 1 := by omega
  have hn02 : W.heap.size ≠ W.heap.size + 1 + 1 := by omega
  have hn12 : W.heap.size + 1 ≠ W.heap.size + 1 + 1 := by omega
  have HT := Lib.hid htoks
  have HQ := Lib.hid (And.intro hq nq)
  clear hb3 k0 k1 k2 htoks hq nq
  by_cases hlen : 1024 < T.length
  case pos =>
    have HE := Lib.hid (show parseAll q (T.map tk) = ([], 0, 2) by unfold parseAll; rw [if_pos (by simpa using hlen)])
    have hl2 : (1024 : Int) < (T.length : Int) := by omega
    have hl3 : decide ((1024 : Int) < (T.length : Int)) = true := decide_eq_true hl2
    have HF := Lib.hid (boxes_put HK3.out.1 HK3.out.2.1 HK3.out.2.2 (u := .slice none 0 0) (x := .int .i64 0) (c := .int .i64 2) HB3.out)
    go_enter_defers Tryz.func52, Tryz.ntmps52
    go_upto_region 1 with fail
    refine r3 _ ?_
    clear hW3
    go_wp2_with fail
    exact leave_ret rfl rfl rfl HF.out.1 HF.out.2.1 HF.out.2.2.1 ⟨_, by rw [HE.out]; rfl, by rw [HE.out]; exact nil_NS, HF.out.2.2.2⟩
  case neg =>
    have hl2 : ¬ (1024 : Int) < (T.length : Int) := by omega
    have hl3 : decide ((1024 : Int) < (T.length : Int)) = false := decide_eq_false hl2
    obtain ⟨W4, hW4⟩ : ∃ W4, W4 = W3.alloc (.cells #[.slice to_ T.length tc, .int .i64 0, .int .i64 0, .slice none 0 0] 147) := ⟨_, rfl⟩
    have hb4 : Below W3.heap.size W3 W4 := by rw [hW4]; exact (Below.refl _ _).alloc (Nat.le_refl _) _
    have h4 : RS W3.heap.size W3.heap.size (.slice to_ T.length tc) T 0 (T.map tk) [] (.slice none 0 0) W4 := by
      refine ⟨?_, Nat.le_refl _, own_kept (own_kept HT.out HB3.out) hb4, by simp, by simp, by omega, nil_NS⟩
      rw [hW4, List.length_map, Nat.sub_self]
      exact Blk.new W3 _ _
    have hsz4 : W4.heap.size = W3.heap.size + 1 := by rw [hW4]; exact World.size_alloc _ _
    have HC := Lib.hid (HQ.out.1 _ _ _ _ _ _ _ _ h4 (by omega) (by simp; omega))
    have HK4 := Lib.hid (And.intro (HK3.out.1.kept hb4) (And.intro (HK3.out.2.1.kept hb4) (HK3.out.2.2.kept hb4)))
    have HB4 := Lib.hid (HB3.out.trans (hb4.mono HB3.out.size))
    have HW4 := Lib.hid hW4
    have hcost := HQ.out.2 (T.map tk) []
    clear h4 hb4 hsz4
    go_enter_defers Tryz.func52, Tryz.ntmps52
    go_upto_region 1 with fail
    refine r3 _ ?_
    clear hW3
    go_wp2_with fail
    rw [show W3.alloc (.cells #[.slice to_ T.length tc, .int .i64 0, .int .i64 0, .slice none 0 0] 147) = W4 from HW4.out.symm]
    clear hW4
    refine HC.out.mono ?_
    rintro e w5 hp
    rcases hr : q (T.map tk) [] with ⟨k, long⟩ | ⟨a, ts1, ns1⟩
    · rw [hr] at hp
      obtain ⟨rfl, nv5, s5⟩ := hp
      have HE := Lib.hid (show parseAll q (T.map tk) = ([], T.length - k, codeOf long) by unfold parseAll; rw [if_neg (by simpa using hlen), hr]; simp)
      have HF := Lib.hid (boxes_on HK4.out.1 HK4.out.2.1 HK4.out.2.2 HB4.out s5 (Nat.le_of_eq HSZ.out.symm))
      clear hr s5
      unfold Bad
      go_wp2_with fail
      exact leave_bad rfl rfl rfl HF.out.1 HF.out.2.1 HF.out.2.2.1 fun w6 hb6 => ⟨_, by rw [HE.out], by rw [HE.out]; exact nil_NS, HF.out.2.2.2.trans hb6⟩
    rw [hr] at hp
    obtain ⟨nv5, rfl, h5, s5⟩ := hp
    have HF := Lib.hid (boxes_on HK4.out.1 HK4.out.2.1 HK4.out.2.2 HB4.out s5 (Nat.le_of_eq HSZ.out.symm))
    have H5 := Lib.hid h5
    obtain ⟨no, nc, rfl⟩ : ∃ o c, nv5 = .slice o ns1.length c := by
      obtain ⟨ms, _, ho, _⟩ := h5.nodes
      exact row_slice ho
    obtain ⟨i, hi⟩ : ∃ i, i = T.length - ts1.length := ⟨_, rfl⟩
    have b1 : w5.cell? ⟨W3.heap.size, 1, none⟩ = some (.int .i64 (i : Int)) := by rw [hi]; exact h5.box.cell 1
    have b3 : w5.cell? ⟨W3.heap.size, 3, none⟩ = some (.slice no ns1.length nc) := h5.box.cell 3
    have hsh := h5.short
    clear h5 s5 c0 c1 c2 f0 f1 f2
    cases hz : ts1 with
    | cons t1 tr =>
      have hlt : (i : Int) < (T.length : Int) := by rw [hz] at hsh hi; simp only [List.length_cons] at hsh hi; omega
      have hd : decide ((i : Int) < (T.length : Int)) = true := decide_eq_true hlt
      have HE := Lib.hid (show parseAll q (T.map tk) = ([], T.length - ts1.length, 120) by
        unfold parseAll
        rw [if_neg (by simpa using hlen), hr]
        dsimp only
        rw [if_pos (by rw [hz]; simp), List.length_map])
      have HFL := Lib.hid (fail_any H5.out)
      clear hr hz hi
      go_wp2_with fail
      refine HFL.out.mono ?_
      rintro e w6 ⟨rfl, rfl⟩
      unfold Bad
      go_wp2_with fail
      exact leave_bad rfl rfl rfl HF.out.1 HF.out.2.1 HF.out.2.2.1 fun w6 hb6 => ⟨_, by rw [HE.out]; rfl, by rw [HE.out]; exact nil_NS, HF.out.2.2.2.trans hb6⟩
    | nil =>
      have hlt : ¬ (i : Int) < (T.length : Int) := by rw [hz] at hi; simp only [List.length_nil] at hi; omega
      have hd : decide ((i : Int) < (T.length : Int)) = false := decide_eq_false hlt
      have c0 : w5.cell? ⟨W.heap.size, 0, none⟩ = some (.slice none 0 0) := HF.out.1.cell 0
      have c1 : w5.cell? ⟨W.heap.size + 1, 0, none⟩ = some (.int .i64 0) := HF.out.2.1.cell 0
      have c2 : w5.cell? ⟨W.heap.size + 1 + 1, 0, none⟩ = some (.int .i64 0) := HF.out.2.2.1.cell 0
      have f0 := HF.out.1.free 0
      have f1 := HF.out.2.1.free 0
      have f2 := HF.out.2.2.1.free 0
      have hns := hcost _ _ _ hr
      by_cases hmany : 128 < ns1.length
      · have HE := Lib.hid (show parseAll q (T.map tk) = ([], 0, 2) by
          unfold parseAll
          rw [if_neg (by simpa using hlen), hr]
          dsimp only
          rw [if_neg (by rw [hz]; simp), if_pos hmany])
        have hm2 : (128 : Int) < (ns1.length : Int) := by omega
        have hm3 : decide ((128 : Int) < (ns1.length : Int)) = true := decide_eq_true hm2
        have HG := Lib.hid (boxes_put HF.out.1 HF.out.2.1 HF.out.2.2.1 (u := .slice none 0 0) (x := .int .i64 0) (c := .int .i64 2) HF.out.2.2.2)
        clear hr hz hi
        go_wp2_with fail
        exact leave_ret rfl rfl rfl HG.out.1 HG.out.2.1 HG.out.2.2.1 ⟨_, by rw [HE.out]; rfl, by rw [HE.out]; exact nil_NS, HG.out.2.2.2⟩
      · have HE := Lib.hid (show parseAll q (T.map tk) = (ns1, 0, 0) by
          unfold parseAll
          rw [if_neg (by simpa using hlen), hr]
          dsimp only
          rw [if_neg (by rw [hz]; simp), if_neg hmany])
        have hm2 : ¬ (128 : Int) < (ns1.length : Int) := by omega
        have hm3 : decide ((128 : Int) < (ns1.length : Int)) = false := decide_eq_false hm2
        have HG := Lib.hid (boxes_put HF.out.1 HF.out.2.1 HF.out.2.2.1 (u := .slice no ns1.length nc) (x := .int .i64 0) (c := .int .i64 0) HF.out.2.2.2)
        have HN := Lib.hid (nodes_put H5.out.nodes (u := .slice no ns1.length nc) (x := .int .i64 0) (c := .int .i64 0) (a := W.heap.size) (Nat.le_of_eq HSZ.out.symm))
        clear hr hz hi
        go_wp2_with fail
        exact leave_ret rfl rfl rfl HG.out.1 HG.out.2.1 HG.out.2.2.1 ⟨_, by rw [HE.out]; rfl, by rw [HE.out]; exact HN.out, HG.out.2.2.2⟩
end
end Go.Proofs.YtnaehhpikhlppaaGreatDoor

namespace Go.Proofs.YtnaehhpikhlppaaGreatDoor
open Go.RowKit LexS ParS BigFrame
attribute [local go_sem] World.cell?_alloc_some cell_drewN_new free_drewN_new cell_drew_new free_drew_new

section
variable {W : World} {tv : Value} {T : List Tok}
theorem res_q {f : Func} {r q u g : Nat} {tmps : Array Value} {w : World} {nv b c : Value} (hf : f.results = #[.cell r 25, .tmp q, .tmp u]) (ht : tmps[r]?.getD undef = .pointer (some ⟨g, 0, none⟩)) (hq : tmps[q]?.getD undef = b) (hu : tmps[u]?.getD undef = c)
    (h : Blk w g 25 #[nv]) : (results f tmps).run Tryz.prog w = .ok (.tuple #[.agg #[nv], b, c]) w := by
  have e0 : w.cell? ⟨g, 0, none⟩ = some nv := h.cell 0
  simp [results, hf, go_sem, ht, hq, hu, e0]
theorem cost_query (d : Nat) : Cost 0 0 (pQuery d) := cost_queryOf (cost_step (cost_inner d) (cost_pCond d))
theorem one_put {W W0 w1 : World} {nv : Value} {ns : List Nd} (hb0 : Below W.heap.size W W0) (hs0 : W.heap.size < W0.heap.size) (k0 : Blk W0 W.heap.size 25 #[.slice none 0 0]) (hn : NS w1 W0.heap.size nv ns) (hb : Below W0.heap.size W0 w1) :
    Blk (w1.setCell ⟨W.heap.size, 0, none⟩ nv) W.heap.size 25 #[nv] ∧ NS (w1.setCell ⟨W.heap.size, 0, none⟩ nv) W.heap.size nv ns ∧ Below W.heap.size W (w1.setCell ⟨W.heap.size, 0, none⟩ nv) :=
  ⟨(k0.kept hb).put 0 nv, hn.high (fun k hk => Below.heap_setCell _ _ _ _ (show k ≠ W.heap.size by omega)) (by omega), (hb0.trans (hb.mono (Nat.le_of_lt hs0))).setCell (p := ⟨W.heap.size, 0, none⟩) (Nat.le_refl _) nv⟩
set_option maxRecDepth 100000 in
theorem parse_any (htoks : W.ownsRow 0 65 4 tv T.length (toksL T)) : Calls Tryz.prog 29 #[tv] W (PostAll W (parseS T)) := by
  obtain ⟨W0, hW0⟩ : ∃ W0, W0 = W.alloc (.cells #[.slice none 0 0] 25) := ⟨_, rfl⟩
  have hb0 : Below W.heap.size W W0 := by rw [hW0]; exact (Below.refl _ _).alloc (Nat.le_refl _) _
  have k0 : Blk W0 W.heap.size 25 #[.slice none 0 0] := by rw [hW0]; exact Blk.new W _ _
  have hs0 : W.heap.size < W0.heap.size := k0.lt
  have HA := Lib.hid (all_query (pQuery_reads 16 0 rfl) (cost_query 16) (own_kept htoks hb0))
  have HK := Lib.hid (And.intro hb0 (And.intro hs0 k0))
  have HW0 := Lib.hid hW0
  clear hb0 k0 hs0 htoks
  go_enter Tryz.func29, Tryz.ntmps29
  go_wp2_with fail
  rw [show W.alloc (.cells #[.slice none 0 0] 25) = W0 from HW0.out.symm]
  clear hW0
  refine HA.out.mono ?_
  rintro e w1 ⟨nv, rfl, hn, hb⟩
  obtain ⟨no, nc, rfl⟩ : ∃ o c, nv = .slice o (parseS T).1.length c := by
    obtain ⟨ms, _, ho, _⟩ := hn
    exact row_slice ho
  have k1 := HK.out.2.2.kept hb
  have c0 : w1.cell? ⟨W.heap.size, 0, none⟩ = some (.slice none 0 0) := k1.cell 0
  have f0 := k1.free 0
  have HF := Lib.hid (one_put HK.out.1 HK.out.2.1 HK.out.2.2 hn hb)
  clear hn hb k1
  go_wp2_with fail
  exact bodyPost_ret (res_q Tryz.results29 rfl rfl rfl HF.out.1) rfl ⟨_, rfl, HF.out.2.1, HF.out.2.2⟩
end
end Go.Proofs.YtnaehhpikhlppaaGreatDoor

/-! The walk of package parse's Query: a text. -/
namespace Go.Proofs.YtnaehhpikhlppaaGreatDoor
open Go.RowKit LexS ParS BigFrame
attribute [local go_sem] World.cell?_alloc_some cell_drewN_new free_drewN_new cell_drew_new free_drew_new

end Go.Proofs.YtnaehhpikhlppaaGreatDoor

/-! A tree's nodes as they lie; the walk of ints. -/
namespace Go.Proofs.YtnaehhpikhlppaaGreatDoor
open Go.RowKit LexS ParS BigFrame

theorem cellsM_cons (a : NodeM) (l : List NodeM) : cellsM (a :: l) = a.cells ++ cellsM l := by simp [cellsM]
theorem cellsM_get : ∀ (l : List NodeM) (i : Nat) (t : NodeM) (j : Nat), l[i]? = some t → j < 19 → (cellsM l)[i * 19 + j]? = t.cells[j]?
  | [], i, t, j, h, _ => by simp at h
  | a :: l, 0, t, j, h, hj => by
    simp only [List.getElem?_cons_zero, Option.some.injEq] at h
    subst h
    rw [cellsM_cons, Nat.zero_mul, Nat.zero_add, List.getElem?_append_left (by simp [NodeM.cells]; omega)]
  | a :: l, i + 1, t, j, h, hj => by
    have ha : a.cells.length = 19 := rfl
    rw [cellsM_cons, List.getElem?_append_right (by rw [ha]; omega), ha]
    have : (i + 1) * 19 + j - 19 = i * 19 + j := by omega
    rw [this]
    exact cellsM_get l i t j (by simpa using h) hj
/-- A tree's row. -/
theorem nodes_row {W : World} {base : Nat} {nv : Value} {ns : List Nd} (h : NS W base nv ns) :
    ∃ p cap, nv = .slice p ns.length cap ∧ ns.length ≤ cap ∧ ns.length ≤ maxLen ∧ (ns ≠ [] → ∃ g, p = some ⟨g, 0, none⟩ ∧ base ≤ g ∧ g < W.heap.size ∧
      ∀ i nd, ns[i]? = some nd → ∃ m : NodeM, m.node = nd ∧ MOk W base m ∧ ∀ j v, j < 19 → m.cells[j]? = some v → W.cell? ⟨g, i * 19 + j, none⟩ = some v) := by
  obtain ⟨ms, hms, ho, hall⟩ := h
  have hf := fun g hg => ho.cells (g := g) hg
  have hlt := ho.lt
  have hlen : ms.length = ns.length := by rw [← hms, List.length_map]
  rcases ho.2 with ⟨h1, h2⟩ | ⟨g, cap, cur, h2, h3, h4, h5, h6, _⟩
  · exact ⟨none, 0, by rw [h2]; exact h1, by omega, by rw [h2]; exact Nat.zero_le _, fun hc => absurd (List.eq_nil_of_length_eq_zero h2) hc⟩
  · subst h2
    refine ⟨_, cap, rfl, h5, Nat.le_trans h5 h6, fun _ => ⟨g, rfl, h3, (hlt g rfl).2, fun i nd hi => ?_⟩⟩
    have hi2 : (ms.map (·.node))[i]? = some nd := by rw [hms]; exact hi
    rw [List.getElem?_map] at hi2
    obtain ⟨m, hm, hmn⟩ := Option.map_eq_some_iff.1 hi2
    refine ⟨m, hmn, hall m (List.mem_of_getElem? hm), fun j v hj hv => ?_⟩
    have := hf g rfl (i * 19 + j) v (by rw [cellsM_get ms i m j hm hj]; exact hv)
    rwa [Addr.add_lit, Nat.zero_add] at this
/-- A row of numbers. -/
theorem ints_row {W : World} {base : Nat} {v : Value} {l : List Nat} (h : W.ownsRow base 3 1 v l.length (intsL l)) :
    ∃ p cap, v = .slice p l.length cap ∧ l.length ≤ cap ∧ l.length ≤ maxLen ∧ (l ≠ [] → ∃ g, p = some ⟨g, 0, none⟩ ∧ ∀ (i x : Nat), l[i]? = some x → W.cell? ⟨g, i, none⟩ = some (.int .i64 (x : Int))) := by
  have hf := fun g hg => h.cells (g := g) hg
  rcases h.2 with ⟨h1, h2⟩ | ⟨g, cap, cur, h2, h3, h4, h5, h6, _⟩
  · exact ⟨none, 0, by rw [h2]; exact h1, by omega, by rw [h2]; exact Nat.zero_le _, fun hc => absurd (List.eq_nil_of_length_eq_zero h2) hc⟩
  · subst h2
    refine ⟨_, cap, rfl, h5, Nat.le_trans h5 h6, fun _ => ⟨g, rfl, fun i x hi => ?_⟩⟩
    have := hf g rfl i (.int .i64 (x : Int)) (by unfold intsL; rw [List.getElem?_map, hi]; rfl)
    rwa [Addr.add_lit, Nat.zero_add] at this
end Go.Proofs.YtnaehhpikhlppaaGreatDoor

/-! The walk of the law's shown: five texts. -/
namespace Go.Proofs.YtnaehhpikhlppaaGreatDoor
open Go.RowKit LexS ParS BigFrame
attribute [local go_sem] World.cell?_alloc_some cell_drewN_new free_drewN_new cell_drew_new free_drew_new

end Go.Proofs.YtnaehhpikhlppaaGreatDoor
