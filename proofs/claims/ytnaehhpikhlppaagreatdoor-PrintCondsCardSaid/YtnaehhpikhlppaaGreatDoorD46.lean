/- Several texts of the proof, joined. -/
import Derived.Test.YtnaehhpikhlppaaGreatDoorD44
import Derived.Test.YtnaehhpikhlppaaGreatDoorD24
import Derived.Test.YtnaehhpikhlppaaGreatDoorD45
import Derived.Test.YtnaehhpikhlppaaGreatDoorD34
set_option maxHeartbeats 4000000
set_option linter.unusedVariables false
set_option linter.unusedSimpArgs false
namespace Go.Proofs.YtnaehhpikhlppaaGreatDoor
open Go.RowKit LexS ParS BigFrame
attribute [local go_sem] World.cell?_alloc_some cell_drewN_new free_drewN_new cell_drew_new free_drew_new

/-- What is answered in the end. -/
def endS (L : Nat) : RSt → List Nd × Nat × Nat
  | .error (k, e) => ([], L - k, codeOf e)
  | .ok (ts, ns) => if ts ≠ [] then ([], L - ts.length, 120) else if 128 < ns.length then ([], 0, 2) else (ns, 0, 0)
theorem endS_nil (L : Nat) (ns : List Nd) : endS L (.ok ([], ns)) = if 128 < ns.length then ([], 0, 2) else (ns, 0, 0) := by simp [endS]
theorem parseAll_end (read : M Nat) (l : List Tk) : parseAll read l = if 1024 < l.length then ([], 0, 2) else endS l.length (stOf (read l [])) := by
  unfold parseAll
  rcases read l [] with ⟨k, e⟩ | ⟨a, ts, ns⟩ <;> rfl
section
variable {base r deep d2 : Nat} {tv nv nv' nv0 nv1 nv2 lv : Value} {T : List Tok} {st st1 st2 : RSt} {ts ts1 ts2 : List Tk} {ns ns1 : List Nd} {W W' Wx w1 w2 W1 wr wr2 : World} {ri : Int}
/-- What end answers. -/
def EndP (base r : Nat) (T : List Tok) (W : World) (x : List Nd × Nat × Nat) (e : Ending) (W' : World) : Prop :=
  ∃ nv', e = .returned (.tuple #[.agg #[nv'], .int .i64 (x.2.1 : Int), .int .i64 (x.2.2 : Int)]) ∧ NS W' base nv' x.1 ∧ Mv r W W'
theorem RF.nds (h : RF base r tv T deep (.ok (ts, ns)) nv W) : NS W base nv ns := by
  obtain ⟨ns', h1, _, h2⟩ := h.nodes
  rw [h2 _ _ rfl]
  exact h1
/-- A store into a box of a query leaves nodes as they are. -/
theorem ns_put {b g : Nat} {cs : Array Value} {i : Nat} {u : Value} (h : NS W b nv ns) (hx : Blk W g 25 cs) : NS (W.setCell ⟨g, i, none⟩ u) b nv ns := by
  obtain ⟨ms, h1, h2, h3⟩ := h
  exact ⟨ms, h1, row_far h2 hx (by decide) i u, fun m hm => ⟨row_far (h3 m hm).l hx (by decide) i u, row_far (h3 m hm).names hx (by decide) i u, row_far (h3 m hm).aggs hx (by decide) i u⟩⟩
set_option maxRecDepth 100000 in
theorem end_bad {k : Nat} {long : Bool} (h : RF base r tv T deep (.error (k, long)) nv W) : Calls Tryz.prog 35 #[RP r] W (EndP base r T W (endS T.length (.error (k, long)))) := by
  obtain ⟨W0, hW0⟩ : ∃ W0, W0 = W.alloc (.cells #[.slice none 0 0] 25) := ⟨_, rfl⟩
  have hb0 : Below W.heap.size W W0 := by rw [hW0]; exact (Below.refl _ _).alloc (Nat.le_refl _) _
  have k0 : Blk W0 W.heap.size 25 #[.slice none 0 0] := by rw [hW0]; exact Blk.new W _ _
  have h0 := h.kept hb0
  have hrt : r ≠ W.heap.size := Nat.ne_of_lt h.box.lt
  obtain ⟨i, hi⟩ : ∃ i, i = T.length - k := ⟨_, rfl⟩
  have c1 : W0.cell? ⟨r, 1, none⟩ = some (.int .i64 (i : Int)) := by rw [hi]; exact h0.box.cell 1
  have c3 : W0.cell? ⟨r, 3, none⟩ = some (.int .i64 (codeOf long : Int)) := h0.box.cell 3
  have hc := codeOf_ne long
  obtain ⟨c, hcc⟩ : ∃ c, c = codeOf long := ⟨_, rfl⟩
  rw [← hcc] at c3 hc
  have q1 : ((c : Int) == 0) = false := by rw [beq_eq_false_iff_ne]; omega
  have q2 : ((c : Int) != 0) = true := by rw [bne_iff_ne]; omega
  have q3 : ¬ (c : Int) = 0 := by omega
  have d0 : W0.cell? ⟨W.heap.size, 0, none⟩ = some (.slice none 0 0) := k0.cell 0
  have g0 := k0.free 0
  have HE := Lib.hid (show endS T.length (.error (k, long)) = ([], i, c) by rw [hi, hcc]; rfl)
  have HW := Lib.hid hW0
  have HK := Lib.hid (And.intro hb0 k0)
  clear h h0 hi hc hcc hb0 k0 hW0
  rw [HE.out]
  go_enter Tryz.func35, Tryz.ntmps35
  go_wp2_with fail
  rw [show W.alloc (.cells #[.slice none 0 0] 25) = W0 from HW.out.symm]
  go_big_quiet (fail)
  go_wp2_with fail
  go_region
  go_wp2_with fail
  exact bodyPost_ret (res_q Tryz.results35 rfl rfl rfl ((HK.out.2.drewN _).put 0 _)) rfl ⟨_, rfl, nil_NS, Mv.far (Stp.of (below_drewN HK.out.1 _)) (Nat.le_refl _) 0 _⟩
set_option maxRecDepth 100000 in
theorem end_more {t : Tk} (h : RF base r tv T deep (.ok (t :: ts1, ns)) nv W) : Calls Tryz.prog 35 #[RP r] W (EndP base r T W (endS T.length (.ok (t :: ts1, ns)))) := by
  obtain ⟨p, cap, rfl, hcap, hmax, hrow⟩ := row_any h.toks
  obtain ⟨W0, hW0⟩ : ∃ W0, W0 = W.alloc (.cells #[.slice none 0 0] 25) := ⟨_, rfl⟩
  have hb0 : Below W.heap.size W W0 := by rw [hW0]; exact (Below.refl _ _).alloc (Nat.le_refl _) _
  have k0 : Blk W0 W.heap.size 25 #[.slice none 0 0] := by rw [hW0]; exact Blk.new W _ _
  have h0 := h.kept hb0
  have hrt : r ≠ W.heap.size := Nat.ne_of_lt h.box.lt
  have hleft : (t :: ts1).length ≤ T.length := h.left
  have hfew := h.few
  obtain ⟨i, hi⟩ : ∃ i, i = T.length - (t :: ts1).length := ⟨_, rfl⟩
  have hlt : i < T.length := by simp only [List.length_cons] at hi hleft; omega
  have c0 : W0.cell? ⟨r, 0, none⟩ = some (.slice p T.length cap) := h0.box.cell 0
  have c1 : W0.cell? ⟨r, 1, none⟩ = some (.int .i64 (i : Int)) := by rw [hi]; exact h0.box.cell 1
  have c3 : W0.cell? ⟨r, 3, none⟩ = some (.int .i64 0) := h0.box.cell 3
  have q1 : decide ((i : Int) < (T.length : Int)) = true := decide_eq_true (by omega)
  have q2 : (i : Int) < (T.length : Int) := by omega
  have q3 : decide (i < T.length) = true := decide_eq_true hlt
  have HE := Lib.hid (show endS T.length (.ok (t :: ts1, ns)) = ([], i, 120) by rw [hi]; rfl)
  have HW := Lib.hid hW0
  have HK := Lib.hid (And.intro hb0 k0)
  have HH := Lib.hid h0
  have HI := Lib.hid hi
  clear h h0 hi hb0 k0 hW0 hrow hleft
  rw [HE.out]
  go_enter Tryz.func35, Tryz.ntmps35
  go_wp2_with fail
  rw [show W.alloc (.cells #[.slice none 0 0] 25) = W0 from HW.out.symm]
  go_big_quiet (fail)
  go_wp2_with fail
  have hbq : Below W0.heap.size W0 (W0.drewN nq) := below_drewN (Below.refl _ _) nq
  refine (fail_r (HH.out.kept hbq)).mono ?_
  rintro e w2 ⟨rfl, h2, m2⟩
  have x2 := m2.blk (HK.out.2.kept hbq) hrt.symm
  have HM := Lib.hid (Stp.trans (Stp.of (r := r) (nv := .slice none 0 0) (chain HK.out.1 hbq)) m2)
  have HX := Lib.hid x2
  have c1 : w2.cell? ⟨r, 1, none⟩ = some (.int .i64 (i : Int)) := by rw [HI.out]; exact h2.box.cell 1
  have c3 : w2.cell? ⟨r, 3, none⟩ = some (.int .i64 120) := h2.box.cell 3
  have d0 : w2.cell? ⟨W.heap.size, 0, none⟩ = some (.slice none 0 0) := x2.cell 0
  have g0 := x2.free 0
  clear h2 m2 x2 hbq
  go_wp2_with fail
  go_region
  go_wp2_with fail
  exact bodyPost_ret (res_q Tryz.results35 rfl rfl rfl ((HX.out.drew).put 0 _)) rfl ⟨_, rfl, nil_NS, Mv.far (Stp.trans HM.out (Stp.of (Below.refl _ _).drew)) (Nat.le_refl _) 0 _⟩
set_option maxRecDepth 100000 in
theorem end_all (h : RF base r tv T deep (.ok ([], ns)) nv W) : Calls Tryz.prog 35 #[RP r] W (EndP base r T W (endS T.length (.ok ([], ns)))) := by
  obtain ⟨p, cap, rfl, hcap, hmax, hrow⟩ := row_any h.toks
  obtain ⟨W0, hW0⟩ : ∃ W0, W0 = W.alloc (.cells #[.slice none 0 0] 25) := ⟨_, rfl⟩
  have hb0 : Below W.heap.size W W0 := by rw [hW0]; exact (Below.refl _ _).alloc (Nat.le_refl _) _
  have k0 : Blk W0 W.heap.size 25 #[.slice none 0 0] := by rw [hW0]; exact Blk.new W _ _
  have hns := h.nds
  obtain ⟨no, nc, rfl⟩ : ∃ o c, nv = .slice o ns.length c := by
    obtain ⟨ms, _, ho, _⟩ := hns
    exact slice_form ho
  have h0 := h.kept hb0
  have hrt : r ≠ W.heap.size := Nat.ne_of_lt h.box.lt
  have hl5 : ns.length ≤ 5000 := by
    obtain ⟨ns', h1, h2, h3⟩ := h.nodes
    rw [h3 _ _ rfl]
    exact h2
  have c0 : W0.cell? ⟨r, 0, none⟩ = some (.slice p T.length cap) := h0.box.cell 0
  have c1 : W0.cell? ⟨r, 1, none⟩ = some (.int .i64 (T.length : Int)) := h0.box.cell 1
  have c2 : W0.cell? ⟨r, 2, none⟩ = some (.slice no ns.length nc) := h0.box.cell 2
  have c3 : W0.cell? ⟨r, 3, none⟩ = some (.int .i64 0) := h0.box.cell 3
  have d0 : W0.cell? ⟨W.heap.size, 0, none⟩ = some (.slice none 0 0) := k0.cell 0
  have g0 := k0.free 0
  have q1 : decide ((T.length : Int) < (T.length : Int)) = false := decide_eq_false (by omega)
  have q2 : ¬ (T.length : Int) < (T.length : Int) := by omega
  have HW := Lib.hid hW0
  have HK := Lib.hid (And.intro hb0 k0)
  have HNS := Lib.hid (hns.kept hb0)
  by_cases h128 : 128 < ns.length
  · have p1 : decide ((128 : Int) < (ns.length : Int)) = true := decide_eq_true (by omega)
    have p2 : (128 : Int) < (ns.length : Int) := by omega
    have p3 : decide (128 < ns.length) = true := decide_eq_true h128
    have HE := Lib.hid (show endS T.length (.ok ([], ns)) = ([], 0, 2) by rw [endS_nil, if_pos h128])
    clear h h0 hb0 k0 hW0 hrow hns h128
    rw [HE.out]
    go_enter Tryz.func35, Tryz.ntmps35
    go_wp2_with fail
    rw [show W.alloc (.cells #[.slice none 0 0] 25) = W0 from HW.out.symm]
    go_big_quiet (fail)
    go_wp2_with fail
    exact bodyPost_ret (res_q Tryz.results35 rfl rfl rfl ((HK.out.2.drewN _).put 0 _)) rfl ⟨_, rfl, nil_NS, Mv.far (Stp.of (below_drewN HK.out.1 _)) (Nat.le_refl _) 0 _⟩
  · have p1 : decide ((128 : Int) < (ns.length : Int)) = false := decide_eq_false (by omega)
    have p2 : ¬ (128 : Int) < (ns.length : Int) := by omega
    have p3 : decide (128 < ns.length) = false := decide_eq_false h128
    have HE := Lib.hid (show endS T.length (.ok ([], ns)) = (ns, 0, 0) by rw [endS_nil, if_neg h128])
    have hnw : ∀ k, (Value.slice no ns.length nc).ownBlock = some k → k ≠ W.heap.size := fun k hk e => by
      have h1 := h.own_lt.2 k hk
      omega
    have HNW := Lib.hid hnw
    clear h h0 hb0 k0 hW0 hrow hns h128 hnw
    rw [HE.out]
    go_enter Tryz.func35, Tryz.ntmps35
    go_wp2_with fail
    rw [show W.alloc (.cells #[.slice none 0 0] 25) = W0 from HW.out.symm]
    go_big_quiet (fail)
    go_wp2_with fail
    exact bodyPost_ret (res_q Tryz.results35 rfl rfl rfl ((HK.out.2.drewN _).put 0 _)) rfl ⟨_, rfl, ns_put (HNS.out.kept (below_drewN (Below.refl _ _) _)) (HK.out.2.drewN _), Mv.far (Stp.of (below_drewN HK.out.1 _)) (Nat.le_refl _) 0 _⟩
theorem end_r (h : RF base r tv T deep st nv W) : Calls Tryz.prog 35 #[RP r] W (EndP base r T W (endS T.length st)) := by
  rcases st with ⟨k, long⟩ | ⟨ts, ns⟩
  · exact end_bad h
  · cases ts with
    | nil => exact end_all h
    | cons t ts1 => exact end_more h
set_option maxRecDepth 100000 in
theorem rparse_any (htoks : W.ownsRow 0 65 4 tv T.length (toksL T)) : Calls Tryz.prog 23 #[tv] W (PostAll W (parseS T)) := by
  obtain ⟨p, cap, rfl, hcap, hmax, hrow⟩ := row_any htoks
  obtain ⟨W0, hW0⟩ : ∃ W0, W0 = W.alloc (.cells #[.slice none 0 0] 25) := ⟨_, rfl⟩
  have hb0 : Below W.heap.size W W0 := by rw [hW0]; exact (Below.refl _ _).alloc (Nat.le_refl _) _
  have k0 : Blk W0 W.heap.size 25 #[.slice none 0 0] := by rw [hW0]; exact Blk.new W _ _
  have hs0 : W.heap.size < W0.heap.size := k0.lt
  have d0 : W0.cell? ⟨W.heap.size, 0, none⟩ = some (.slice none 0 0) := k0.cell 0
  have g0 := k0.free 0
  have HK := Lib.hid (And.intro hb0 (And.intro hs0 k0))
  have HW := Lib.hid hW0
  by_cases h1024 : 1024 < T.length
  · have q1 : decide ((1024 : Int) < (T.length : Int)) = true := decide_eq_true (by omega)
    have q2 : (1024 : Int) < (T.length : Int) := by omega
    have q3 : decide (1024 < T.length) = true := decide_eq_true h1024
    have HE := Lib.hid (show parseS T = ([], 0, 2) by unfold parseS parseAll; rw [if_pos (by rw [List.length_map]; exact h1024)])
    have HF := Lib.hid (one_put HK.out.1 HK.out.2.1 HK.out.2.2 nil_NS (Below.refl W0.heap.size W0))
    clear hb0 k0 hs0 hW0 hrow htoks h1024
    rw [HE.out]
    go_enter Tryz.func23, Tryz.ntmps23
    go_upto_region 1 with (fail)
    rw [show W.alloc (.cells #[.slice none 0 0] 25) = W0 from HW.out.symm]
    go_wp2_with fail
    exact bodyPost_ret (res_q Tryz.results23 rfl rfl rfl HF.out.1) rfl ⟨_, rfl, HF.out.2.1, HF.out.2.2⟩
  · have q1 : decide ((1024 : Int) < (T.length : Int)) = false := decide_eq_false (by omega)
    have q2 : ¬ (1024 : Int) < (T.length : Int) := by omega
    have q3 : decide (1024 < T.length) = false := decide_eq_false h1024
    have HE := Lib.hid (show parseS T = endS T.length (stOf (goP (pQuery 16) (.ok (T.map tk, [])))) by
      have e := parseAll_end (pQuery 16) (T.map tk)
      rw [List.length_map, if_neg h1024] at e
      exact e)
    obtain ⟨W1, hW1⟩ : ∃ W1, W1 = W0.alloc (.cells #[.slice p T.length cap, .int .i64 0, .slice none 0 0, .int .i64 0, .int .i64 0] 81) := ⟨_, rfl⟩
    have hb1 : Below W0.heap.size W0 W1 := by rw [hW1]; exact (Below.refl _ _).alloc (Nat.le_refl _) _
    have hbox : Blk W1 W0.heap.size 81 #[.slice p T.length cap, .int .i64 ((T.length - leftR (.ok (T.map tk, [])) : Nat) : Int), .slice none 0 0, .int .i64 (codeR (.ok (T.map tk, [])) : Int), .int .i64 ((0 : Nat) : Int)] := by
      rw [show T.length - leftR (.ok (T.map tk, [])) = 0 by simp [leftR], hW1]
      exact Blk.new W0 _ _
    have hrf : RF W0.heap.size W0.heap.size (.slice p T.length cap) T 0 (.ok (T.map tk, [])) (.slice none 0 0) W1 :=
      ⟨hbox, Nat.le_refl _, own_kept (own_kept htoks hb0) hb1, by simp [leftR], (fun ts ns e => by cases e; simp), by omega, [], nil_NS, by simp, fun ts ns e => by cases e; rfl⟩
    have HC := Lib.hid (rquery_all 16 0 rfl W0.heap.size W0.heap.size (.slice p T.length cap) (.slice none 0 0) T (.ok (T.map tk, [])) W1 hrf (Nat.le_of_lt hbox.lt) (fun ts ns e => by cases e; simp; omega) (.inl rfl))
    have HB1 := Lib.hid (And.intro hb1 (Nat.le_of_lt hbox.lt))
    have HW1 := Lib.hid hW1
    clear hb0 k0 hs0 hW0 hrow htoks h1024 hb1 hbox hrf hW1
    rw [HE.out]
    go_enter Tryz.func23, Tryz.ntmps23
    go_upto_region 1 with (fail)
    rw [show W.alloc (.cells #[.slice none 0 0] 25) = W0 from HW.out.symm]
    go_upto_region 4 with (fail)
    rw [show W0.alloc (.cells #[.slice p T.length cap, .int .i64 0, .slice none 0 0, .int .i64 0, .int .i64 0] 81) = W1 from HW1.out.symm]
    go_wp2_with fail
    refine HC.out.mono ?_
    rintro e w2 ⟨nv2, i2, rfl, _, h2, s2⟩
    have HEN := Lib.hid (end_r h2)
    have HS2 := Lib.hid (HB1.out.1.trans (s2.below (Nat.le_refl _) (fun k hk => by cases hk) HB1.out.2))
    clear h2 s2
    go_wp2_with fail
    refine HEN.out.mono ?_
    rintro e w3 ⟨nv3, rfl, hn, m3⟩
    have hb3 : Below W0.heap.size W0 w3 := HS2.out.trans (m3.below (Nat.le_refl _) (fun k hk => by cases hk) HS2.out.size)
    obtain ⟨no, nc, rfl⟩ : ∃ o c, nv3 = .slice o (endS T.length (stOf (goP (pQuery 16) (.ok (T.map tk, []))))).1.length c := by
      obtain ⟨ms, _, ho, _⟩ := hn
      exact slice_form ho
    have k3 := HK.out.2.2.kept hb3
    have d0 : w3.cell? ⟨W.heap.size, 0, none⟩ = some (.slice none 0 0) := k3.cell 0
    have g0 := k3.free 0
    have HF := Lib.hid (one_put HK.out.1 HK.out.2.1 HK.out.2.2 hn hb3)
    clear hn m3 hb3 k3
    go_wp2_with fail
    exact bodyPost_ret (res_q Tryz.results23 rfl rfl rfl HF.out.1) rfl ⟨_, rfl, HF.out.2.1, HF.out.2.2⟩
end
end Go.Proofs.YtnaehhpikhlppaaGreatDoor

namespace Go.Proofs.YtnaehhpikhlppaaGreatDoor
open Go.RowKit LexS ParS BigFrame
attribute [local go_sem] World.cell?_alloc_some cell_drewN_new free_drewN_new cell_drew_new free_drew_new

/-- The answer is put into its box. -/
theorem put_ans {W W0 w1 : World} {nv : Value} {ns : List Nd} (hb0 : Below W.heap.size W W0) (k0 : Blk W0 W.heap.size 25 #[.slice none 0 0]) (hn : NS w1 W.heap.size nv ns) (hb : Below W0.heap.size W0 w1) :
    Blk (w1.setCell ⟨W.heap.size, 0, none⟩ nv) W.heap.size 25 #[nv] ∧ NS (w1.setCell ⟨W.heap.size, 0, none⟩ nv) W.heap.size nv ns ∧ Below W.heap.size W (w1.setCell ⟨W.heap.size, 0, none⟩ nv) :=
  ⟨(k0.kept hb).put 0 nv, ns_put hn (k0.kept hb), (chain hb0 hb).setCell (p := ⟨W.heap.size, 0, none⟩) (Nat.le_refl _) nv⟩
theorem NS.selfR {W : World} {b : Nat} {v : Value} {ns : List Nd} {b' : Nat} (h : NS W b v ns) (hb : b' ≤ b) : NS W b' v ns := h.high (fun _ _ => rfl) hb
set_option maxRecDepth 100000 in
theorem rquery_text (s : ByteArray) (hs : s.size ≤ 140737488351232) (w : World) :
    Calls Tryz.prog 8 #[.string s] w (PostAll w (queryS s.data.toList)) := by
  obtain ⟨W0, hW0⟩ : ∃ W0, W0 = w.alloc (.cells #[.slice none 0 0] 25) := ⟨_, rfl⟩
  have hb0 : Below w.heap.size w W0 := by rw [hW0]; exact (Below.refl _ _).alloc (Nat.le_refl _) _
  have k0 : Blk W0 w.heap.size 25 #[.slice none 0 0] := by rw [hW0]; exact Blk.new w _ _
  have hs0 : w.heap.size < W0.heap.size := k0.lt
  have HK := Lib.hid (And.intro hb0 (And.intro hs0 k0))
  have hlex := rlex_any s hs W0
  have HW0 := Lib.hid hW0
  obtain ⟨⟨x, a, er⟩, hx⟩ : ∃ q, q = lexS s.data.toList := ⟨_, rfl⟩
  have HX := Lib.hid hx
  rw [← hx] at hlex
  have HL := Lib.hid hlex
  clear hb0 k0 hs0 hlex hx hW0
  go_enter Tryz.func8, Tryz.ntmps8
  go_wp2_with fail
  rw [show w.alloc (.cells #[.slice none 0 0] 25) = W0 from HW0.out.symm]
  refine HL.out.mono ?_
  rintro e w1 ⟨v, rfl, o1, b1⟩
  dsimp only at o1 ⊢
  have k1 := HK.out.2.2.kept b1
  have c0 : w1.cell? ⟨w.heap.size, 0, none⟩ = some (.slice none 0 0) := k1.cell 0
  have f0 := k1.free 0
  by_cases he : er = 0
  case neg =>
    have HE := Lib.hid (show queryS s.data.toList = ([], a, er) by unfold queryS; rw [← HX.out]; dsimp only; rw [if_pos he])
    have HF := Lib.hid (put_ans HK.out.1 HK.out.2.2 nil_NS b1)
    have he2 : ((er : Int) != 0) = true := by rw [bne_iff_ne]; omega
    have he3 : ¬ (er : Int) = 0 := by omega
    clear o1 b1 k1
    go_wp2_with fail
    exact bodyPost_ret (res_q Tryz.results8 rfl rfl rfl HF.out.1) rfl ⟨_, by rw [HE.out]; rfl, by rw [HE.out]; exact HF.out.2.1, HF.out.2.2⟩
  subst he
  have O1 := Lib.hid o1
  have B1 := Lib.hid b1
  have HP := Lib.hid (rparse_any (own_base o1 (Nat.zero_le _)))
  clear o1 b1 k1
  go_wp2_with fail
  refine HP.out.mono ?_
  rintro e w2 ⟨nv, rfl, hn, b2⟩
  obtain ⟨⟨ns, n, f⟩, hp⟩ : ∃ q, q = parseS x := ⟨_, rfl⟩
  rw [← hp] at hn ⊢
  dsimp only at hn ⊢
  have HPS := Lib.hid hp
  obtain ⟨no, nc, rfl⟩ : ∃ o c, nv = .slice o ns.length c := by
    obtain ⟨ms, _, ho, _⟩ := hn
    exact slice_form ho
  obtain ⟨u2, hu2⟩ : ∃ u2, u2 = w2.alloc (.cells #[.slice no ns.length nc] 25) := ⟨_, rfl⟩
  have hbu : Below w2.heap.size w2 u2 := by rw [hu2]; exact (Below.refl _ _).alloc (Nat.le_refl _) _
  have xu : Blk u2 w2.heap.size 25 #[.slice no ns.length nc] := by rw [hu2]; exact Blk.new w2 _ _
  have hb12 : Below W0.heap.size W0 u2 := chain B1.out (chain b2 hbu)
  have hn2 : NS u2 w.heap.size (.slice no ns.length nc) ns := (hn.selfR (Nat.le_trans HK.out.1.size B1.out.size)).kept hbu
  have HF := Lib.hid (put_ans HK.out.1 HK.out.2.2 hn2 hb12)
  have k2 := HK.out.2.2.kept hb12
  have d0 : u2.cell? ⟨w.heap.size, 0, none⟩ = some (.slice none 0 0) := k2.cell 0
  have g0 := k2.free 0
  have d1 : u2.cell? ⟨w2.heap.size, 0, none⟩ = some (.slice no ns.length nc) := xu.cell 0
  have O2 := Lib.hid (own_kept O1.out (chain b2 hbu))
  have HU2 := Lib.hid hu2
  clear hn b2 hb12 hn2 k2 hp c0 f0 hbu xu hu2
  go_upto_region 5 with (fail)
  rw [show w2.alloc (.cells #[.slice no ns.length nc] 25) = u2 from HU2.out.symm]
  by_cases hf : f = 0
  · subst hf
    have HE := Lib.hid (show queryS s.data.toList = (ns, 0, 0) by unfold queryS; rw [← HX.out]; dsimp only; rw [if_neg (by simp), ← HPS.out]; rfl)
    go_wp2_with fail
    exact bodyPost_ret (res_q Tryz.results8 rfl rfl rfl HF.out.1) rfl ⟨_, by rw [HE.out]; rfl, by rw [HE.out]; exact HF.out.2.1, HF.out.2.2⟩
  have hf2 : ((f : Int) == 0) = false := by rw [beq_eq_false_iff_ne]; omega
  have hf3 : ¬ (f : Int) = 0 := by omega
  obtain ⟨p, cap, rfl, hcap, hmax, hrow⟩ := row_any O2.out
  have HR := Lib.hid hrow
  simp only [maxLen] at hmax
  clear hrow
  by_cases hlt : n < x.length
  · obtain ⟨t, ht⟩ : ∃ t, x[n]? = some t := ⟨x[n], List.getElem?_eq_getElem hlt⟩
    have hne : x ≠ [] := by intro h; rw [h] at hlt; simp at hlt
    have HE := Lib.hid (show queryS s.data.toList = (ns, t.at_, f) by
      unfold queryS
      rw [← HX.out]
      dsimp only
      rw [if_neg (by simp), ← HPS.out]
      dsimp only
      rw [if_neg hf, ht])
    obtain ⟨g, rfl, hg1, hg2, hcells⟩ := HR.out hne
    obtain ⟨q0, q1, q2, q3⟩ := hcells n t ht
    have l1 : (n : Int) < (x.length : Int) := by omega
    have l2 : decide ((n : Int) < (x.length : Int)) = true := decide_eq_true l1
    have l3 : (0 : Int) ≤ (n : Int) := by omega
    clear hcells
    go_wp2_with fail
    go_region
    go_wp2_with fail
    exact bodyPost_ret (res_q Tryz.results8 rfl rfl rfl (show Blk (World.setCell (World.drew _) _ _) _ _ _ from HF.out.1)) rfl ⟨_, by rw [HE.out]; rfl, by rw [HE.out]; exact HF.out.2.1.high (fun _ _ => rfl) (Nat.le_refl _), ⟨HF.out.2.2.os, HF.out.2.2.tape, HF.out.2.2.output, HF.out.2.2.size, HF.out.2.2.block⟩⟩
  · have HE := Lib.hid (show queryS s.data.toList = (ns, s.data.toList.length, f) by
      unfold queryS
      rw [← HX.out]
      dsimp only
      rw [if_neg (by simp), ← HPS.out]
      dsimp only
      rw [if_neg hf, List.getElem?_eq_none (by omega)])
    have l1 : ¬ (n : Int) < (x.length : Int) := by omega
    have l2 : decide ((n : Int) < (x.length : Int)) = false := decide_eq_false l1
    go_wp2_with fail
    exact bodyPost_ret (res_q Tryz.results8 rfl rfl rfl HF.out.1) rfl ⟨_, by rw [HE.out]; rfl, by rw [HE.out]; exact HF.out.2.1, HF.out.2.2⟩
end Go.Proofs.YtnaehhpikhlppaaGreatDoor

namespace Go.Proofs.YtnaehhpikhlppaaGreatDoor
open Go.RowKit LexS ParS BigFrame

theorem lexT_all {l : List Tk} (h : (l.all fun t => decide (oneS (oneT t) = (⟨t.kind, t.s, t.n, 0⟩, (oneT t).length)) && match oneT t with | [] => false | c :: _ => !blankB c) = true) : ∀ t ∈ l, LexT t := by
  intro t ht
  have := List.all_eq_true.1 h t ht
  rw [Bool.and_eq_true, decide_eq_true_eq] at this
  refine ⟨this.1, ?_⟩
  have h2 := this.2
  split at h2
  · cases h2
  · rename_i c r e
    exact ⟨c, r, e, by simpa using h2⟩
/-- A query that is known is fine. -/
theorem fine_known {s : Bytes} {q : Qr} (h : queryS s = (q.flat 0, 0, 0)) (ok : q.Ok) (hl : ∀ t ∈ q.tok, LexT t) (hf : q.tok.length ≤ 1024) (hb : parseAll (pQuery 16) q.tok = (q.flat 0, 0, 0)) : Fine q (q.flat 0) := by
  obtain ⟨q', h1, _⟩ := fine_of h
  exact ⟨⟨rfl, ⟨ok, hl, hf⟩, h1.tree, h1.fits, h1.few, h1.last⟩, hb⟩
theorem ex13_1 : ∃ (ns : List Nd) (q : Qr), queryS [102, 101, 116, 99, 104, 32, 108, 111, 97, 100, 124, 119, 104, 101, 114, 101, 40, 104, 111, 115, 116, 61, 34, 97, 34, 111, 114, 32, 110, 62, 53, 41, 97, 110, 100, 32, 117, 112, 61, 116, 114, 117, 101, 124, 116, 111, 112, 32, 51, 32, 98, 121, 32, 110] = (ns, 0, 0) ∧ Fine q ns ∧ q.textB = [102, 101, 116, 99, 104, 32, 108, 111, 97, 100, 32, 124, 32, 119, 104, 101, 114, 101, 32, 40, 104, 111, 115, 116, 32, 61, 32, 34, 97, 34, 32, 111, 114, 32, 110, 32, 62, 32, 53, 41, 32, 97, 110, 100, 32, 117, 112, 32, 61, 32, 116, 114, 117, 101, 32, 124, 32, 116, 111, 112, 32, 51, 32, 98, 121, 32, 110] := by
  have h : queryS [102, 101, 116, 99, 104, 32, 108, 111, 97, 100, 124, 119, 104, 101, 114, 101, 40, 104, 111, 115, 116, 61, 34, 97, 34, 111, 114, 32, 110, 62, 53, 41, 97, 110, 100, 32, 117, 112, 61, 116, 114, 117, 101, 124, 116, 111, 112, 32, 51, 32, 98, 121, 32, 110] = (Qr.flat 0 (.top (.where_ (.fetch [108, 111, 97, 100] 0 1099511627775) (.and (.or (.cmp [104, 111, 115, 116] 1 ⟨2, 0, [97]⟩) (.cmp [110] 5 ⟨1, 5, []⟩)) (.cmp [117, 112] 1 ⟨3, 1, []⟩))) 3 [110] : Qr), 0, 0) := by decide +kernel
  exact ⟨_, (.top (.where_ (.fetch [108, 111, 97, 100] 0 1099511627775) (.and (.or (.cmp [104, 111, 115, 116] 1 ⟨2, 0, [97]⟩) (.cmp [110] 5 ⟨1, 5, []⟩)) (.cmp [117, 112] 1 ⟨3, 1, []⟩))) 3 [110] : Qr), h, fine_known h (⟨trivial, ⟨⟨⟨by decide, by decide⟩, by decide, by decide, .inr (.inl ⟨rfl, rfl⟩)⟩, ⟨by decide, by decide⟩, by decide, by decide, .inl ⟨rfl, rfl⟩⟩, ⟨by decide, by decide⟩, by decide, by decide, .inr (.inr ⟨rfl, rfl, .inr rfl⟩)⟩) (lexT_all (by decide +kernel)) (by decide +kernel) (by decide +kernel), by decide +kernel⟩
theorem ex13_2 : ∃ (ns : List Nd) (q : Qr), queryS [102, 101, 116, 99, 104, 32, 108, 111, 97, 100, 32, 124, 32, 103, 114, 111, 117, 112, 58, 99, 111, 117, 110, 116, 44, 115, 117, 109, 32, 110] = (ns, 0, 0) ∧ Fine q ns ∧ q.textB = [102, 101, 116, 99, 104, 32, 108, 111, 97, 100, 32, 124, 32, 103, 114, 111, 117, 112, 32, 58, 32, 99, 111, 117, 110, 116, 44, 32, 115, 117, 109, 32, 110] := by
  have h : queryS [102, 101, 116, 99, 104, 32, 108, 111, 97, 100, 32, 124, 32, 103, 114, 111, 117, 112, 58, 99, 111, 117, 110, 116, 44, 115, 117, 109, 32, 110] = (Qr.flat 0 (.group (.fetch [108, 111, 97, 100] 0 1099511627775) [] [(1, []), (2, [110])] : Qr), 0, 0) := by decide +kernel
  exact ⟨_, (.group (.fetch [108, 111, 97, 100] 0 1099511627775) [] [(1, []), (2, [110])] : Qr), h, fine_known h (⟨trivial, fun s h => by simp at h, by decide, fun a ha => by
      simp only [List.mem_cons, List.not_mem_nil, or_false] at ha
      rcases ha with rfl | rfl
      · exact .inl rfl
      · exact .inr ⟨by decide, by decide⟩⟩) (lexT_all (by decide +kernel)) (by decide +kernel) (by decide +kernel), by decide +kernel⟩
set_option maxRecDepth 100000 in
theorem text_none (w : World) : Calls Tryz.prog 24 #[.agg #[.slice none 0 0]] w fun e w' => e = .returned (.tuple #[.string ⟨#[]⟩, .bool false]) ∧ Below w.heap.size w w' := by
  have hb : Below w.heap.size w (w.alloc (.cells #[.slice none 0 0] 25)) := (Below.refl _ _).alloc (Nat.le_refl _) _
  go_enter Tryz.func24, Tryz.ntmps24
  go_wp2_with fail
  exact bodyPost_ret (v := .tuple #[.string ⟨#[]⟩, .bool false]) (by simp [results, Tryz.results24, go_sem]) rfl ⟨rfl, hb⟩
set_option maxRecDepth 100000 in
theorem check_none (w : World) : Calls Tryz.prog 11 #[.agg #[.slice none 0 0]] w fun e w' => e = .returned (.int .i64 120) ∧ Below w.heap.size w w' := by
  have hb : Below w.heap.size w (w.alloc (.cells #[.slice none 0 0] 25)) := (Below.refl _ _).alloc (Nat.le_refl _) _
  have ht := text_none (w.alloc (.cells #[.slice none 0 0] 25))
  go_enter Tryz.func11, Tryz.ntmps11
  go_wp2_with fail
  refine ht.mono ?_
  rintro e w2 ⟨rfl, hb2⟩
  have HB := Lib.hid (hb.trans (hb2.mono hb.size))
  clear hb hb2 ht
  go_wp2_with fail
  exact bodyPost_ret (results_tmp rfl _ _ _) rfl ⟨rfl, HB.out⟩
set_option maxRecDepth 100000 in
theorem print_none (w : World) : Calls Tryz.prog 9 #[.agg #[.slice none 0 0]] w fun e w' => e = .returned (.tuple #[.string ⟨#[]⟩, .int .i64 120]) ∧ Below w.heap.size w w' := by
  have hb : Below w.heap.size w (w.alloc (.cells #[.slice none 0 0] 25)) := (Below.refl _ _).alloc (Nat.le_refl _) _
  have ht := check_none (w.alloc (.cells #[.slice none 0 0] 25))
  go_enter Tryz.func9, Tryz.ntmps9
  go_wp2_with fail
  refine ht.mono ?_
  rintro e w2 ⟨rfl, hb2⟩
  have HB := Lib.hid (hb.trans (hb2.mono hb.size))
  clear hb hb2 ht
  go_wp2_with fail
  exact bodyPost_ret (v := .tuple #[.string ⟨#[]⟩, .int .i64 120]) (by simp [results, Tryz.results9, go_sem]) rfl ⟨rfl, HB.out⟩
set_option maxRecDepth 100000 in
theorem shown_13 (w : World) (hp : PW w) : Calls Tryz.prog 7 #[] w fun e w' => e = .returned (.bool true) ∧ Below w.heap.size w w' := by
  obtain ⟨n1, q1, e1, f1, t1⟩ := ex13_1
  obtain ⟨n2, q2, e2, f2, t2⟩ := ex13_2
  have HQ1 := Lib.hid (show ∀ w, Calls Tryz.prog 8 #[.string ⟨#[102, 101, 116, 99, 104, 32, 108, 111, 97, 100, 124, 119, 104, 101, 114, 101, 40, 104, 111, 115, 116, 61, 34, 97, 34, 111, 114, 32, 110, 62, 53, 41, 97, 110, 100, 32, 117, 112, 61, 116, 114, 117, 101, 124, 116, 111, 112, 32, 51, 32, 98, 121, 32, 110]⟩] w (PostAll w (n1, 0, 0)) from fun w => by
    have := rquery_text ⟨#[102, 101, 116, 99, 104, 32, 108, 111, 97, 100, 124, 119, 104, 101, 114, 101, 40, 104, 111, 115, 116, 61, 34, 97, 34, 111, 114, 32, 110, 62, 53, 41, 97, 110, 100, 32, 117, 112, 61, 116, 114, 117, 101, 124, 116, 111, 112, 32, 51, 32, 98, 121, 32, 110]⟩ (by decide) w
    rwa [show queryS (⟨#[102, 101, 116, 99, 104, 32, 108, 111, 97, 100, 124, 119, 104, 101, 114, 101, 40, 104, 111, 115, 116, 61, 34, 97, 34, 111, 114, 32, 110, 62, 53, 41, 97, 110, 100, 32, 117, 112, 61, 116, 114, 117, 101, 124, 116, 111, 112, 32, 51, 32, 98, 121, 32, 110]⟩ : ByteArray).data.toList = (n1, 0, 0) from e1] at this)
  have HQ2 := Lib.hid (show ∀ w, Calls Tryz.prog 8 #[.string ⟨#[102, 101, 116, 99, 104, 32, 108, 111, 97, 100, 32, 124, 32, 103, 114, 111, 117, 112, 58, 99, 111, 117, 110, 116, 44, 115, 117, 109, 32, 110]⟩] w (PostAll w (n2, 0, 0)) from fun w => by
    have := rquery_text ⟨#[102, 101, 116, 99, 104, 32, 108, 111, 97, 100, 32, 124, 32, 103, 114, 111, 117, 112, 58, 99, 111, 117, 110, 116, 44, 115, 117, 109, 32, 110]⟩ (by decide) w
    rwa [show queryS (⟨#[102, 101, 116, 99, 104, 32, 108, 111, 97, 100, 32, 124, 32, 103, 114, 111, 117, 112, 58, 99, 111, 117, 110, 116, 44, 115, 117, 109, 32, 110]⟩ : ByteArray).data.toList = (n2, 0, 0) from e2] at this)
  have HP1 := Lib.hid (show ∀ (W : World) (g cap : Nat), NR W (.slice (some ⟨g, 0, none⟩) n1.length cap) n1 → PW W → Calls Tryz.prog 9 #[.agg #[.slice (some ⟨g, 0, none⟩) n1.length cap]] W fun e w' => e = .returned (.tuple #[.string ⟨#[102, 101, 116, 99, 104, 32, 108, 111, 97, 100, 32, 124, 32, 119, 104, 101, 114, 101, 32, 40, 104, 111, 115, 116, 32, 61, 32, 34, 97, 34, 32, 111, 114, 32, 110, 32, 62, 32, 53, 41, 32, 97, 110, 100, 32, 117, 112, 32, 61, 32, 116, 114, 117, 101, 32, 124, 32, 116, 111, 112, 32, 51, 32, 98, 121, 32, 110]⟩, .int .i64 0]) ∧ Below W.heap.size W w' from fun W g cap hn hw => by
    have := print_fine f1 W hn hw
    rwa [t1] at this)
  have HP2 := Lib.hid (show ∀ (W : World) (g cap : Nat), NR W (.slice (some ⟨g, 0, none⟩) n2.length cap) n2 → PW W → Calls Tryz.prog 9 #[.agg #[.slice (some ⟨g, 0, none⟩) n2.length cap]] W fun e w' => e = .returned (.tuple #[.string ⟨#[102, 101, 116, 99, 104, 32, 108, 111, 97, 100, 32, 124, 32, 103, 114, 111, 117, 112, 32, 58, 32, 99, 111, 117, 110, 116, 44, 32, 115, 117, 109, 32, 110]⟩, .int .i64 0]) ∧ Below W.heap.size W w' from fun W g cap hn hw => by
    have := print_fine f2 W hn hw
    rwa [t2] at this)
  have N1 := Lib.hid f1.tree.ne
  have N2 := Lib.hid f2.tree.ne
  have HW := Lib.hid hp
  clear e1 e2 f1 f2 t1 t2 hp
  go_enter Tryz.func7, Tryz.ntmps7
  go_wp2_with fail
  refine (HQ1.out _).mono ?_
  rintro e w1 ⟨nv, rfl, hn, hb⟩
  dsimp only at hn
  obtain ⟨p, c1, rfl, _, _, hne⟩ := hn.nr
  obtain ⟨g1, rfl, _⟩ := hne N1.out
  have H1 := Lib.hid hn.nr
  have B1 := Lib.hid hb
  clear hn hb hne
  go_upto_region 2 with fail
  generalize hx : World.alloc _ _ = w2
  obtain ⟨hb2, hx2⟩ := qbox hx
  have H2 := Lib.hid (H1.out.stayP hb2)
  have B2 := Lib.hid (chain B1.out hb2)
  have X2 := Lib.hid hx2
  clear hx hb2 hx2 H1
  go_wp2_with fail
  refine (HQ2.out _).mono ?_
  rintro e w3 ⟨nv, rfl, hn, hb⟩
  dsimp only at hn
  obtain ⟨p, c2, rfl, _, _, hne⟩ := hn.nr
  obtain ⟨g2, rfl, _⟩ := hne N2.out
  have H3 := Lib.hid (H2.out.stayP hb)
  have P3 := Lib.hid hn.nr
  have B3 := Lib.hid (chain B2.out hb)
  have X3 := Lib.hid (X2.out.kept hb)
  clear hn hb hne H2 X2
  go_upto_region 3 with fail
  generalize hx : World.alloc _ _ = w4
  obtain ⟨hb4, hx4⟩ := qbox hx
  have H4 := Lib.hid (H3.out.stayP hb4)
  have P4 := Lib.hid (P3.out.stayP hb4)
  have B4 := Lib.hid (chain B3.out hb4)
  have X4 := Lib.hid (X3.out.kept hb4)
  have Y4 := Lib.hid hx4
  have a0 : w4.cell? ⟨w1.heap.size, 0, none⟩ = some (.slice (some ⟨g1, 0, none⟩) n1.length c1) := X4.out.cell 0
  clear hx hb4 hx4 H3 P3 X3
  go_wp2_with fail
  refine (HP1.out _ _ _ H4.out (HW.out.kept B4.out)).mono ?_
  rintro e w5 ⟨rfl, hb⟩
  have B5 := Lib.hid (chain B4.out hb)
  have P5 := Lib.hid (P4.out.stayP hb)
  have b0 : w5.cell? ⟨w3.heap.size, 0, none⟩ = some (.slice (some ⟨g2, 0, none⟩) n2.length c2) := (Y4.out.kept hb).cell 0
  clear hb a0
  go_wp2_with fail
  refine (HP2.out _ _ _ P5.out (HW.out.kept B5.out)).mono ?_
  rintro e w6 ⟨rfl, hb⟩
  have B6 := Lib.hid (chain B5.out hb)
  have hno := print_none w6
  clear hb b0
  go_wp2_with fail
  refine hno.mono ?_
  rintro e w7 ⟨rfl, hb⟩
  have B7 := Lib.hid (chain B6.out hb)
  clear hb hno
  go_wp2_with fail
  exact bodyPost_ret (results_tmp rfl _ _ _) rfl ⟨rfl, B7.out⟩
end Go.Proofs.YtnaehhpikhlppaaGreatDoor
