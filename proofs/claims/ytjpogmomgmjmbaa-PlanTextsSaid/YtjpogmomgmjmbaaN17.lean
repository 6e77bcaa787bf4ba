/- The walks of the reference's end, Parse, Cond, Query. The walk of the reference's Query: a text. The walks of plan's below and of the reference's shape. The walk of package parse's Query: a text. A tree's nodes as they lie; the walk of ints. The walk of the law's shown: five texts. The walks of catchmentref12's SameNode and Same, at two trees that are alike. The walk of catchmentref12's Same, at two trees that are alike. A query's nodes and a splitter in memory; the walk of plan's goes. -/
import Derived.Test.YtjpogmomgmjmbaaN14
import Derived.Test.YtjpogmomgmjmbaaN16
import Derived.Test.YtjpogmomgmjmbaaN2
import Derived.Test.YtjpogmomgmjmbaaN3
import Derived.Laws.StructEq
/-! The walks of the reference's end, Parse, Cond, Query. -/
namespace Go.Proofs.Ytjpogmomgmjmbaa
open Go.RowKit LexS ParS BigFrame
set_option maxHeartbeats 4000000
set_option linter.unusedVariables false
set_option linter.unusedSimpArgs false
attribute [local go_sem] World.cell?_alloc_some cell_drewN_new free_drewN_new cell_drew_new free_drew_new

/-- What is answered in the end. -/
def endS (L : Nat) : RSt → List Nd × Nat × Nat
  | .error (k, e) => ([], L - k, codeOf e)
  | .ok (ts, ns) => if ts ≠ [] then ([], L - ts.length, 120) else if 128 < ns.length then ([], 0, 2) else (ns, 0, 0)
theorem endS_nil (L : Nat) (ns : List Nd) : endS L (.ok ([], ns)) = if 128 < ns.length then ([], 0, 2) else (ns, 0, 0) := by simp [endS]
theorem parseAll_end (read : M Nat) (l : List Tk) : parseAll read l = if 1024 < l.length then ([], 0, 2) else endS l.length (stOf (read l [])) := by
  unfold parseAll
  rcases read l [] with ⟨k, e⟩ | ⟨a, ts, ns⟩ <;> rfl
section
variable {base r deep d2 : Nat} {tv nv nv' nv0 nv1 nv2 lv : Value} {T : List Tok} {st st1 st2 : RSt} {ts ts1 ts2 : List Tk} {ns ns1 : List Nd} {W W' Wx w1 w2 W1 wr wr2 : World} {ri : Int}
/-- What end answers. -/
def EndP (base r : Nat) (T : List Tok) (W : World) (x : List Nd × Nat × Nat) (e : Ending) (W' : World) : Prop :=
  ∃ nv', e = .returned (.tuple #[.agg #[nv'], .int .i64 (x.2.1 : Int), .int .i64 (x.2.2 : Int)]) ∧ NS W' base nv' x.1 ∧ Mv r W W'
theorem RF.nds (h : RF base r tv T deep (.ok (ts, ns)) nv W) : NS W base nv ns := by
  obtain ⟨ns', h1, _, h2⟩ := h.nodes
  rw [h2 _ _ rfl]
  exact h1
/-- A store into a box of a query leaves nodes as they are. -/
theorem ns_put {b g : Nat} {cs : Array Value} {i : Nat} {u : Value} (h : NS W b nv ns) (hx : Blk W g 25 cs) : NS (W.setCell ⟨g, i, none⟩ u) b nv ns := by
  obtain ⟨ms, h1, h2, h3⟩ := h
  exact ⟨ms, h1, row_far h2 hx (by decide) i u, fun m hm => ⟨row_far (h3 m hm).l hx (by decide) i u, row_far (h3 m hm).names hx (by decide) i u, row_far (h3 m hm).aggs hx (by decide) i u⟩⟩
set_option maxRecDepth 100000 in
theorem end_bad {k : Nat} {long : Bool} (h : RF base r tv T deep (.error (k, long)) nv W) : Calls Try.prog 28 #[RP r] W (EndP base r T W (endS T.length (.error (k, long)))) := by
  obtain ⟨W0, hW0⟩ : ∃ W0, W0 = W.alloc (.cells #[.slice none 0 0] 25) := ⟨_, rfl⟩
  have hb0 : Below W.heap.size W W0 := by rw [hW0]; exact (Below.refl _ _).alloc (Nat.le_refl _) _
  have k0 : Blk W0 W.heap.size 25 #[.slice none 0 0] := by rw [hW0]; exact Blk.new W _ _
  have h0 := h.kept hb0
  have hrt : r ≠ W.heap.size := Nat.ne_of_lt h.box.lt
  obtain ⟨i, hi⟩ : ∃ i, i = T.length - k := ⟨_, rfl⟩
  have c1 : W0.cell? ⟨r, 1, none⟩ = some (.int .i64 (i : Int)) := by rw [hi]; exact h0.box.cell 1
  have c3 : W0.cell? ⟨r, 3, none⟩ = some (.int .i64 (codeOf long : Int)) := h0.box.cell 3
  have hc := codeOf_ne long
  obtain ⟨c, hcc⟩ : ∃ c, c = codeOf long := ⟨_, rfl⟩
  rw [← hcc] at c3 hc
  have q1 : ((c : Int) == 0) = false := by rw [beq_eq_false_iff_ne]; omega
  have q2 : ((c : Int) != 0) = true := by rw [bne_iff_ne]; omega
  have q3 : ¬ (c : Int) = 0 := by omega
  have d0 : W0.cell? ⟨W.heap.size, 0, none⟩ = some (.slice none 0 0) := k0.cell 0
  have g0 := k0.free 0
  have HE := Lib.hid (show endS T.length (.error (k, long)) = ([], i, c) by rw [hi, hcc]; rfl)
  have HW := Lib.hid hW0
  have HK := Lib.hid (And.intro hb0 k0)
  clear h h0 hi hc hcc hb0 k0 hW0
  rw [HE.out]
  go_enter Try.func28, Try.ntmps28
  go_wp2_with fail
  rw [show W.alloc (.cells #[.slice none 0 0] 25) = W0 from HW.out.symm]
  go_big_quiet (fail)
  go_wp2_with fail
  go_region
  go_wp2_with fail
  exact bodyPost_ret (res_q Try.results28 rfl rfl rfl ((HK.out.2.drewN _).put 0 _)) rfl ⟨_, rfl, nil_NS, Mv.far (Stp.of (below_drewN HK.out.1 _)) (Nat.le_refl _) 0 _⟩
set_option maxRecDepth 100000 in
theorem end_more {t : Tk} (h : RF base r tv T deep (.ok (t :: ts1, ns)) nv W) : Calls Try.prog 28 #[RP r] W (EndP base r T W (endS T.length (.ok (t :: ts1, ns)))) := by
  obtain ⟨p, cap, rfl, hcap, hmax, hrow⟩ := row_any h.toks
  obtain ⟨W0, hW0⟩ : ∃ W0, W0 = W.alloc (.cells #[.slice none 0 0] 25) := ⟨_, rfl⟩
  have hb0 : Below W.heap.size W W0 := by rw [hW0]; exact (Below.refl _ _).alloc (Nat.le_refl _) _
  have k0 : Blk W0 W.heap.size 25 #[.slice none 0 0] := by rw [hW0]; exact Blk.new W _ _
  have h0 := h.kept hb0
  have hrt : r ≠ W.heap.size := Nat.ne_of_lt h.box.lt
  have hleft : (t :: ts1).length ≤ T.length := h.left
  have hfew := h.few
  obtain ⟨i, hi⟩ : ∃ i, i = T.length - (t :: ts1).length := ⟨_, rfl⟩
  have hlt : i < T.length := by simp only [List.length_cons] at hi hleft; omega
  have c0 : W0.cell? ⟨r, 0, none⟩ = some (.slice p T.length cap) := h0.box.cell 0
  have c1 : W0.cell? ⟨r, 1, none⟩ = some (.int .i64 (i : Int)) := by rw [hi]; exact h0.box.cell 1
  have c3 : W0.cell? ⟨r, 3, none⟩ = some (.int .i64 0) := h0.box.cell 3
  have q1 : decide ((i : Int) < (T.length : Int)) = true := decide_eq_true (by omega)
  have q2 : (i : Int) < (T.length : Int) := by omega
  have q3 : decide (i < T.length) = true := decide_eq_true hlt
  have HE := Lib.hid (show endS T.length (.ok (t :: ts1, ns)) = ([], i, 120) by rw [hi]; rfl)
  have HW := Lib.hid hW0
  have HK := Lib.hid (And.intro hb0 k0)
  have HH := Lib.hid h0
  have HI := Lib.hid hi
  clear h h0 hi hb0 k0 hW0 hrow hleft
  rw [HE.out]
  go_enter Try.func28, Try.ntmps28
  go_wp2_with fail
  rw [show W.alloc (.cells #[.slice none 0 0] 25) = W0 from HW.out.symm]
  go_big_quiet (fail)
  go_wp2_with fail
  have hbq : Below W0.heap.size W0 (W0.drewN nq) := below_drewN (Below.refl _ _) nq
  refine (fail_r (HH.out.kept hbq)).mono ?_
  rintro e w2 ⟨rfl, h2, m2⟩
  have x2 := m2.blk (HK.out.2.kept hbq) hrt.symm
  have HM := Lib.hid (Stp.trans (Stp.of (r := r) (nv := .slice none 0 0) (chain HK.out.1 hbq)) m2)
  have HX := Lib.hid x2
  have c1 : w2.cell? ⟨r, 1, none⟩ = some (.int .i64 (i : Int)) := by rw [HI.out]; exact h2.box.cell 1
  have c3 : w2.cell? ⟨r, 3, none⟩ = some (.int .i64 120) := h2.box.cell 3
  have d0 : w2.cell? ⟨W.heap.size, 0, none⟩ = some (.slice none 0 0) := x2.cell 0
  have g0 := x2.free 0
  clear h2 m2 x2 hbq
  go_wp2_with fail
  go_region
  go_wp2_with fail
  exact bodyPost_ret (res_q Try.results28 rfl rfl rfl ((HX.out.drew).put 0 _)) rfl ⟨_, rfl, nil_NS, Mv.far (Stp.trans HM.out (Stp.of (Below.refl _ _).drew)) (Nat.le_refl _) 0 _⟩
set_option maxRecDepth 100000 in
theorem end_all (h : RF base r tv T deep (.ok ([], ns)) nv W) : Calls Try.prog 28 #[RP r] W (EndP base r T W (endS T.length (.ok ([], ns)))) := by
  obtain ⟨p, cap, rfl, hcap, hmax, hrow⟩ := row_any h.toks
  obtain ⟨W0, hW0⟩ : ∃ W0, W0 = W.alloc (.cells #[.slice none 0 0] 25) := ⟨_, rfl⟩
  have hb0 : Below W.heap.size W W0 := by rw [hW0]; exact (Below.refl _ _).alloc (Nat.le_refl _) _
  have k0 : Blk W0 W.heap.size 25 #[.slice none 0 0] := by rw [hW0]; exact Blk.new W _ _
  have hns := h.nds
  obtain ⟨no, nc, rfl⟩ : ∃ o c, nv = .slice o ns.length c := by
    obtain ⟨ms, _, ho, _⟩ := hns
    exact slice_form ho
  have h0 := h.kept hb0
  have hrt : r ≠ W.heap.size := Nat.ne_of_lt h.box.lt
  have hl5 : ns.length ≤ 5000 := by
    obtain ⟨ns', h1, h2, h3⟩ := h.nodes
    rw [h3 _ _ rfl]
    exact h2
  have c0 : W0.cell? ⟨r, 0, none⟩ = some (.slice p T.length cap) := h0.box.cell 0
  have c1 : W0.cell? ⟨r, 1, none⟩ = some (.int .i64 (T.length : Int)) := h0.box.cell 1
  have c2 : W0.cell? ⟨r, 2, none⟩ = some (.slice no ns.length nc) := h0.box.cell 2
  have c3 : W0.cell? ⟨r, 3, none⟩ = some (.int .i64 0) := h0.box.cell 3
  have d0 : W0.cell? ⟨W.heap.size, 0, none⟩ = some (.slice none 0 0) := k0.cell 0
  have g0 := k0.free 0
  have q1 : decide ((T.length : Int) < (T.length : Int)) = false := decide_eq_false (by omega)
  have q2 : ¬ (T.length : Int) < (T.length : Int) := by omega
  have HW := Lib.hid hW0
  have HK := Lib.hid (And.intro hb0 k0)
  have HNS := Lib.hid (hns.kept hb0)
  by_cases h128 : 128 < ns.length
  · have p1 : decide ((128 : Int) < (ns.length : Int)) = true := decide_eq_true (by omega)
    have p2 : (128 : Int) < (ns.length : Int) := by omega
    have p3 : decide (128 < ns.length) = true := decide_eq_true h128
    have HE := Lib.hid (show endS T.length (.ok ([], ns)) = ([], 0, 2) by rw [endS_nil, if_pos h128])
    clear h h0 hb0 k0 hW0 hrow hns h128
    rw [HE.out]
    go_enter Try.func28, Try.ntmps28
    go_wp2_with fail
    rw [show W.alloc (.cells #[.slice none 0 0] 25) = W0 from HW.out.symm]
    go_big_quiet (fail)
    go_wp2_with fail
    exact bodyPost_ret (res_q Try.results28 rfl rfl rfl ((HK.out.2.drewN _).put 0 _)) rfl ⟨_, rfl, nil_NS, Mv.far (Stp.of (below_drewN HK.out.1 _)) (Nat.le_refl _) 0 _⟩
  · have p1 : decide ((128 : Int) < (ns.length : Int)) = false := decide_eq_false (by omega)
    have p2 : ¬ (128 : Int) < (ns.length : Int) := by omega
    have p3 : decide (128 < ns.length) = false := decide_eq_false h128
    have HE := Lib.hid (show endS T.length (.ok ([], ns)) = (ns, 0, 0) by rw [endS_nil, if_neg h128])
    have hnw : ∀ k, (Value.slice no ns.length nc).ownBlock = some k → k ≠ W.heap.size := fun k hk e => by
      have h1 := h.own_lt.2 k hk
      omega
    have HNW := Lib.hid hnw
    clear h h0 hb0 k0 hW0 hrow hns h128 hnw
    rw [HE.out]
    go_enter Try.func28, Try.ntmps28
    go_wp2_with fail
    rw [show W.alloc (.cells #[.slice none 0 0] 25) = W0 from HW.out.symm]
    go_big_quiet (fail)
    go_wp2_with fail
    exact bodyPost_ret (res_q Try.results28 rfl rfl rfl ((HK.out.2.drewN _).put 0 _)) rfl ⟨_, rfl, ns_put (HNS.out.kept (below_drewN (Below.refl _ _) _)) (HK.out.2.drewN _), Mv.far (Stp.of (below_drewN HK.out.1 _)) (Nat.le_refl _) 0 _⟩
theorem end_r (h : RF base r tv T deep st nv W) : Calls Try.prog 28 #[RP r] W (EndP base r T W (endS T.length st)) := by
  rcases st with ⟨k, long⟩ | ⟨ts, ns⟩
  · exact end_bad h
  · cases ts with
    | nil => exact end_all h
    | cons t ts1 => exact end_more h
set_option maxRecDepth 100000 in
theorem rparse_any (htoks : W.ownsRow 0 52 4 tv T.length (toksL T)) : Calls Try.prog 14 #[tv] W (PostAll W (parseS T)) := by
  obtain ⟨p, cap, rfl, hcap, hmax, hrow⟩ := row_any htoks
  obtain ⟨W0, hW0⟩ : ∃ W0, W0 = W.alloc (.cells #[.slice none 0 0] 25) := ⟨_, rfl⟩
  have hb0 : Below W.heap.size W W0 := by rw [hW0]; exact (Below.refl _ _).alloc (Nat.le_refl _) _
  have k0 : Blk W0 W.heap.size 25 #[.slice none 0 0] := by rw [hW0]; exact Blk.new W _ _
  have hs0 : W.heap.size < W0.heap.size := k0.lt
  have d0 : W0.cell? ⟨W.heap.size, 0, none⟩ = some (.slice none 0 0) := k0.cell 0
  have g0 := k0.free 0
  have HK := Lib.hid (And.intro hb0 (And.intro hs0 k0))
  have HW := Lib.hid hW0
  by_cases h1024 : 1024 < T.length
  · have q1 : decide ((1024 : Int) < (T.length : Int)) = true := decide_eq_true (by omega)
    have q2 : (1024 : Int) < (T.length : Int) := by omega
    have q3 : decide (1024 < T.length) = true := decide_eq_true h1024
    have HE := Lib.hid (show parseS T = ([], 0, 2) by unfold parseS parseAll; rw [if_pos (by rw [List.length_map]; exact h1024)])
    have HF := Lib.hid (one_put HK.out.1 HK.out.2.1 HK.out.2.2 nil_NS (Below.refl W0.heap.size W0))
    clear hb0 k0 hs0 hW0 hrow htoks h1024
    rw [HE.out]
    go_enter Try.func14, Try.ntmps14
    go_upto_region 1 with (fail)
    rw [show W.alloc (.cells #[.slice none 0 0] 25) = W0 from HW.out.symm]
    go_wp2_with fail
    exact bodyPost_ret (res_q Try.results14 rfl rfl rfl HF.out.1) rfl ⟨_, rfl, HF.out.2.1, HF.out.2.2⟩
  · have q1 : decide ((1024 : Int) < (T.length : Int)) = false := decide_eq_false (by omega)
    have q2 : ¬ (1024 : Int) < (T.length : Int) := by omega
    have q3 : decide (1024 < T.length) = false := decide_eq_false h1024
    have HE := Lib.hid (show parseS T = endS T.length (stOf (goP (pQuery 16) (.ok (T.map tk, [])))) by
      have e := parseAll_end (pQuery 16) (T.map tk)
      rw [List.length_map, if_neg h1024] at e
      exact e)
    obtain ⟨W1, hW1⟩ : ∃ W1, W1 = W0.alloc (.cells #[.slice p T.length cap, .int .i64 0, .slice none 0 0, .int .i64 0, .int .i64 0] 70) := ⟨_, rfl⟩
    have hb1 : Below W0.heap.size W0 W1 := by rw [hW1]; exact (Below.refl _ _).alloc (Nat.le_refl _) _
    have hbox : Blk W1 W0.heap.size 70 #[.slice p T.length cap, .int .i64 ((T.length - leftR (.ok (T.map tk, [])) : Nat) : Int), .slice none 0 0, .int .i64 (codeR (.ok (T.map tk, [])) : Int), .int .i64 ((0 : Nat) : Int)] := by
      rw [show T.length - leftR (.ok (T.map tk, [])) = 0 by simp [leftR], hW1]
      exact Blk.new W0 _ _
    have hrf : RF W0.heap.size W0.heap.size (.slice p T.length cap) T 0 (.ok (T.map tk, [])) (.slice none 0 0) W1 :=
      ⟨hbox, Nat.le_refl _, own_kept (own_kept htoks hb0) hb1, by simp [leftR], (fun ts ns e => by cases e; simp), by omega, [], nil_NS, by simp, fun ts ns e => by cases e; rfl⟩
    have HC := Lib.hid (rquery_all 16 0 rfl W0.heap.size W0.heap.size (.slice p T.length cap) (.slice none 0 0) T (.ok (T.map tk, [])) W1 hrf (Nat.le_of_lt hbox.lt) (fun ts ns e => by cases e; simp; omega) (.inl rfl))
    have HB1 := Lib.hid (And.intro hb1 (Nat.le_of_lt hbox.lt))
    have HW1 := Lib.hid hW1
    clear hb0 k0 hs0 hW0 hrow htoks h1024 hb1 hbox hrf hW1
    rw [HE.out]
    go_enter Try.func14, Try.ntmps14
    go_upto_region 1 with (fail)
    rw [show W.alloc (.cells #[.slice none 0 0] 25) = W0 from HW.out.symm]
    go_upto_region 4 with (fail)
    rw [show W0.alloc (.cells #[.slice p T.length cap, .int .i64 0, .slice none 0 0, .int .i64 0, .int .i64 0] 70) = W1 from HW1.out.symm]
    go_wp2_with fail
    refine HC.out.mono ?_
    rintro e w2 ⟨nv2, i2, rfl, _, h2, s2⟩
    have HEN := Lib.hid (end_r h2)
    have HS2 := Lib.hid (HB1.out.1.trans (s2.below (Nat.le_refl _) (fun k hk => by cases hk) HB1.out.2))
    clear h2 s2
    go_wp2_with fail
    refine HEN.out.mono ?_
    rintro e w3 ⟨nv3, rfl, hn, m3⟩
    have hb3 : Below W0.heap.size W0 w3 := HS2.out.trans (m3.below (Nat.le_refl _) (fun k hk => by cases hk) HS2.out.size)
    obtain ⟨no, nc, rfl⟩ : ∃ o c, nv3 = .slice o (endS T.length (stOf (goP (pQuery 16) (.ok (T.map tk, []))))).1.length c := by
      obtain ⟨ms, _, ho, _⟩ := hn
      exact slice_form ho
    have k3 := HK.out.2.2.kept hb3
    have d0 : w3.cell? ⟨W.heap.size, 0, none⟩ = some (.slice none 0 0) := k3.cell 0
    have g0 := k3.free 0
    have HF := Lib.hid (one_put HK.out.1 HK.out.2.1 HK.out.2.2 hn hb3)
    clear hn m3 hb3 k3
    go_wp2_with fail
    exact bodyPost_ret (res_q Try.results14 rfl rfl rfl HF.out.1) rfl ⟨_, rfl, HF.out.2.1, HF.out.2.2⟩
end
end Go.Proofs.Ytjpogmomgmjmbaa

/-! The walk of the reference's Query: a text. -/
namespace Go.Proofs.Ytjpogmomgmjmbaa
open Go.RowKit LexS ParS BigFrame
set_option maxHeartbeats 4000000
set_option linter.unusedVariables false
set_option linter.unusedSimpArgs false
attribute [local go_sem] World.cell?_alloc_some cell_drewN_new free_drewN_new cell_drew_new free_drew_new

/-- The answer is put into its box. -/
theorem put_ans {W W0 w1 : World} {nv : Value} {ns : List Nd} (hb0 : Below W.heap.size W W0) (k0 : Blk W0 W.heap.size 25 #[.slice none 0 0]) (hn : NS w1 W.heap.size nv ns) (hb : Below W0.heap.size W0 w1) :
    Blk (w1.setCell ⟨W.heap.size, 0, none⟩ nv) W.heap.size 25 #[nv] ∧ NS (w1.setCell ⟨W.heap.size, 0, none⟩ nv) W.heap.size nv ns ∧ Below W.heap.size W (w1.setCell ⟨W.heap.size, 0, none⟩ nv) :=
  ⟨(k0.kept hb).put 0 nv, ns_put hn (k0.kept hb), (chain hb0 hb).setCell (p := ⟨W.heap.size, 0, none⟩) (Nat.le_refl _) nv⟩
theorem NS.selfR {W : World} {b : Nat} {v : Value} {ns : List Nd} {b' : Nat} (h : NS W b v ns) (hb : b' ≤ b) : NS W b' v ns := h.high (fun _ _ => rfl) hb
set_option maxRecDepth 100000 in
theorem rquery_text (s : ByteArray) (hs : s.size ≤ 140737488351232) (w : World) :
    Calls Try.prog 6 #[.string s] w (PostAll w (queryS s.data.toList)) := by
  obtain ⟨W0, hW0⟩ : ∃ W0, W0 = w.alloc (.cells #[.slice none 0 0] 25) := ⟨_, rfl⟩
  have hb0 : Below w.heap.size w W0 := by rw [hW0]; exact (Below.refl _ _).alloc (Nat.le_refl _) _
  have k0 : Blk W0 w.heap.size 25 #[.slice none 0 0] := by rw [hW0]; exact Blk.new w _ _
  have hs0 : w.heap.size < W0.heap.size := k0.lt
  have HK := Lib.hid (And.intro hb0 (And.intro hs0 k0))
  have hlex := rlex_any s hs W0
  have HW0 := Lib.hid hW0
  obtain ⟨⟨x, a, er⟩, hx⟩ : ∃ q, q = lexS s.data.toList := ⟨_, rfl⟩
  have HX := Lib.hid hx
  rw [← hx] at hlex
  have HL := Lib.hid hlex
  clear hb0 k0 hs0 hlex hx hW0
  go_enter Try.func6, Try.ntmps6
  go_wp2_with fail
  rw [show w.alloc (.cells #[.slice none 0 0] 25) = W0 from HW0.out.symm]
  refine HL.out.mono ?_
  rintro e w1 ⟨v, rfl, o1, b1⟩
  dsimp only at o1 ⊢
  have k1 := HK.out.2.2.kept b1
  have c0 : w1.cell? ⟨w.heap.size, 0, none⟩ = some (.slice none 0 0) := k1.cell 0
  have f0 := k1.free 0
  by_cases he : er = 0
  case neg =>
    have HE := Lib.hid (show queryS s.data.toList = ([], a, er) by unfold queryS; rw [← HX.out]; dsimp only; rw [if_pos he])
    have HF := Lib.hid (put_ans HK.out.1 HK.out.2.2 nil_NS b1)
    have he2 : ((er : Int) != 0) = true := by rw [bne_iff_ne]; omega
    have he3 : ¬ (er : Int) = 0 := by omega
    clear o1 b1 k1
    go_wp2_with fail
    exact bodyPost_ret (res_q Try.results6 rfl rfl rfl HF.out.1) rfl ⟨_, by rw [HE.out]; rfl, by rw [HE.out]; exact HF.out.2.1, HF.out.2.2⟩
  subst he
  have O1 := Lib.hid o1
  have B1 := Lib.hid b1
  have HP := Lib.hid (rparse_any (own_base o1 (Nat.zero_le _)))
  clear o1 b1 k1
  go_wp2_with fail
  refine HP.out.mono ?_
  rintro e w2 ⟨nv, rfl, hn, b2⟩
  obtain ⟨⟨ns, n, f⟩, hp⟩ : ∃ q, q = parseS x := ⟨_, rfl⟩
  rw [← hp] at hn ⊢
  dsimp only at hn ⊢
  have HPS := Lib.hid hp
  obtain ⟨no, nc, rfl⟩ : ∃ o c, nv = .slice o ns.length c := by
    obtain ⟨ms, _, ho, _⟩ := hn
    exact slice_form ho
  obtain ⟨u2, hu2⟩ : ∃ u2, u2 = w2.alloc (.cells #[.slice no ns.length nc] 25) := ⟨_, rfl⟩
  have hbu : Below w2.heap.size w2 u2 := by rw [hu2]; exact (Below.refl _ _).alloc (Nat.le_refl _) _
  have xu : Blk u2 w2.heap.size 25 #[.slice no ns.length nc] := by rw [hu2]; exact Blk.new w2 _ _
  have hb12 : Below W0.heap.size W0 u2 := chain B1.out (chain b2 hbu)
  have hn2 : NS u2 w.heap.size (.slice no ns.length nc) ns := (hn.selfR (Nat.le_trans HK.out.1.size B1.out.size)).kept hbu
  have HF := Lib.hid (put_ans HK.out.1 HK.out.2.2 hn2 hb12)
  have k2 := HK.out.2.2.kept hb12
  have d0 : u2.cell? ⟨w.heap.size, 0, none⟩ = some (.slice none 0 0) := k2.cell 0
  have g0 := k2.free 0
  have d1 : u2.cell? ⟨w2.heap.size, 0, none⟩ = some (.slice no ns.length nc) := xu.cell 0
  have O2 := Lib.hid (own_kept O1.out (chain b2 hbu))
  have HU2 := Lib.hid hu2
  clear hn b2 hb12 hn2 k2 hp c0 f0 hbu xu hu2
  go_upto_region 5 with (fail)
  rw [show w2.alloc (.cells #[.slice no ns.length nc] 25) = u2 from HU2.out.symm]
  by_cases hf : f = 0
  · subst hf
    have HE := Lib.hid (show queryS s.data.toList = (ns, 0, 0) by unfold queryS; rw [← HX.out]; dsimp only; rw [if_neg (by simp), ← HPS.out]; rfl)
    go_wp2_with fail
    exact bodyPost_ret (res_q Try.results6 rfl rfl rfl HF.out.1) rfl ⟨_, by rw [HE.out]; rfl, by rw [HE.out]; exact HF.out.2.1, HF.out.2.2⟩
  have hf2 : ((f : Int) == 0) = false := by rw [beq_eq_false_iff_ne]; omega
  have hf3 : ¬ (f : Int) = 0 := by omega
  obtain ⟨p, cap, rfl, hcap, hmax, hrow⟩ := row_any O2.out
  have HR := Lib.hid hrow
  simp only [maxLen] at hmax
  clear hrow
  by_cases hlt : n < x.length
  · obtain ⟨t, ht⟩ : ∃ t, x[n]? = some t := ⟨x[n], List.getElem?_eq_getElem hlt⟩
    have hne : x ≠ [] := by intro h; rw [h] at hlt; simp at hlt
    have HE := Lib.hid (show queryS s.data.toList = (ns, t.at_, f) by
      unfold queryS
      rw [← HX.out]
      dsimp only
      rw [if_neg (by simp), ← HPS.out]
      dsimp only
      rw [if_neg hf, ht])
    obtain ⟨g, rfl, hg1, hg2, hcells⟩ := HR.out hne
    obtain ⟨q0, q1, q2, q3⟩ := hcells n t ht
    have l1 : (n : Int) < (x.length : Int) := by omega
    have l2 : decide ((n : Int) < (x.length : Int)) = true := decide_eq_true l1
    have l3 : (0 : Int) ≤ (n : Int) := by omega
    clear hcells
    go_wp2_with fail
    go_region
    go_wp2_with fail
    exact bodyPost_ret (res_q Try.results6 rfl rfl rfl (show Blk (World.setCell (World.drew _) _ _) _ _ _ from HF.out.1)) rfl ⟨_, by rw [HE.out]; rfl, by rw [HE.out]; exact HF.out.2.1.high (fun _ _ => rfl) (Nat.le_refl _), ⟨HF.out.2.2.os, HF.out.2.2.tape, HF.out.2.2.output, HF.out.2.2.size, HF.out.2.2.block⟩⟩
  · have HE := Lib.hid (show queryS s.data.toList = (ns, s.data.toList.length, f) by
      unfold queryS
      rw [← HX.out]
      dsimp only
      rw [if_neg (by simp), ← HPS.out]
      dsimp only
      rw [if_neg hf, List.getElem?_eq_none (by omega)])
    have l1 : ¬ (n : Int) < (x.length : Int) := by omega
    have l2 : decide ((n : Int) < (x.length : Int)) = false := decide_eq_false l1
    go_wp2_with fail
    exact bodyPost_ret (res_q Try.results6 rfl rfl rfl HF.out.1) rfl ⟨_, by rw [HE.out]; rfl, by rw [HE.out]; exact HF.out.2.1, HF.out.2.2⟩
end Go.Proofs.Ytjpogmomgmjmbaa

/-! The walks of plan's below and of the reference's shape. -/
namespace Go.Proofs.Ytjpogmomgmjmbaa
open Go.RowKit LexS ParS BigFrame
set_option maxHeartbeats 4000000
set_option linter.unusedVariables false
set_option linter.unusedSimpArgs false

theorem known_cases {k : Nat} (h : known k) : k = 1 ∨ k = 2 ∨ k = 3 ∨ k = 4 ∨ k = 5 ∨ k = 6 ∨ k = 7 ∨ k = 8 ∨ k = 11 ∨ k = 12 ∨ k = 13 ∨ k = 14 ∨ k = 15 := by
  unfold known at h
  omega
theorem below_any {k : Nat} (h : known k) (w : World) : Calls Try.prog 30 #[.int .i64 (k : Int)] w fun e w' => e = .returned (.tuple #[.int .i64 (rowsOf k : Int), .int .i64 (condsOf k : Int)]) ∧ w = w' := by
  rcases known_cases h with rfl | rfl | rfl | rfl | rfl | rfl | rfl | rfl | rfl | rfl | rfl | rfl | rfl
  all_goals
    clear h
    go_enter Try.func30, Try.ntmps30
    go_wp2_with fail
    go_ret2
    exact ⟨rfl, rfl⟩
/-- What is below a node: r rows, c a condition. -/
def shapeB (k : Nat) : Bytes := List.replicate (rowsOf k) 114 ++ List.replicate (condsOf k) 99
theorem shape_any {k : Nat} (h : known k) (w : World) : Calls Try.prog 33 #[.int .i64 (k : Int)] w fun e w' => e = .returned (.string (BA (shapeB k))) ∧ w = w' := by
  rcases known_cases h with rfl | rfl | rfl | rfl | rfl | rfl | rfl | rfl | rfl | rfl | rfl | rfl | rfl
  all_goals
    clear h
    go_enter Try.func33, Try.ntmps33
    go_wp2_with fail
    go_ret
    exact ⟨rfl, rfl⟩
end Go.Proofs.Ytjpogmomgmjmbaa

/-! The walk of package parse's Query: a text. A tree's nodes as they lie; the walk of ints. The walk of the law's shown: five texts. -/
/-! The walk of package parse's Query: a text. -/
namespace Go.Proofs.Ytjpogmomgmjmbaa
open Go.RowKit LexS ParS BigFrame
set_option maxHeartbeats 4000000
set_option linter.unusedVariables false
set_option linter.unusedSimpArgs false
attribute [local go_sem] World.cell?_alloc_some cell_drewN_new free_drewN_new cell_drew_new free_drew_new

end Go.Proofs.Ytjpogmomgmjmbaa

/-! A tree's nodes as they lie; the walk of ints. -/
namespace Go.Proofs.Ytjpogmomgmjmbaa
open Go.RowKit LexS ParS BigFrame
set_option maxHeartbeats 4000000
set_option linter.unusedVariables false
set_option linter.unusedSimpArgs false

theorem cellsM_cons (a : NodeM) (l : List NodeM) : cellsM (a :: l) = a.cells ++ cellsM l := by simp [cellsM]
theorem cellsM_get : ∀ (l : List NodeM) (i : Nat) (t : NodeM) (j : Nat), l[i]? = some t → j < 19 → (cellsM l)[i * 19 + j]? = t.cells[j]?
  | [], i, t, j, h, _ => by simp at h
  | a :: l, 0, t, j, h, hj => by
    simp only [List.getElem?_cons_zero, Option.some.injEq] at h
    subst h
    rw [cellsM_cons, Nat.zero_mul, Nat.zero_add, List.getElem?_append_left (by simp [NodeM.cells]; omega)]
  | a :: l, i + 1, t, j, h, hj => by
    have ha : a.cells.length = 19 := rfl
    rw [cellsM_cons, List.getElem?_append_right (by rw [ha]; omega), ha]
    have : (i + 1) * 19 + j - 19 = i * 19 + j := by omega
    rw [this]
    exact cellsM_get l i t j (by simpa using h) hj
/-- A tree's row. -/
theorem nodes_row {W : World} {base : Nat} {nv : Value} {ns : List Nd} (h : NS W base nv ns) :
    ∃ p cap, nv = .slice p ns.length cap ∧ ns.length ≤ cap ∧ ns.length ≤ maxLen ∧ (ns ≠ [] → ∃ g, p = some ⟨g, 0, none⟩ ∧ base ≤ g ∧ g < W.heap.size ∧
      ∀ i nd, ns[i]? = some nd → ∃ m : NodeM, m.node = nd ∧ MOk W base m ∧ ∀ j v, j < 19 → m.cells[j]? = some v → W.cell? ⟨g, i * 19 + j, none⟩ = some v) := by
  obtain ⟨ms, hms, ho, hall⟩ := h
  have hf := fun g hg => ho.cells (g := g) hg
  have hlt := ho.lt
  have hlen : ms.length = ns.length := by rw [← hms, List.length_map]
  rcases ho.2 with ⟨h1, h2⟩ | ⟨g, cap, cur, h2, h3, h4, h5, h6, _⟩
  · exact ⟨none, 0, by rw [h2]; exact h1, by omega, by rw [h2]; exact Nat.zero_le _, fun hc => absurd (List.eq_nil_of_length_eq_zero h2) hc⟩
  · subst h2
    refine ⟨_, cap, rfl, h5, Nat.le_trans h5 h6, fun _ => ⟨g, rfl, h3, (hlt g rfl).2, fun i nd hi => ?_⟩⟩
    have hi2 : (ms.map (·.node))[i]? = some nd := by rw [hms]; exact hi
    rw [List.getElem?_map] at hi2
    obtain ⟨m, hm, hmn⟩ := Option.map_eq_some_iff.1 hi2
    refine ⟨m, hmn, hall m (List.mem_of_getElem? hm), fun j v hj hv => ?_⟩
    have := hf g rfl (i * 19 + j) v (by rw [cellsM_get ms i m j hm hj]; exact hv)
    rwa [Addr.add_lit, Nat.zero_add] at this
/-- A row of numbers. -/
theorem ints_row {W : World} {base : Nat} {v : Value} {l : List Nat} (h : W.ownsRow base 3 1 v l.length (intsL l)) :
    ∃ p cap, v = .slice p l.length cap ∧ l.length ≤ cap ∧ l.length ≤ maxLen ∧ (l ≠ [] → ∃ g, p = some ⟨g, 0, none⟩ ∧ ∀ (i x : Nat), l[i]? = some x → W.cell? ⟨g, i, none⟩ = some (.int .i64 (x : Int))) := by
  have hf := fun g hg => h.cells (g := g) hg
  rcases h.2 with ⟨h1, h2⟩ | ⟨g, cap, cur, h2, h3, h4, h5, h6, _⟩
  · exact ⟨none, 0, by rw [h2]; exact h1, by omega, by rw [h2]; exact Nat.zero_le _, fun hc => absurd (List.eq_nil_of_length_eq_zero h2) hc⟩
  · subst h2
    refine ⟨_, cap, rfl, h5, Nat.le_trans h5 h6, fun _ => ⟨g, rfl, fun i x hi => ?_⟩⟩
    have := hf g rfl i (.int .i64 (x : Int)) (by unfold intsL; rw [List.getElem?_map, hi]; rfl)
    rwa [Addr.add_lit, Nat.zero_add] at this
end Go.Proofs.Ytjpogmomgmjmbaa

/-! The walk of the law's shown: five texts. -/
namespace Go.Proofs.Ytjpogmomgmjmbaa
open Go.RowKit LexS ParS BigFrame
set_option maxHeartbeats 4000000
set_option linter.unusedVariables false
set_option linter.unusedSimpArgs false
attribute [local go_sem] World.cell?_alloc_some cell_drewN_new free_drewN_new cell_drew_new free_drew_new

end Go.Proofs.Ytjpogmomgmjmbaa

/-! The walks of catchmentref12's SameNode and Same, at two trees that are alike. -/
namespace Go.Proofs.Ytjpogmomgmjmbaa
open Go.RowKit LexS ParS BigFrame
set_option maxHeartbeats 4000000
set_option linter.unusedVariables false
set_option linter.unusedSimpArgs false

abbrev zero8 : Value := .agg #[.int .i64 0, .int .i64 0, .int .i64 0, .int .i64 0, .int .i64 0, .int .i64 0, .int .i64 0, .int .i64 0]
theorem eqZero (W : World) : (Op.equalIn 9999 36 zero8 zero8).run Try.prog W = .ok true W := by kernel_rfl
attribute [local go_sem] eqZero
end Go.Proofs.Ytjpogmomgmjmbaa

/-! The walk of catchmentref12's Same, at two trees that are alike. -/
namespace Go.Proofs.Ytjpogmomgmjmbaa
open Go.RowKit LexS ParS BigFrame
set_option maxHeartbeats 4000000
set_option linter.unusedVariables false
set_option linter.unusedSimpArgs false
attribute [local go_sem] World.cell?_alloc_some cell_drewN_new free_drewN_new cell_drew_new free_drew_new

/-- A tree's nodes, as they are read. -/
def NR (W : World) (v : Value) (ns : List Nd) : Prop := ∃ p cap, v = .slice p ns.length cap ∧ ns.length ≤ cap ∧ ns.length ≤ maxLen ∧ (ns ≠ [] → ∃ g, p = some ⟨g, 0, none⟩ ∧
  ∀ (i : Nat) (nd : Nd), ns[i]? = some nd → ∃ (m : NodeM) (b : Nat), m.node = nd ∧ MOk W b m ∧ W.rangeAt g (i * 19) m.cells)
theorem NS.nr {W : World} {b : Nat} {v : Value} {ns : List Nd} (h : NS W b v ns) : NR W v ns := by
  obtain ⟨p, cap, h1, h2, h3, h4⟩ := nodes_row h
  refine ⟨p, cap, h1, h2, h3, fun hne => ?_⟩
  obtain ⟨g, hg, _, _, hc⟩ := h4 hne
  refine ⟨g, hg, fun i nd hi => ?_⟩
  obtain ⟨m, hm, hk, hcell⟩ := hc i nd hi
  exact ⟨m, b, hm, hk, fun j u hj => hcell j u (List.getElem?_eq_some_iff.1 hj).1 hj⟩
theorem range_kept {W W' : World} {g o : Nat} {cs : List Value} (hb : Below W.heap.size W W') (h : W.rangeAt g o cs) : W'.rangeAt g o cs := fun j u hj => keepc hb (h j u hj)
end Go.Proofs.Ytjpogmomgmjmbaa

/-! A query's nodes and a splitter in memory; the walk of plan's goes. -/
namespace Go.Proofs.Ytjpogmomgmjmbaa
open Go.RowKit LexS ParS BigFrame
set_option maxHeartbeats 4000000
set_option linter.unusedVariables false
set_option linter.unusedSimpArgs false
attribute [local go_sem] World.cell?_alloc_some cell_drewN_new free_drewN_new cell_drew_new free_drew_new

def intsZ (l : List Int) : List Value := l.map fun i => .int .i64 i
theorem intsZ_get {W : World} {g : Nat} {l : List Int} {i : Nat} {x : Int} (h : Blk W g 3 (intsZ l).toArray) (hi : l[i]? = some x) : W.cell? ⟨g, i, none⟩ = some (.int .i64 x) := by
  rw [h.cell i]
  have : (intsZ l)[i]? = some (.int .i64 x) := by simp [intsZ, hi]
  simpa using this
/-- What of a node a split looks at. -/
structure NdAt (W : World) (g i : Nat) (nd : Nd) (lv : Value) (pl : Option Addr) (cl : Nat) : Prop where
  kind : W.cell? ⟨g, i * 19, none⟩ = some (.int .i64 (nd.kind : Int))
  l : W.cell? ⟨g, i * 19 + 16, none⟩ = some lv
  lv : lv = .slice pl nd.l.length cl
  le : nd.l.length ≤ cl
  at_ : ∀ (j a : Nat), nd.l[j]? = some a → ∃ gl, pl = some ⟨gl, 0, none⟩ ∧ W.cell? ⟨gl, j, none⟩ = some (.int .i64 (a : Int))
theorem nr_node {W : World} {g n cap i : Nat} {ns : List Nd} {nd : Nd} (h : NR W (.slice (some ⟨g, 0, none⟩) n cap) ns) (hi : ns[i]? = some nd) : ∃ lv pl cl, NdAt W g i nd lv pl cl := by
  obtain ⟨p, c, h1, _, _, h4⟩ := h
  obtain ⟨g', hg, hc⟩ := h4 (by rintro rfl; simp at hi)
  injection h1 with e1 e2 e3
  rw [hg] at e1
  injection e1 with e1
  injection e1 with e1
  subst e1
  obtain ⟨m, b, rfl, hm, hr⟩ := hc i nd hi
  obtain ⟨pl, cl, hl1, hl2, _, hl4⟩ := ints_row hm.l
  refine ⟨m.lv, pl, cl, ?_, ?_, hl1, hl2, fun j a hj => ?_⟩
  · have := hr 0 _ rfl
    rwa [Nat.add_zero] at this
  · exact hr 16 _ rfl
  · obtain ⟨gl, hgl, hcl⟩ := hl4 (by rintro e; rw [e] at hj; simp at hj)
    exact ⟨gl, hgl, hcl j a hj⟩
/-- The splitter at sp. -/
structure SM (W : World) (sp g cap : Nat) (ns : List Nd) (bb pb : Nat) (by_ part : List Int) : Prop where
  box : Blk W sp 55 #[.slice (some ⟨g, 0, none⟩) ns.length cap, .slice (some ⟨bb, 0, none⟩) ns.length ns.length, .slice (some ⟨pb, 0, none⟩) ns.length ns.length]
  nr : NR W (.slice (some ⟨g, 0, none⟩) ns.length cap) ns
  cap : ns.length ≤ cap
  bb : Blk W bb 3 (intsZ by_).toArray
  pb : Blk W pb 3 (intsZ part).toArray
  bl : by_.length = ns.length
  pl : part.length = ns.length
  small : ns.length ≤ 128
section
variable {W W' : World} {sp g cap bb pb a : Nat} {ns : List Nd} {by_ part : List Int} {push : Bool}
theorem goes_no (h : (byS ns)[a]? = some (-1)) : goesP ns push a = (false, false) := by
  unfold goesP
  rw [h]
  rfl
theorem goes_up {p : Nat} {nd : Nd} (h : (byS ns)[a]? = some (p : Int)) (hp : ns[p]? = some nd) : goesP ns push a = if nd.l[0]? = some a then
    (if nd.kind = 2 then (push || decide (kindAt ns a = 1), false) else if nd.kind = 3 ∨ nd.kind = 4 then (push, false) else if nd.kind = 5 ∨ nd.kind = 6 then (push, true) else (false, false)) else (false, false) := by
  unfold goesP
  rw [h]
  dsimp only
  rw [if_neg (by omega), Int.toNat_natCast, hp]
set_option maxRecDepth 100000 in
theorem goes_any (h : SM W sp g cap ns bb pb (byS ns) part) (ht : Tree 0 ns) (hf : Fits 0 ns) (ha : a < ns.length) :
    Calls Try.prog 16 #[RP sp, .int .i64 (a : Int), .bool push] W fun e W' => e = .returned (.tuple #[.bool (goesP ns push a).1, .bool (goesP ns push a).2]) ∧ Drawn W W' := by
  have c0 : W.cell? ⟨sp, 0, none⟩ = some (.slice (some ⟨g, 0, none⟩) ns.length cap) := h.box.cell 0
  have c1 : W.cell? ⟨sp, 1, none⟩ = some (.slice (some ⟨bb, 0, none⟩) ns.length ns.length) := h.box.cell 1
  have hs := h.small
  have a0 : (0 : Int) ≤ (a : Int) := by omega
  have a1 : (a : Int) < (ns.length : Int) := by omega
  have hcases : (byS ns)[a]? = some (-1) ∨ ∃ p nd, (byS ns)[a]? = some ((p : Nat) : Int) ∧ ns[p]? = some nd ∧ a ∈ nd.l := by
    rcases byP_inv ns ns.length (Nat.le_refl _) a ha with ⟨_, h2⟩ | ⟨p, _, ⟨nd, h2, h3⟩, h4⟩
    · exact .inl h2
    · exact .inr ⟨p, nd, h4, h2, h3⟩
  rcases hcases with hb | ⟨p, nd, hb, hp, hm⟩
  · have d0 := intsZ_get h.bb hb
    have HE := Lib.hid (goes_no (push := push) hb)
    clear h hb ht hf ha
    go_enter Try.func16, Try.ntmps16
    go_wp2_with fail
    go_big_quiet (fail)
    go_wp2_with fail
    go_ret2
    exact ⟨by rw [HE.out]; rfl, Drawn.base _ _⟩
  · have d0 := intsZ_get h.bb hb
    obtain ⟨lv, pl, cl, hn⟩ := nr_node h.nr hp
    obtain ⟨na, hna⟩ : ∃ na, ns[a]? = some na := ⟨ns[a], List.getElem?_eq_getElem ha⟩
    obtain ⟨_, _, _, hn2⟩ := nr_node h.nr hna
    have hpl := some_lt hp
    have p0 : (0 : Int) ≤ (p : Int) := by omega
    have p1 : (p : Int) < (ns.length : Int) := by omega
    have p2 : ¬ (p : Int) < 0 := by omega
    have p3 : decide ((p : Int) < 0) = false := decide_eq_false p2
    have hne : 0 < nd.l.length := List.length_pos_iff.2 (by rintro e; rw [e] at hm; cases hm)
    obtain ⟨x, hx⟩ : ∃ x, nd.l[0]? = some x := ⟨nd.l[0], List.getElem?_eq_getElem hne⟩
    obtain ⟨gl, rfl, hgl⟩ := hn.at_ 0 x hx
    have e0 : W.cell? ⟨g, p * 19, none⟩ = some (.int .i64 (nd.kind : Int)) := hn.kind
    have e1 : W.cell? ⟨g, p * 19 + 16, none⟩ = some (.slice (some ⟨gl, 0, none⟩) nd.l.length cl) := by rw [← hn.lv]; exact hn.l
    have e2 : W.cell? ⟨g, a * 19, none⟩ = some (.int .i64 (na.kind : Int)) := hn2.kind
    have l0 : (0 : Int) < (nd.l.length : Int) := by omega
    have HG := Lib.hid (goes_up (push := push) hb hp)
    have HX := Lib.hid hx
    have HK := Lib.hid (show kindAt ns a = na.kind by unfold kindAt; rw [hna]; rfl)
    have HKN := Lib.hid (hf p nd hp).kd
    clear h hn hn2 hb hp hm hna ht hf ha hpl
    by_cases hxa : x = a
    case neg =>
      have q1 : ((x : Int) != (a : Int)) = true := by rw [bne_iff_ne]; omega
      have q2 : ¬ (x : Int) = (a : Int) := by omega
      have HE := Lib.hid (show goesP ns push a = (false, false) by rw [HG.out, HX.out, if_neg (by simpa using hxa)])
      clear hx hxa
      go_enter Try.func16, Try.ntmps16
      go_wp2_with fail
      go_big_quiet (fail)
      go_wp2_with fail
      go_ret2
      exact ⟨by rw [HE.out]; rfl, Drawn.base _ _⟩
    case pos =>
      subst hxa
      have q1 : ((x : Int) != (x : Int)) = false := by simp
      have HE := Lib.hid (show goesP ns push x = (if nd.kind = 2 then (push || decide (na.kind = 1), false) else if nd.kind = 3 ∨ nd.kind = 4 then (push, false) else if nd.kind = 5 ∨ nd.kind = 6 then (push, true) else (false, false)) by rw [HG.out, HX.out, if_pos rfl, HK.out])
      clear hx HG HX HK
      rw [HE.out]
      rcases known_cases HKN.out with hk | hk | hk | hk | hk | hk | hk | hk | hk | hk | hk | hk | hk
      all_goals
        rw [hk] at e0 ⊢
        clear hk HKN HE
      case inr.inl =>
        cases push with
        | true =>
          go_enter Try.func16, Try.ntmps16
          go_wp2_with fail
          go_big_quiet (fail)
          go_wp2_with fail
          go_big_quiet (fail)
          go_wp2_with fail
          go_ret2
          exact ⟨rfl, Drawn.base _ _⟩
        | false =>
          by_cases hk1 : na.kind = 1
          · have r1 : ((na.kind : Int) == 1) = true := by rw [beq_iff_eq]; omega
            have r2 : (na.kind : Int) = 1 := by omega
            have HR := Lib.hid (show decide (na.kind = 1) = true from decide_eq_true hk1)
            clear hk1
            go_enter Try.func16, Try.ntmps16
            go_wp2_with fail
            go_big_quiet (fail)
            go_wp2_with fail
            go_big_quiet (fail)
            go_wp2_with fail
            go_ret2
            exact ⟨by rw [HR.out]; rfl, Drawn.base _ _⟩
          · have r1 : ((na.kind : Int) == 1) = false := by rw [beq_eq_false_iff_ne]; omega
            have r2 : ¬ (na.kind : Int) = 1 := by omega
            have HR := Lib.hid (show decide (na.kind = 1) = false from decide_eq_false hk1)
            clear hk1
            go_enter Try.func16, Try.ntmps16
            go_wp2_with fail
            go_big_quiet (fail)
            go_wp2_with fail
            go_big_quiet (fail)
            go_wp2_with fail
            go_ret2
            exact ⟨by rw [HR.out]; rfl, Drawn.base _ _⟩
      all_goals
        go_enter Try.func16, Try.ntmps16
        go_wp2_with fail
        go_big_quiet (fail)
        go_wp2_with fail
        go_big_quiet (fail)
        go_wp2_with fail
        go_ret2
        exact ⟨rfl, Drawn.base _ _⟩
end
end Go.Proofs.Ytjpogmomgmjmbaa
