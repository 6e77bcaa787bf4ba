/- Several texts of the proof, joined. -/
import Derived.Test.YtnaehhpikhlppaaGreatDoorD46
import Derived.Test.YtnaehhpikhlppaaGreatDoorD35
set_option maxHeartbeats 4000000
set_option linter.unusedVariables false
set_option linter.unusedSimpArgs false
namespace Go.Proofs.YtnaehhpikhlppaaGreatDoor
open Go.RowKit LexS ParS BigFrame
attribute [local go_sem] World.cell?_alloc_some cell_drewN_new free_drewN_new cell_drew_new free_drew_new

section
variable {tv : Value} {T : List Tok} {W : World}
set_option maxRecDepth 100000 in
theorem rcondT_any (htoks : W.ownsRow 0 65 4 tv T.length (toksL T)) : Calls Tryz.prog 15 #[tv] W (PostAll W (condS T)) := by
  obtain ⟨p, cap, rfl, hcap, hmax, hrow⟩ := row_any htoks
  obtain ⟨W0, hW0⟩ : ∃ W0, W0 = W.alloc (.cells #[.slice none 0 0] 25) := ⟨_, rfl⟩
  have hb0 : Below W.heap.size W W0 := by rw [hW0]; exact (Below.refl _ _).alloc (Nat.le_refl _) _
  have k0 : Blk W0 W.heap.size 25 #[.slice none 0 0] := by rw [hW0]; exact Blk.new W _ _
  have hs0 : W.heap.size < W0.heap.size := k0.lt
  have d0 : W0.cell? ⟨W.heap.size, 0, none⟩ = some (.slice none 0 0) := k0.cell 0
  have g0 := k0.free 0
  have HK := Lib.hid (And.intro hb0 (And.intro hs0 k0))
  have HW := Lib.hid hW0
  by_cases h1024 : 1024 < T.length
  · have q1 : decide ((1024 : Int) < (T.length : Int)) = true := decide_eq_true (by omega)
    have q2 : (1024 : Int) < (T.length : Int) := by omega
    have q3 : decide (1024 < T.length) = true := decide_eq_true h1024
    have HE := Lib.hid (show condS T = ([], 0, 2) by unfold condS parseAll; rw [if_pos (by rw [List.length_map]; exact h1024)])
    have HF := Lib.hid (one_put HK.out.1 HK.out.2.1 HK.out.2.2 nil_NS (Below.refl W0.heap.size W0))
    clear hb0 k0 hs0 hW0 hrow htoks h1024
    rw [HE.out]
    go_enter Tryz.func15, Tryz.ntmps15
    go_upto_region 1 with (fail)
    rw [show W.alloc (.cells #[.slice none 0 0] 25) = W0 from HW.out.symm]
    go_wp2_with fail
    exact bodyPost_ret (res_q Tryz.results15 rfl rfl rfl HF.out.1) rfl ⟨_, rfl, HF.out.2.1, HF.out.2.2⟩
  · have q1 : decide ((1024 : Int) < (T.length : Int)) = false := decide_eq_false (by omega)
    have q2 : ¬ (1024 : Int) < (T.length : Int) := by omega
    have q3 : decide (1024 < T.length) = false := decide_eq_false h1024
    have HE := Lib.hid (show condS T = endS T.length (stOf (goP (pCond 16) (.ok (T.map tk, [])))) by
      have e := parseAll_end (pCond 16) (T.map tk)
      rw [List.length_map, if_neg h1024] at e
      exact e)
    obtain ⟨W1, hW1⟩ : ∃ W1, W1 = W0.alloc (.cells #[.slice p T.length cap, .int .i64 0, .slice none 0 0, .int .i64 0, .int .i64 0] 81) := ⟨_, rfl⟩
    have hb1 : Below W0.heap.size W0 W1 := by rw [hW1]; exact (Below.refl _ _).alloc (Nat.le_refl _) _
    have hbox : Blk W1 W0.heap.size 81 #[.slice p T.length cap, .int .i64 ((T.length - leftR (.ok (T.map tk, [])) : Nat) : Int), .slice none 0 0, .int .i64 (codeR (.ok (T.map tk, [])) : Int), .int .i64 ((0 : Nat) : Int)] := by
      rw [show T.length - leftR (.ok (T.map tk, [])) = 0 by simp [leftR], hW1]
      exact Blk.new W0 _ _
    have hrf : RF W0.heap.size W0.heap.size (.slice p T.length cap) T 0 (.ok (T.map tk, [])) (.slice none 0 0) W1 :=
      ⟨hbox, Nat.le_refl _, own_kept (own_kept htoks hb0) hb1, by simp [leftR], (fun ts ns e => by cases e; simp), by omega, [], nil_NS, by simp, fun ts ns e => by cases e; rfl⟩
    have HC := Lib.hid (rcond_all 16 0 rfl W0.heap.size W0.heap.size (.slice p T.length cap) (.slice none 0 0) T (.ok (T.map tk, [])) W1 hrf (Nat.le_of_lt hbox.lt) (fun ts ns e => by cases e; simp; omega) (.inl rfl))
    have HB1 := Lib.hid (And.intro hb1 (Nat.le_of_lt hbox.lt))
    have HW1 := Lib.hid hW1
    clear hb0 k0 hs0 hW0 hrow htoks h1024 hb1 hbox hrf hW1
    rw [HE.out]
    go_enter Tryz.func15, Tryz.ntmps15
    go_upto_region 1 with (fail)
    rw [show W.alloc (.cells #[.slice none 0 0] 25) = W0 from HW.out.symm]
    go_upto_region 4 with (fail)
    rw [show W0.alloc (.cells #[.slice p T.length cap, .int .i64 0, .slice none 0 0, .int .i64 0, .int .i64 0] 81) = W1 from HW1.out.symm]
    go_wp2_with fail
    refine HC.out.mono ?_
    rintro e w2 ⟨nv2, i2, rfl, _, h2, s2⟩
    have HEN := Lib.hid (end_r h2)
    have HS2 := Lib.hid (HB1.out.1.trans (s2.below (Nat.le_refl _) (fun k hk => by cases hk) HB1.out.2))
    clear h2 s2
    go_wp2_with fail
    refine HEN.out.mono ?_
    rintro e w3 ⟨nv3, rfl, hn, m3⟩
    have hb3 : Below W0.heap.size W0 w3 := HS2.out.trans (m3.below (Nat.le_refl _) (fun k hk => by cases hk) HS2.out.size)
    obtain ⟨no, nc, rfl⟩ : ∃ o c, nv3 = .slice o (endS T.length (stOf (goP (pCond 16) (.ok (T.map tk, []))))).1.length c := by
      obtain ⟨ms, _, ho, _⟩ := hn
      exact slice_form ho
    have k3 := HK.out.2.2.kept hb3
    have d0 : w3.cell? ⟨W.heap.size, 0, none⟩ = some (.slice none 0 0) := k3.cell 0
    have g0 := k3.free 0
    have HF := Lib.hid (one_put HK.out.1 HK.out.2.1 HK.out.2.2 hn hb3)
    clear hn m3 hb3 k3
    go_wp2_with fail
    exact bodyPost_ret (res_q Tryz.results15 rfl rfl rfl HF.out.1) rfl ⟨_, rfl, HF.out.2.1, HF.out.2.2⟩
end
end Go.Proofs.YtnaehhpikhlppaaGreatDoor

namespace Go.Proofs.YtnaehhpikhlppaaGreatDoor
open Go.RowKit LexS ParS BigFrame

theorem row_off {W : World} {b size n nb i : Nat} {e : TypeId} {v u : Value} {xs : List Value} (h : W.ownsRow b e size v n xs) (hne : v.ownBlock ≠ some nb) : (W.setCell ⟨nb, i, none⟩ u).ownsRow b e size v n xs := by
  refine ⟨h.1, ?_⟩
  rcases h.2 with h2 | ⟨g, cap, cur, rfl, h3, h4, h5⟩
  · exact .inl h2
  · exact .inr ⟨g, cap, cur, rfl, h3, (Below.heap_setCell _ _ _ _ (fun e => hne (by rw [e]; rfl))).trans h4, h5⟩
/-- A node whose row of numbers is another one. -/
theorem node_put {W : World} {nb : Nat} {nd : Nd} {lv nv av v : Value} {l : List Nat} (h : Blk W nb 42 (NodeM.cells ⟨nd, lv, nv, av⟩).toArray) : Blk (W.setCell ⟨nb, 16, none⟩ v) nb 42 (NodeM.cells ⟨{ nd with l := l }, v, nv, av⟩).toArray := box_put h 16 v
theorem last_sub {ns : List Nd} {d : Cd} {e i : Nat} (he : i + 1 = e + d.len) (h : At ns e (d.flat e)) : ∃ nd, ns[i]? = some nd ∧ 11 ≤ nd.kind := by
  have hp := d.pos
  have hl : (d.flat e).length = d.len := d.flat_len e
  obtain ⟨nd, hnd⟩ : ∃ nd, (d.flat e)[d.len - 1]? = some nd := ⟨(d.flat e)[d.len - 1]'(by omega), List.getElem?_eq_getElem (by omega)⟩
  refine ⟨nd, ?_, sub_kinds d e nd (List.mem_of_getElem? hnd)⟩
  have := h _ _ hnd
  rwa [show e + (d.len - 1) = i by omega] at this
set_option maxRecDepth 100000 in
theorem conds_any (s : ByteArray) (hs : s.size ≤ 140737488351232) (i : Int) (i0 : -9223372036854775808 ≤ i) (i1 : i ≤ 9223372036854775807) (w : World) (hp : PW w) :
    Calls Tryz.prog 4 #[.string s, .int .i64 i] w fun e w' => e = .returned (.bool true) ∧ Below w.heap.size w w' := by
  have hsh := shown_13 w hp
  have hq := fun w => rquery_text s hs w
  obtain ⟨⟨ns, a, er⟩, hx⟩ : ∃ q, q = queryS s.data.toList := ⟨_, rfl⟩
  rw [← hx] at hq
  have HX := Lib.hid hx
  have HQ := Lib.hid hq
  have HP := Lib.hid hp
  clear hx hq hp
  go_enter Tryz.func4, Tryz.ntmps4
  go_wp2_with fail
  refine hsh.mono ?_
  rintro e w1 ⟨rfl, b1⟩
  go_wp2_with fail
  refine (HQ.out _).mono ?_
  rintro e w2 ⟨nv, rfl, n2, b2⟩
  dsimp only at n2
  have HB2 := Lib.hid (chain b1 b2)
  have HN2 := Lib.hid n2.nr
  obtain ⟨p, cap, rfl, _, hmax, hne⟩ := n2.nr
  clear b1 b2 n2 hsh
  go_upto_region 3 with fail
  generalize hw3 : World.alloc _ _ = w3
  obtain ⟨hb3, hx3⟩ := qbox hw3
  have HB3 := Lib.hid (chain HB2.out hb3)
  have HX3 := Lib.hid hx3
  have HN3 := Lib.hid (HN2.out.stayP hb3)
  have hlt3 := hx3.lt
  have c0 : w3.cell? ⟨w2.heap.size, 0, none⟩ = some (.slice p ns.length cap) := hx3.cell 0
  clear hw3 hb3 hx3
  by_cases her : er = 0
  case neg =>
    have e2 : ((er : Int) == 0) = false := by rw [beq_eq_false_iff_ne]; omega
    have e3 : ¬ (er : Int) = 0 := by omega
    have e4 : ((er : Int) != 0) = true := by rw [bne_iff_ne]; omega
    clear her hne
    go_wp2_with fail
    exact bodyPost_ret (results_tmp rfl _ _ _) rfl ⟨rfl, HB3.out⟩
  subst her
  obtain ⟨q, hf, hd, _⟩ := fine_of HX.out.symm
  obtain ⟨g, rfl, _⟩ := hne hf.tree.ne
  have HF := Lib.hid hf
  have h128 := hf.few
  have hat : At ns 0 (q.flat 0) := fun j nd h => by rw [hf.flat, Nat.zero_add]; exact h
  have hql : q.len = ns.length := by
    have := q.flat_len 0
    rw [← hf.flat] at this
    exact this.symm
  have HSUB := Lib.hid (fun (k : Nat) (hk : k < ns.length) => query_sub q 0 hf.qin hd hat (Nat.zero_le k) (by omega))
  have HPW := Lib.hid (HP.out.kept HB3.out)
  clear hne hf hd hat hql HX HQ
  by_cases hout : i < 0 ∨ (ns.length : Int) ≤ i
  · have HC := Lib.hid (cond_out HF.out hout w3 HN3.out HPW.out)
    go_wp2_with fail
    refine HC.out.mono ?_
    rintro e w4 ⟨rfl, hb4⟩
    have c1 : w4.cell? ⟨w2.heap.size, 0, none⟩ = some (.slice (some ⟨g, 0, none⟩) ns.length cap) := keepc hb4 c0
    have HB4 := Lib.hid (chain HB3.out hb4)
    clear hb4 c0
    rcases hout with h | h
    · have k1 : ¬ 0 ≤ i := by omega
      have k2 : decide (0 ≤ i) = false := decide_eq_false k1
      go_wp2_with fail
      exact bodyPost_ret (results_tmp rfl _ _ _) rfl ⟨rfl, HB4.out⟩
    · have k1 : 0 ≤ i := by omega
      have k2 : decide (0 ≤ i) = true := decide_eq_true k1
      have k3 : ¬ i < (ns.length : Int) := by omega
      have k4 : decide (i < (ns.length : Int)) = false := decide_eq_false k3
      go_wp2_with fail
      exact bodyPost_ret (results_tmp rfl _ _ _) rfl ⟨rfl, HB4.out⟩
  obtain ⟨k, rfl⟩ : ∃ k : Nat, i = (k : Int) := ⟨i.toNat, by omega⟩
  have hkl : k < ns.length := by omega
  clear hout
  have k1 : (0 : Int) ≤ (k : Int) := by omega
  have k2 : decide ((0 : Int) ≤ (k : Int)) = true := decide_eq_true k1
  have k3 : (k : Int) < (ns.length : Int) := by omega
  have k4 : decide ((k : Int) < (ns.length : Int)) = true := decide_eq_true k3
  rcases HSUB.out k hkl with hr | hc
  · obtain ⟨nd, hnd, hk11⟩ := hr
    have HC := Lib.hid (cond_low HF.out hnd hk11 w3 HN3.out HPW.out)
    have HND := Lib.hid hnd
    clear hnd
    go_wp2_with fail
    refine HC.out.mono ?_
    rintro e w4 ⟨rfl, hb4⟩
    have c1 : w4.cell? ⟨w2.heap.size, 0, none⟩ = some (.slice (some ⟨g, 0, none⟩) ns.length cap) := keepc hb4 c0
    obtain ⟨mx, bx, hmx, _, hrx, _, _⟩ := nr_rangeP (HN3.out.stayP hb4) HND.out
    have gx : w4.cell? ⟨g, k * 19, none⟩ = some (.int .i64 (nd.kind : Int)) := by
      have := hrx 0 (.int .i64 (nd.kind : Int)) (by rw [← hmx]; rfl)
      rwa [Nat.add_zero] at this
    have HB4 := Lib.hid (chain HB3.out hb4)
    have k5 : ¬ (11 : Int) ≤ (nd.kind : Int) := by omega
    have k6 : decide ((11 : Int) ≤ (nd.kind : Int)) = false := decide_eq_false k5
    clear hb4 c0 hrx hmx
    go_wp2_with fail
    exact bodyPost_ret (results_tmp rfl _ _ _) rfl ⟨rfl, HB4.out⟩
  obtain ⟨d, e0, he, hcin, hdeep, hat⟩ := hc
  obtain ⟨nd, hnd, hk11⟩ := last_sub he hat
  have hwr := cond_any ns g cap d e0 0 hcin (by omega) hat
  rw [show e0 + d.len - 1 = k by omega] at hwr
  have HC := Lib.hid (cond_fine HF.out hnd hk11 hwr w3 HN3.out HPW.out)
  have HND := Lib.hid hnd
  obtain ⟨tx, htx⟩ : ∃ tx, tx = d.textB 0 := ⟨_, rfl⟩
  have hback := fun hl => sub_back h128 hkl he hcin hdeep hl
  rw [← htx] at HC hback
  have HBACK := Lib.hid hback
  have HAT := Lib.hid (fun (j : Nat) (x : Nd) (h : (d.flat 0)[j]? = some x) => sub_nodes hat h)
  have hcl : (d.flat 0).length = d.len := d.flat_len 0
  obtain ⟨cs, hcs⟩ : ∃ cs, cs = d.flat 0 := ⟨_, rfl⟩
  rw [← hcs] at HBACK HAT hcl
  have he1 : k + 1 ≤ e0 + cs.length := by omega
  have he2 : e0 + cs.length ≤ k + 1 := by omega
  have hdp : 0 < cs.length := by have := d.pos; omega
  have k5 : (11 : Int) ≤ (nd.kind : Int) := by omega
  have k6 : decide ((11 : Int) ≤ (nd.kind : Int)) = true := decide_eq_true k5
  clear hnd hwr htx hback hcs hcin hdeep hat he hcl
  go_wp2_with fail
  refine HC.out.mono ?_
  rintro e w4 ⟨rfl, hb4⟩
  have c1 : w4.cell? ⟨w2.heap.size, 0, none⟩ = some (.slice (some ⟨g, 0, none⟩) ns.length cap) := keepc hb4 c0
  obtain ⟨mx, bx, hmx, _, hrx, _, _⟩ := nr_rangeP (HN3.out.stayP hb4) HND.out
  have gx : w4.cell? ⟨g, k * 19, none⟩ = some (.int .i64 (nd.kind : Int)) := by
    have := hrx 0 (.int .i64 (nd.kind : Int)) (by rw [← hmx]; rfl)
    rwa [Nat.add_zero] at this
  have HB4 := Lib.hid (chain HB3.out hb4)
  have HN4 := Lib.hid (HN3.out.stayP hb4)
  have HX4 := Lib.hid (HX3.out.kept hb4)
  clear hb4 c0 hrx hmx
  by_cases hl : 2048 < tx.length
  · rw [show shortV tx = .tuple #[.string ⟨#[]⟩, .int .i64 2] from if_pos hl]
    go_wp2_with fail
    exact bodyPost_ret (results_tmp rfl _ _ _) rfl ⟨rfl, HB4.out⟩
  rw [show shortV tx = .tuple #[.string (BA tx), .int .i64 0] from if_neg hl]
  obtain ⟨xs, hxs, hcond⟩ := HBACK.out (by omega)
  have hlx := rlex_any (BA tx) (by rw [text_size]; omega) w4
  rw [text_list, hxs] at hlx
  have HLX := Lib.hid hlx
  have HCD := Lib.hid hcond
  clear hlx hxs hcond
  go_wp2_with fail
  refine HLX.out.mono ?_
  rintro e w5 ⟨v, rfl, hr5, hb5⟩
  dsimp only at hr5
  have hcc := rcondT_any (own_base hr5 (Nat.zero_le _))
  rw [HCD.out] at hcc
  have HCC := Lib.hid hcc
  have HB5 := Lib.hid (chain HB4.out hb5)
  have HN5 := Lib.hid (HN4.out.stayP hb5)
  have HX5 := Lib.hid (HX4.out.kept hb5)
  clear hcc hr5 hb5 c1 gx
  go_wp2_with fail
  refine HCC.out.mono ?_
  rintro e w6 ⟨nv, rfl, hn6, hb6⟩
  dsimp only at hn6
  have HM6 := Lib.hid hn6.nr
  obtain ⟨p6, c6, rfl, _, _, hne6⟩ := hn6.nr
  obtain ⟨gc, rfl, _⟩ := hne6 (by intro e; rw [e] at hdp; simp at hdp)
  have HB6 := Lib.hid (chain HB5.out hb6)
  have HN6 := Lib.hid (HN5.out.stayP hb6)
  have HX6 := Lib.hid (HX5.out.kept hb6)
  clear hn6 hb6 hne6
  go_upto_region 15 with fail
  generalize hw7 : World.alloc _ _ = w7
  obtain ⟨hb7, hx7⟩ := qbox hw7
  have HB7 := Lib.hid (chain HB6.out hb7)
  have HN7 := Lib.hid (HN6.out.stayP hb7)
  have HM7 := Lib.hid (HM6.out.stayP hb7)
  have HX7 := Lib.hid (HX6.out.kept hb7)
  have HY7 := Lib.hid hx7
  have c2 : w7.cell? ⟨w6.heap.size, 0, none⟩ = some (.slice (some ⟨gc, 0, none⟩) cs.length c6) := hx7.cell 0
  have v1 : IntKind.i64.wrap ((k : Int) + 1) = (k : Int) + 1 := IntWalk.i64_in _ (by omega)
  have v2 : ¬ (k : Int) + 1 < (cs.length : Int) := by omega
  have v2' : decide ((k : Int) + 1 < (cs.length : Int)) = false := decide_eq_false v2
  have v3 : IntKind.i64.wrap ((k : Int) + 1 - (cs.length : Int)) = (e0 : Int) := by rw [IntWalk.i64_in _ (by omega)]; omega
  clear hw7 hb7 hx7
  go_wp2_with fail
  go_loopg [19] (cs.length + 1) (fun gk c wr => ∃ j : Nat, j ≤ cs.length ∧ cs.length < j + gk ∧ c = .int .i64 (j : Int) ∧ Below w7.heap.size w7 wr)
  case atStart => exact ⟨0, Nat.zero_le _, by omega, rfl, Below.refl _ _⟩
  case round =>
    obtain ⟨j, hj, hgk, rfl, hbr⟩ := hrel
    have HBR := Lib.hid hbr
    have d0 : wr.cell? ⟨w6.heap.size, 0, none⟩ = some (.slice (some ⟨gc, 0, none⟩) cs.length c6) := (HY7.out.kept hbr).cell 0
    have d1 : wr.cell? ⟨w2.heap.size, 0, none⟩ = some (.slice (some ⟨g, 0, none⟩) ns.length cap) := (HX7.out.kept hbr).cell 0
    clear hbr c2
    by_cases hlt : j < cs.length
    · obtain ⟨x, hx⟩ : ∃ x, cs[j]? = some x := ⟨cs[j], List.getElem?_eq_getElem hlt⟩
      have hxn := HAT.out j x hx
      obtain ⟨⟨y, lv, nv, av⟩, b1, hm, hmk, hrg, _, _⟩ := nr_rangeP (HN7.out.stayP HBR.out) hxn
      obtain ⟨⟨y2, lv2, nv2, av2⟩, b2, hm2, hmk2, hrg2, _, _⟩ := nr_rangeP (HM7.out.stayP HBR.out) hx
      dsimp only at hm hm2
      have hm := hm.symm
      have hm2 := hm2.symm
      subst hm
      subst hm2
      have hej : e0 + j < ns.length := (List.getElem?_eq_some_iff.1 hxn).1
      have hone := hmk.onesP
      have hth := nd_there wr
      obtain ⟨M, hM⟩ : ∃ M : NodeM, M = ⟨shN e0 x, lv, nv, av⟩ := ⟨_, rfl⟩
      rw [← hM] at hone hrg
      obtain ⟨pl, cl, hlv, _, hl2, hl3⟩ := row_cells hmk.l
      dsimp only at hlv hl2 hl3
      have hlen : (shN e0 x).l.length = x.l.length := by simp [shN]
      rw [hlen] at hlv hl2 hl3
      simp only [maxLen] at hl2
      have HL3 := Lib.hid (show ∀ W', Below wr.heap.size wr W' → ∀ (m z : Nat), x.l[m]? = some z → ∃ q, pl = some ⟨q, 0, none⟩ ∧ W'.cell? ⟨q, m, none⟩ = some (.int .i64 ((z + e0 : Nat) : Int)) from fun W' hb m z hz => by
        obtain ⟨q, hq, hc⟩ := hl3 (by have := (List.getElem?_eq_some_iff.1 hz).1; omega)
        exact ⟨q, hq, keepc hb (hc m _ (intsL_get (by show (x.l.map (· + e0))[m]? = _; rw [List.getElem?_map, hz]; rfl)))⟩)
      have HLV := Lib.hid hlv
      have HR := Lib.hid hrg
      have HR2 := Lib.hid hrg2
      have HMK := Lib.hid hmk
      have HMK2 := Lib.hid hmk2
      have HM := Lib.hid hM
      have HST := Lib.hid (fun w8 h8 => nd_stored (w3 := wr) (w4 := w8) (m := M) h8)
      have n1 : (j : Int) < (cs.length : Int) := by omega
      have n2 : (0 : Int) ≤ (j : Int) := by omega
      have n3 : decide ((j : Int) < (cs.length : Int)) = true := decide_eq_true n1
      have w1_ : IntKind.i64.wrap ((j : Int) + 1) = (j : Int) + 1 := IntWalk.i64_in _ (by omega)
      have w2_ : IntKind.i64.wrap ((e0 : Int) + (j : Int)) = ((e0 + j : Nat) : Int) := by rw [IntWalk.i64_in _ (by omega)]; omega
      have n4 : (0 : Int) ≤ ((e0 + j : Nat) : Int) := by omega
      have n5 : ((e0 + j : Nat) : Int) < (ns.length : Int) := by omega
      have hz128 : ∀ z ∈ x.l, z + e0 < 128 := fun z hz => by
        obtain ⟨m, hm⟩ := List.getElem?_of_mem hz
        have := ((HF.out.fits (e0 + j) _ hxn).below m (z + e0) (by show (x.l.map (· + e0))[m]? = _; rw [List.getElem?_map, hm]; rfl)).2.1
        omega
      have HZ := Lib.hid hz128
      have hx4 : x.l.length ≤ 4 := by
        have h := (HF.out.fits (e0 + j) _ hxn).len
        have h1 : rowsOf (shN e0 x).kind ≤ 2 := by unfold rowsOf; (repeat' split) <;> omega
        have h2 : condsOf (shN e0 x).kind ≤ 2 := by unfold condsOf; (repeat' split) <;> omega
        have h3 : (shN e0 x).l.length = x.l.length := by simp [shN]
        rw [h3] at h
        rw [h]
        omega
      obtain ⟨nb, hnb⟩ : ∃ nb, wr.heap.size = nb := ⟨_, rfl⟩
      have HNB := Lib.hid hnb
      obtain ⟨wo, hwo⟩ : ∃ wo, wo = wr := ⟨_, rfl⟩
      have HWO := Lib.hid hwo
      clear hx hxn hmk hmk2 hrg hrg2 hlv hl3 hM hlen hz128 hnb hwo
      go_upto_region 22 with (first
        | (refine wpList_load_mid (by rfl) 42 (.tmp 115) (by rfl) g ((e0 + j) * 19) (by rfl) M.cells _ HR.out undNode (by rfl) sizeNode ?_)
        | (refine wpList_store_mid (by rfl) 42 (.tmp 20) (.tmp 116) (by rfl) wr.heap.size 0 M.cells.toArray (by rfl) (by rfl) hth sizeNode hone ?_
           generalize hw8 : World.setCells _ _ _ _ = w8
           obtain ⟨hb8, hk8⟩ := HST.out w8 hw8
           have HB8 := Lib.hid hb8
           have HK8 := Lib.hid hk8
           clear hw8 hb8 hk8 hth hone d0 d1))
      rw [HNB.out] at HK8 ⊢
      have HBN := Lib.hid (show Below nb wo w8 by have := HB8.out; rw [← HWO.out] at this; rwa [show wo.heap.size = nb by rw [HWO.out]; exact HNB.out] at this)
      have HNBO := Lib.hid (show wo.heap.size = nb by rw [HWO.out]; exact HNB.out)
      rw [← HWO.out] at HMK HMK2 HR2 HL3 HBR
      have hnb8 : nb < w8.heap.size := HK8.out.lt
      have HO8 := Lib.hid (show (w8.alloc (.cells #[] 3)).ownsRow w8.heap.size 3 1 (.slice (some ⟨w8.heap.size, 0, none⟩) 0 0) 0 (intsL (x.l.take 0)) from World.ownsRow_lit (e := 3) (size := 1) (base := w8.heap.size) w8 #[] 0 (Nat.le_refl _) (by decide) rfl)
      go_wp2_with fail
      go_loopg [21, 22] (x.l.length + 1) (fun gk lv c wq => ∃ m : Nat, m ≤ x.l.length ∧ x.l.length < m + gk ∧ c = .int .i64 (m : Int) ∧ wq.ownsRow w8.heap.size 3 1 lv m (intsL (x.l.take m)) ∧ Below w8.heap.size w8 wq)
      case atStart => exact ⟨0, Nat.zero_le _, by omega, rfl, HO8.out, (Below.refl _ _).alloc (Nat.le_refl _) _⟩
      case round =>
        obtain ⟨m, hm, hgm, rfl, hro, hbq⟩ := hrel
        have HRO := Lib.hid hro
        have HBQ := Lib.hid hbq
        obtain ⟨o21, c21, rfl⟩ := row_slice hro
        have HKQ := Lib.hid (HK8.out.kept hbq)
        have e16 : wr.cell? ⟨nb, 16, none⟩ = some (.slice pl x.l.length cl) := by
          have := HKQ.out.cell 16
          rw [HM.out, HLV.out] at this
          exact this
        have HBO := Lib.hid (show Below nb wo wr from HBN.out.trans (hbq.mono (Nat.le_of_lt hnb8)))
        have m2 : (0 : Int) ≤ (m : Int) := by omega
        clear hro hbq
        by_cases hlm : m < x.l.length
        · obtain ⟨z, hz⟩ : ∃ z, x.l[m]? = some z := ⟨x.l[m], List.getElem?_eq_getElem hlm⟩
          obtain ⟨q2, rfl, u1⟩ := HL3.out wr (by rw [HNBO.out]; exact HBO.out) m z hz
          have hzb := HZ.out z (List.mem_of_getElem? hz)
          have m1 : (m : Int) < (x.l.length : Int) := by omega
          have m3 : decide ((m : Int) < (x.l.length : Int)) = true := decide_eq_true m1
          have w3_ : IntKind.i64.wrap (((z + e0 : Nat) : Int) - (e0 : Int)) = (z : Int) := by rw [IntWalk.i64_in _ (by omega)]; omega
          have w5_ : IntKind.i64.wrap (z : Int) = (z : Int) := IntWalk.i64_in _ (by omega)
          have w6_ : wrap64 (z : Int) = (z : Int) := IntWalk.wrap64_in _ (by omega)
          have w4_ : IntKind.i64.wrap ((m : Int) + 1) = (m : Int) + 1 := IntWalk.i64_in _ (by omega)
          have HTK := Lib.hid (show intsL (x.l.take (m + 1)) = intsL (x.l.take m) ++ [.int .i64 (z : Int)] by rw [List.take_add_one, hz]; simp [intsL])
          obtain ⟨i0', hi0, hz0, hz1, hz2⟩ := info_parts infoInt
          have HB2' := Lib.hid (show Below wr.heap.size wr (wr.alloc (.cells #[.int .i64 (z : Int)] 3)) from (Below.refl _ _).alloc (Nat.le_refl _) _)
          have HRW := Lib.hid (own_kept HRO.out HB2'.out)
          have HNW := Lib.hid (show ∀ (j : Nat) u, [Value.int .i64 (z : Int)][j]? = some u → (wr.alloc (.cells #[.int .i64 (z : Int)] 3)).cell? ((⟨wr.heap.size, 0, none⟩ : Addr).add j) = some u from fun j u hu => blk_cells (Blk.new wr 3 #[.int .i64 (z : Int)]) j u (by simpa using hu))
          have HSZ := Lib.hid (Nat.le_trans HBQ.out.size HB2'.out.size)
          clear hz hzb
          go_wp2_with (at_builtin; refine wpList_append_own _ rfl _ _ _ rfl w8.heap.size 3 i0' _ 1 8 (by kernel_rfl) hi0 hz0 hz1 hz2 rfl (by decide) _ m (intsL (x.l.take m)) rfl HRW.out ⟨wr.heap.size, 0, none⟩ 1 1 [.int .i64 (z : Int)] rfl rfl HNW.out (by simp [Value.oneCell']) (by simp only [maxLen]; omega) (by omega) HSZ.out ?_)
          intro v' w' ho hgr _
          have HF9 := Lib.hid (And.intro ho ((chain HBQ.out HB2'.out).grown hgr (chain HBQ.out HB2'.out).size (fun k hk => (HRW.out.lt k hk).1)))
          rw [← HTK.out] at HF9
          clear ho hgr
          go_wp2_with fail
          go_roundg (x.l.length - m)
          case measure => omega
          case rel => exact ⟨m + 1, by omega, by omega, rfl, HF9.out.1, HF9.out.2⟩
        · have hml : m = x.l.length := by omega
          have m1 : ¬ (m : Int) < (x.l.length : Int) := by omega
          have m3 : decide ((m : Int) < (x.l.length : Int)) = false := decide_eq_false m1
          have f16 := HKQ.out.free 16
          have HROW := Lib.hid (show wr.ownsRow 0 3 1 (.slice o21 m c21) x.l.length (intsL x.l) by
            have := own_base HRO.out (Nat.zero_le _)
            rw [hml, List.take_length] at this
            rw [hml]
            exact this)
          have HNE := Lib.hid (show (Value.slice o21 m c21).ownBlock ≠ some nb from fun e => by have := (HRO.out.lt _ e).1; omega)
          have HP10 := Lib.hid (show ∀ w10, wr.setCell ⟨nb, 16, none⟩ (.slice o21 m c21) = w10 → Below nb wo w10 ∧ Blk w10 nb 42 (NodeM.cells ⟨x, .slice o21 m c21, nv, av⟩).toArray ∧ w10.ownsRow 0 3 1 (.slice o21 m c21) x.l.length (intsL x.l) from by
            rintro w10 rfl
            refine ⟨HBO.out.setCell (p := ⟨nb, 16, none⟩) (Nat.le_refl _) _, ?_, row_off HROW.out HNE.out⟩
            have hk := HKQ.out
            rw [HM.out] at hk
            exact node_put (l := x.l) hk)
          clear hml
          go_upto_region 28 with fail
          generalize hw10 : World.setCell _ _ _ = w10
          obtain ⟨hb10, hk10, hr10⟩ := HP10.out w10 hw10
          have HMX := Lib.hid (show MOk w10 0 ⟨x, .slice o21 m c21, nv, av⟩ from ⟨hr10, own_base (own_kept HMK.out.names (by rw [HNBO.out]; exact hb10)) (Nat.zero_le _), own_base (own_kept HMK.out.aggs (by rw [HNBO.out]; exact hb10)) (Nat.zero_le _)⟩)
          have HMY := Lib.hid (HMK2.out.kept (W' := w10) (by rw [HNBO.out]; exact hb10))
          have hs1 := box_range hk10
          have hs2 : w10.rangeAt gc (j * 19) (NodeM.cells ⟨x, lv2, nv2, av2⟩) := range_kept (by rw [HNBO.out]; exact hb10) HR2.out
          have hs3 : w10.cell? ⟨w6.heap.size, 0, none⟩ = some (.slice (some ⟨gc, 0, none⟩) cs.length c6) := (HY7.out.kept (HBR.out.trans (hb10.mono (by rw [← HNBO.out]; exact HBR.out.size)))).cell 0
          have HB10 := Lib.hid (HBR.out.trans (hb10.mono (by rw [← HNBO.out]; exact HBR.out.size)))
          have HSN := Lib.hid (same_node (HMX.out.kept (Below.refl _ _).drew) (HMY.out.kept (W' := w10.drew) (Below.refl _ _).drew))
          obtain ⟨X, hX⟩ : ∃ X, X = NodeM.cells ⟨x, .slice o21 m c21, nv, av⟩ := ⟨_, rfl⟩
          obtain ⟨Y, hY⟩ : ∃ Y, Y = NodeM.cells ⟨x, lv2, nv2, av2⟩ := ⟨_, rfl⟩
          have hu := undNode
          have hx19 : (Tryz.prog.info? 42).map (·.size) = some X.length := by rw [hX]; exact sizeNode
          have hy19 : (Tryz.prog.info? 42).map (·.size) = some Y.length := by rw [hY]; exact sizeNode
          rw [← hX] at hs1 HSN
          rw [← hY] at hs2 HSN
          clear hw10 hb10 hk10 hr10 hX hY e16 f16
          refine wp_region_held_drew (S := fun w' => w'.rangeAt nb 0 X ∧ w'.cell? ⟨w6.heap.size, 0, none⟩ = some (.slice (some ⟨gc, 0, none⟩) cs.length c6) ∧ w'.rangeAt gc (j * 19) Y) (by kernel_rfl) ⟨hs1, hs3, hs2⟩ (fun hHeld => ?_)
          refine' wpAnyH_take (i := 0) (oi := { dst := some 137, op := Op.load 42 (Operand.tmp 20), type := 42, pos := "more.go:41", after := #[], guard := none }) (v := _) rfl (by kernel_rfl) (by kernel_rfl) (by kernel_rfl) (fun _ _ _ h => h) (yieldsIf_load_mid (by rfl) _ _ rfl _ _ rfl _ _ ?hS1 ?hu1 ?hd1 ?hi1) (by assumption) ?restm1
          case hS1 => intro w hSw; (try dsimp only at hSw); exact hSw.1
          case hu1 => exact undNode
          case hd1 => rfl
          case hi1 => (first | exact hx19 | exact hy19)
          try simp only [Act.put, List.setIfInBounds_toArray, List.set_cons_zero, List.set_cons_succ]
          refine wpAnyH_take (i := 1) (oi := { dst := some 138, op := Op.fieldAddr 25 (Operand.tmp 15) 0, type := 0, pos := "more.go:41", after := #[], guard := none }) (v := ?v2) rfl (by kernel_rfl) (by kernel_rfl) (by kernel_rfl) (fun _ _ _ h => h) (Or.inl ⟨by rfl, ?hy2⟩) (by assumption) ?rest2
          case hy2 =>
            intro w hSw
            (try dsimp only at hSw)
            go_simp
            try with_reducible rfl
          try simp only [Act.put, List.setIfInBounds_toArray, List.set_cons_zero, List.set_cons_succ]
          refine wpAnyH_take (i := 2) (oi := { dst := some 139, op := Op.load 23 (Operand.tmp 138), type := 23, pos := "more.go:41", after := #[{ on := 1, ground := Ground.data }], guard := none }) (v := ?v3) rfl (by kernel_rfl) (by kernel_rfl) (by kernel_rfl) (fun _ _ _ h => h) (Or.inl ⟨by rfl, ?hy3⟩) (by assumption) ?rest3
          case hy3 =>
            intro w hSw
            (try dsimp only at hSw)
            go_simp
            try with_reducible rfl
          try simp only [Act.put, List.setIfInBounds_toArray, List.set_cons_zero, List.set_cons_succ]
          refine wpAnyH_take (i := 3) (oi := { dst := some 140, op := Op.move (Operand.tmp 19), type := 3, pos := "more.go:41", after := #[], guard := none }) (v := ?v4) rfl (by kernel_rfl) (by kernel_rfl) (by kernel_rfl) (fun _ _ _ h => h) (Or.inl ⟨by rfl, ?hy4⟩) (by assumption) ?rest4
          case hy4 =>
            intro w hSw
            (try dsimp only at hSw)
            go_simp
            try with_reducible rfl
          try simp only [Act.put, List.setIfInBounds_toArray, List.set_cons_zero, List.set_cons_succ]
          refine wpAnyH_take (i := 4) (oi := { dst := some 141, op := Op.indexAddr 23 (Operand.tmp 139) (Operand.tmp 140), type := 0, pos := "more.go:41", after := #[{ on := 2, ground := Ground.data }, { on := 3, ground := Ground.data }], guard := none }) (v := ?v5) rfl (by kernel_rfl) (by kernel_rfl) (by kernel_rfl) (fun _ _ _ h => h) (Or.inl ⟨by rfl, ?hy5⟩) (by assumption) ?rest5
          case hy5 =>
            intro w hSw
            (try dsimp only at hSw)
            go_simp
            try with_reducible rfl
          try simp only [Act.put, List.setIfInBounds_toArray, List.set_cons_zero, List.set_cons_succ]
          refine' wpAnyH_take (i := 5) (oi := { dst := some 142, op := Op.load 42 (Operand.tmp 141), type := 42, pos := "more.go:41", after := #[{ on := 4, ground := Ground.data }], guard := none }) (v := _) rfl (by kernel_rfl) (by kernel_rfl) (by kernel_rfl) (fun _ _ _ h => h) (yieldsIf_load_mid (by rfl) _ _ rfl _ _ rfl _ _ ?hS6 ?hu6 ?hd6 ?hi6) (by assumption) ?restm6
          case hS6 => intro w hSw; (try dsimp only at hSw); exact hSw.2.2
          case hu6 => exact undNode
          case hd6 => rfl
          case hi6 => (first | exact hx19 | exact hy19)
          try simp only [Act.put, List.setIfInBounds_toArray, List.set_cons_zero, List.set_cons_succ]
          refine wpAnyH_ready (rs := [6]) (by kernel_rfl) (by simp) ?_
          refine AllReadyH.cons (o := { dst := some 143, op := Op.call { callee := Callee.value (Operand.func 16), args := #[Operand.tmp 137, Operand.tmp 142], argTypes := #[42, 42] }, type := 4, pos := "more.go:41", after := #[{ on := 0, ground := Ground.data }, { on := 5, ground := Ground.data }], guard := none }) rfl (fun K hK => ?_) ?_
          · go_simp
            go_at_call 16
            (with_reducible refine HSN.out.mono ?_)
            rintro e w11 ⟨rfl, hb11⟩
            have hs1' := range_kept hb11 (show w10.drew.rangeAt nb 0 X from hs1)
            have hs3' := keepc hb11 (show w10.drew.cell? _ = _ from hs3)
            have hs2' := range_kept hb11 (show w10.drew.rangeAt gc (j * 19) Y from hs2)
            have HB11 := Lib.hid (chain HB10.out (chain (show Below w10.heap.size w10 w10.drew from (Below.refl _ _).drew) hb11))
            clear hb11
            refine hK.out _ _ ?_ (fun hHeld => ?_)
            · exact ⟨hs1', hs3', hs2'⟩
            · clear hK K
              try simp only [Act.put, List.setIfInBounds_toArray, List.set_cons_zero, List.set_cons_succ]
              refine wpAnyH_take (i := 7) (oi := { dst := some 23, op := Op.assign (Operand.tmp 143), type := 4, pos := "more.go:41", after := #[{ on := 6, ground := Ground.data }, { on := 6, ground := Ground.chain }, { on := 0, ground := Ground.phase }, { on := 1, ground := Ground.phase }, { on := 2, ground := Ground.phase }, { on := 3, ground := Ground.phase }, { on := 4, ground := Ground.phase }, { on := 5, ground := Ground.phase }, { on := 6, ground := Ground.phase }], guard := none }) (v := ?v9) rfl (by kernel_rfl) (by kernel_rfl) (by kernel_rfl) (fun _ _ _ h => h) (Or.inl ⟨by rfl, ?hy9⟩) (by assumption) ?rest9
              case hy9 =>
                intro w hSw
                (try dsimp only at hSw)
                go_simp
                try with_reducible rfl
              try simp only [Act.put, List.setIfInBounds_toArray, List.set_cons_zero, List.set_cons_succ]
              refine wpAnyH_done (by kernel_rfl) ?_ _
              go_wp2_with fail
              go_roundg (cs.length - j)
              case measure => omega
              case rel => exact ⟨j + 1, by omega, by omega, rfl, HB11.out⟩
          exact AllReadyH.nil
    · have n1 : ¬ (j : Int) < (cs.length : Int) := by omega
      have n3 : decide ((j : Int) < (cs.length : Int)) = false := decide_eq_false n1
      go_wp2_with fail
      exact bodyPost_ret (results_tmp rfl _ _ _) rfl ⟨rfl, chain HB7.out HBR.out⟩
end Go.Proofs.YtnaehhpikhlppaaGreatDoor
