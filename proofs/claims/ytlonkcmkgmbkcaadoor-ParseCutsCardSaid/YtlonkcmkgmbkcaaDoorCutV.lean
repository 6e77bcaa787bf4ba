/- The walk of the law ParseCuts. -/
import Derived.Test.YtlonkcmkgmbkcaaDoorCutW
import Derived.Test.YtlonkcmkgmbkcaaDoorLast
namespace Go.Proofs.YtlonkcmkgmbkcaaDoor
open Go.RowKit LexS ParS BigFrame
set_option maxHeartbeats 4000000
set_option linter.unusedVariables false
set_option linter.unusedSimpArgs false
attribute [local go_sem] World.cell?_alloc_some cell_drewN_new free_drewN_new cell_drew_new free_drew_new

theorem NR.kept {W W' : World} {v : Value} {ns : List Nd} (hb : Below W.heap.size W W') (h : NR W v ns) : NR W' v ns := by
  obtain ⟨p, cap, h1, h2, h3, h4⟩ := h
  refine ⟨p, cap, h1, h2, h3, fun hne => ?_⟩
  obtain ⟨g, hg, hc⟩ := h4 hne
  exact ⟨g, hg, fun i nd hi => by
    obtain ⟨m, b, e1, e2, e3⟩ := hc i nd hi
    exact ⟨m, b, e1, e2.kept hb, range_kept hb e3⟩⟩
/-- The first nodes of a tree. -/
theorem NR.first {W : World} {p : Option Addr} {n cap : Nat} {ns more : List Nd} (h : NR W (.slice p n cap) (ns ++ more)) (hne : ns ≠ []) : NR W (.slice p ns.length cap) ns := by
  obtain ⟨p', cap', h1, h2, h3, h4⟩ := h
  injection h1 with q1 q2 q3
  subst q1
  subst q3
  rw [List.length_append] at h2 h3
  refine ⟨_, _, rfl, by omega, by omega, fun _ => ?_⟩
  obtain ⟨g, hg, hc⟩ := h4 (by simp [hne])
  exact ⟨g, hg, fun i nd hi => hc i nd (by rw [List.getElem?_append_left (List.getElem?_eq_some_iff.1 hi).1]; exact hi)⟩
theorem cut_len (k : Nat) (h : k < 6) : (cutB k).length ≤ 18 := by
  match k, h with
  | 0, _ => decide
  | 1, _ => decide
  | 2, _ => decide
  | 3, _ => decide
  | 4, _ => decide
  | 5, _ => decide
theorem cat_list (s : ByteArray) (t : Bytes) : (s ++ BA t).data.toList = s.data.toList ++ t := by simp [BA]
set_option maxRecDepth 100000 in
theorem cuts12_any (s : ByteArray) (i : Int) (hs : s.size ≤ 140737488351232) (hn : (Lit.int .i64 i).wf = true) (w : World) (hg : GW w) :
    Calls Tryd.prog 10 #[.string s, .int .i64 i] w fun e w' => e = .returned (.bool true) ∧ Below w.heap.size w w' := by
  have hsh := shown_12 w hg
  have bn : -9223372036854775808 ≤ i ∧ i ≤ 9223372036854775807 := by
    have h := hn
    simp [Lit.wf, IntKind.min, IntKind.max, IntKind.signed, IntKind.bits] at h
    omega
  go_enter Tryd.func10, Tryd.ntmps10
  go_wp2_with fail
  refine hsh.mono ?_
  rintro e w1 ⟨rfl, b1⟩
  have hg1 := hg.kept b1
  obtain ⟨t2, ht2⟩ : ∃ t2, t2 = w1.alloc (.cells #[.string ⟨#[32, 124, 32, 107, 101, 101, 112, 32, 97]⟩, .string ⟨#[32, 124, 32, 97, 108, 105, 103, 110, 32, 53]⟩, .string ⟨#[32, 124, 32, 116, 111, 112, 32, 51, 32, 98, 121, 32, 98]⟩, .string ⟨#[32, 124, 32, 103, 114, 111, 117, 112, 32, 99, 32, 58, 32, 99, 111, 117, 110, 116]⟩, .string ⟨#[32, 124, 32, 119, 104, 101, 114, 101, 32, 100, 32, 61, 32, 49]⟩, .string ⟨#[32, 124, 32, 117, 110, 105, 111, 110, 32, 40, 102, 101, 116, 99, 104, 32, 101, 41]⟩] 9) := ⟨_, rfl⟩
  have y2 : Below w1.heap.size w1 t2 := by rw [ht2]; exact (Below.refl _ _).alloc (Nat.le_refl _) _
  have hcell : ∀ k, k < 6 → t2.cell? ⟨w1.heap.size, k, none⟩ = some (.string (BA (32 :: cutB k))) := by
    intro k hk
    have hb := Blk.new w1 9 #[.string ⟨#[32, 124, 32, 107, 101, 101, 112, 32, 97]⟩, .string ⟨#[32, 124, 32, 97, 108, 105, 103, 110, 32, 53]⟩, .string ⟨#[32, 124, 32, 116, 111, 112, 32, 51, 32, 98, 121, 32, 98]⟩, .string ⟨#[32, 124, 32, 103, 114, 111, 117, 112, 32, 99, 32, 58, 32, 99, 111, 117, 110, 116]⟩, .string ⟨#[32, 124, 32, 119, 104, 101, 114, 101, 32, 100, 32, 61, 32, 49]⟩, .string ⟨#[32, 124, 32, 117, 110, 105, 111, 110, 32, 40, 102, 101, 116, 99, 104, 32, 101, 41]⟩]
    rw [← ht2] at hb
    match k, hk with
    | 0, _ => exact hb.cell 0
    | 1, _ => exact hb.cell 1
    | 2, _ => exact hb.cell 2
    | 3, _ => exact hb.cell 3
    | 4, _ => exact hb.cell 4
    | 5, _ => exact hb.cell 5
  have HT := Lib.hid ht2
  have HC := Lib.hid hcell
  have HB := Lib.hid (chain b1 y2)
  have HG := Lib.hid (hg1.kept y2)
  clear hsh hg hn hcell b1 y2 hg1 ht2
  go_upto_region 3 with fail
  rw [show w1.alloc (.cells #[.string ⟨#[32, 124, 32, 107, 101, 101, 112, 32, 97]⟩, .string ⟨#[32, 124, 32, 97, 108, 105, 103, 110, 32, 53]⟩, .string ⟨#[32, 124, 32, 116, 111, 112, 32, 51, 32, 98, 121, 32, 98]⟩, .string ⟨#[32, 124, 32, 103, 114, 111, 117, 112, 32, 99, 32, 58, 32, 99, 111, 117, 110, 116]⟩, .string ⟨#[32, 124, 32, 119, 104, 101, 114, 101, 32, 100, 32, 61, 32, 49]⟩, .string ⟨#[32, 124, 32, 117, 110, 105, 111, 110, 32, 40, 102, 101, 116, 99, 104, 32, 101, 41]⟩] 9) = t2 from HT.out.symm]
  go_upto_if 19 with (fail)
  go_cut [1] (fun s0 wx => (∃ n : Nat, (n : Int) ≤ 9223372036854775807 ∧ s0 = .int .i64 (n : Int)) ∧ wx = t2)
  case first =>
    by_cases h0 : i < 0
    · have g : decide (i < 0) = true := decide_eq_true h0
      go_wp2_with fail
      go_meet
      exact ⟨⟨(-(i + 1)).toNat, by omega, by go_num⟩, rfl⟩
    · have g : decide (i < 0) = false := decide_eq_false h0
      go_wp2_with fail
      go_meet
      exact ⟨⟨i.toNat, by omega, by go_num⟩, rfl⟩
  case rest =>
    obtain ⟨⟨m, hm, rfl⟩, rfl⟩ := hcut
    clear bn
    have t6 : Int.tmod (m : Int) 6 = ((m % 6 : Nat) : Int) := (Int.ofNat_tmod m 6).symm
    have h6 : m % 6 < 6 := Nat.mod_lt _ (by omega)
    obtain ⟨k, hk⟩ : ∃ k, k = m % 6 := ⟨_, rfl⟩
    rw [← hk] at t6 h6
    clear hk hm
    go_wp2_with fail
    refine (query_text s hs _ HG.out).mono ?_
    rintro e w3 ⟨nv1, rfl, n3, b3⟩
    have hlaw := cut_all s.data.toList k h6
    obtain ⟨⟨ns1, a1, e1⟩, hx⟩ : ∃ q, q = queryS s.data.toList := ⟨_, rfl⟩
    rw [← hx] at n3 hlaw ⊢
    dsimp only at n3 hlaw ⊢
    have r3 := n3.nr
    obtain ⟨p1, c1, rfl, _, q128, _⟩ := n3.nr
    obtain ⟨u3, hu3⟩ : ∃ u3, u3 = w3.alloc (.cells #[.slice p1 ns1.length c1] 39) := ⟨_, rfl⟩
    have y3 : Below w3.heap.size w3 u3 := by rw [hu3]; exact (Below.refl _ _).alloc (Nat.le_refl _) _
    have x3 : Blk u3 w3.heap.size 39 #[.slice p1 ns1.length c1] := by rw [hu3]; exact Blk.new w3 _ _
    have HB3 := Lib.hid (chain HB.out (chain b3 y3))
    have HG3 := Lib.hid ((HG.out.kept b3).kept y3)
    have HC3 := Lib.hid (keepc (chain b3 y3) (HC.out k h6))
    have HX3 := Lib.hid (And.intro x3 (r3.kept y3))
    have HU3 := Lib.hid hu3
    clear n3 r3 b3 y3 x3 hx HC
    have k1 := HC3.out
    have k2 : (0 : Int) ≤ (k : Int) := by omega
    have k3 : (k : Int) < 6 := by omega
    have hcl := cut_len k h6
    have hsz : (BA (32 :: cutB k)).size = (cutB k).length + 1 := by simp [BA, ByteArray.size]
    have k4 : s.size + (BA (32 :: cutB k)).size ≤ 9223372036854775807 := by rw [hsz]; omega
    have k5 : ¬ 9223372036854775807 < s.size + (BA (32 :: cutB k)).size := by omega
    have HS := Lib.hid (And.intro hcl (And.intro hsz k4))
    clear hsz
    go_upto_region 6 with fail
    rw [show w3.alloc (.cells #[.slice p1 ns1.length c1] 39) = u3 from HU3.out.symm]
    clear hu3
    go_wp2_with fail
    refine (query_wide (s ++ BA (32 :: cutB k)) (by rw [ByteArray.size_append]; exact HS.out.2.2) _ HG3.out).mono ?_
    rintro e w4 ⟨nv2, rfl, n4, b4⟩
    rw [cat_list] at n4 ⊢
    obtain ⟨⟨ns2, a2, e2⟩, hx2⟩ : ∃ q, q = queryS (s.data.toList ++ 32 :: cutB k) := ⟨_, rfl⟩
    rw [← hx2] at n4 hlaw ⊢
    dsimp only at n4 hlaw ⊢
    clear hx2 k4 k5
    have r4 := n4.nr
    obtain ⟨p2, c2, rfl, _, r128, _⟩ := n4.nr
    obtain ⟨u4, hu4⟩ : ∃ u4, u4 = w4.alloc (.cells #[.slice p2 ns2.length c2] 39) := ⟨_, rfl⟩
    have y4 : Below w4.heap.size w4 u4 := by rw [hu4]; exact (Below.refl _ _).alloc (Nat.le_refl _) _
    have x4 : Blk u4 w4.heap.size 39 #[.slice p2 ns2.length c2] := by rw [hu4]; exact Blk.new w4 _ _
    have HB4 := Lib.hid (chain HB3.out (chain b4 y4))
    have HX4 := Lib.hid (And.intro x4 (And.intro (r4.kept y4) (And.intro (HX3.out.1.kept (chain b4 y4)) (HX3.out.2.kept (chain b4 y4)))))
    have HU4 := Lib.hid hu4
    clear n4 r4 b4 y4 x4 k1 hcl
    go_upto_region 7 with fail
    rw [show w4.alloc (.cells #[.slice p2 ns2.length c2] 39) = u4 from HU4.out.symm]
    clear hu4
    by_cases h1 : e1 = 0
    case neg =>
      have j1 : ((e1 : Int) == 0) = false := by rw [beq_eq_false_iff_ne]; omega
      have j2 : ¬ (e1 : Int) = 0 := by omega
      go_wp2_with fail
      exact bodyPost_ret (results_tmp rfl _ _ _) rfl ⟨rfl, HB4.out⟩
    by_cases h2 : e2 = 0
    case neg =>
      have j1 : ((e2 : Int) == 0) = false := by rw [beq_eq_false_iff_ne]; omega
      have j2 : ¬ (e2 : Int) = 0 := by omega
      subst h1
      go_wp2_with fail
      exact bodyPost_ret (results_tmp rfl _ _ _) rfl ⟨rfl, HB4.out⟩
    obtain ⟨more, nd, hns, hmo, hnd, hne, h128⟩ := hlaw h1 h2
    subst h1
    subst h2
    have hl2 : ns2.length = ns1.length + more.length + 1 := by rw [hns]; simp; omega
    obtain ⟨q, hq⟩ : ∃ q, q = ns1.length + more.length := ⟨_, rfl⟩
    have hpos : 0 < ns1.length := List.length_pos_iff.2 hne
    have hne2 : ns2 ≠ [] := by intro h; rw [h] at hl2; simp at hl2
    have HRY := Lib.hid HX4.out.2.1
    obtain ⟨p2', c2', hp2, hcap, _, hrow⟩ := HX4.out.2.1
    obtain ⟨rfl, rfl⟩ : p2 = p2' ∧ c2 = c2' := by
      injection hp2 with x1 x2 x3
      exact ⟨x1, x3⟩
    obtain ⟨g2, rfl, hrw⟩ := hrow hne2
    have hlast : ns2[q]? = some nd := by
      rw [hns, hq, List.getElem?_append_right (by rw [List.length_append]; omega), List.length_append]
      simp
    obtain ⟨m_, b_, hmn, hmk, hrg⟩ := hrw q nd hlast
    have cl : u4.cell? ⟨g2, q * 19 + 16, none⟩ = some m_.lv := hrg 16 _ rfl
    have hml := hmk.l
    rw [hmn] at hml
    obtain ⟨pl, cpl, hlv, hlc, _, hlr⟩ := ints_row hml
    have hlpos : 0 < nd.l.length := by
      rcases Nat.eq_zero_or_pos nd.l.length with h | h
      · rw [List.getElem?_eq_none (by omega)] at hnd
        cases hnd
      · exact h
    obtain ⟨gl, rfl, hlx⟩ := hlr (List.length_pos_iff.1 hlpos)
    have cx := hlx 0 _ hnd
    rw [hlv] at cl
    have cb : u4.cell? ⟨w4.heap.size, 0, none⟩ = some (.slice (some ⟨g2, 0, none⟩) ns2.length c2) := HX4.out.1.cell 0
    have ca : u4.cell? ⟨w3.heap.size, 0, none⟩ = some (.slice p1 ns1.length c1) := HX4.out.2.2.1.cell 0
    have HNR : NR u4 (.slice (some ⟨g2, 0, none⟩) ns1.length c2) ns1 := by
      have := HRY.out
      rw [hns, List.append_assoc] at this
      exact this.first hne
    have hbd : Below u4.heap.size u4 u4.drew := (Below.refl _ _).drew
    have HSM := Lib.hid (same_trees (HNR.kept hbd) (HX4.out.2.2.2.kept hbd))
    have i1 : IntKind.i64.wrap ((ns2.length : Int) - 1) = (q : Int) := by rw [IntWalk.i64_in _ (by omega)]; omega
    have i2 : IntKind.i64.wrap ((ns1.length : Int) - 1) = ((ns1.length - 1 : Nat) : Int) := by rw [IntWalk.i64_in _ (by omega)]; omega
    have i3 : (q : Int) < (ns2.length : Int) := by omega
    have i4 : (0 : Int) ≤ (q : Int) := by omega
    have i5 : (ns1.length : Int) ≤ (c2 : Int) := by omega
    have i6 : (0 : Int) ≤ (ns1.length : Int) := by omega
    have i7 : (0 : Int) < (nd.l.length : Int) := by omega
    have i8 : ns1.length ≤ c2 := by omega
    obtain ⟨r_, hr_⟩ : ∃ r_, r_ = ns1.length - 1 := ⟨_, rfl⟩
    rw [← hr_] at cx i2
    have HLL := Lib.hid (And.intro hl2 hmo)
    clear hl2 hq hr_ hmo
    clear hns hlr hlx hrow hrw hrg hmk hml HNR hbd hnd hlast hne2 hmn hp2
    have hcut : (3 < k ∧ cutN k = 2) ∨ (¬ 3 < k ∧ cutN k = 1) := by
      unfold cutN
      by_cases h : 3 < k
      · exact .inl ⟨h, if_pos h⟩
      · exact .inr ⟨h, if_neg h⟩
    rcases hcut with ⟨h3, hcn⟩ | ⟨h3, hcn⟩
    · have v1 : decide ((3 : Int) < (k : Int)) = true := decide_eq_true (by omega)
      have v2 : (3 : Int) < (k : Int) := by omega
      have v3 : IntKind.i64.wrap ((ns2.length : Int) - (ns1.length : Int)) = 2 := by
        have z1 := HLL.out.1
        have z2 := HLL.out.2
        rw [hcn] at z2
        rw [IntWalk.i64_in _ (by omega)]
        omega
      clear hcn
      go_wp2_with fail
      refine wp_region_held_drew (S := fun w' => w'.cell? ⟨w4.heap.size, 0, none⟩ = some (.slice (some ⟨g2, 0, none⟩) ns2.length c2) ∧ w'.cell? ⟨w3.heap.size, 0, none⟩ = some (.slice p1 ns1.length c1)) (by kernel_rfl) ⟨cb, ca⟩ (fun hHeld => ?_)
      refine wpAnyH_take (i := 0) (oi := { dst := some 61, op := Go.Op.fieldAddr 39 (Go.Operand.tmp 10) 0, type := 0, pos := "more.go:47", after := #[], guard := none }) (v := ?v101) rfl (by kernel_rfl) (by kernel_rfl) (by kernel_rfl) (fun _ _ _ h => h) (Or.inl ⟨by rfl, ?hy101⟩) (by assumption) ?rest101
      case hy101 =>
        intro w hSw
        (try dsimp only at hSw)
        go_simp
        try with_reducible rfl
      try simp only [Act.put, List.setIfInBounds_toArray, List.set_cons_zero, List.set_cons_succ]
      refine wpAnyH_take (i := 1) (oi := { dst := some 62, op := Go.Op.load 37 (Go.Operand.tmp 61), type := 37, pos := "more.go:47", after := #[{ on := 0, ground := Go.Ground.data }], guard := none }) (v := ?v102) rfl (by kernel_rfl) (by kernel_rfl) (by kernel_rfl) (fun _ _ _ h => h) (Or.inl ⟨by rfl, ?hy102⟩) (by assumption) ?rest102
      case hy102 =>
        intro w hSw
        (try dsimp only at hSw)
        go_simp
        try with_reducible rfl
      try simp only [Act.put, List.setIfInBounds_toArray, List.set_cons_zero, List.set_cons_succ]
      refine wpAnyH_take (i := 2) (oi := { dst := some 63, op := Go.Op.fieldAddr 39 (Go.Operand.tmp 7) 0, type := 0, pos := "more.go:47", after := #[], guard := none }) (v := ?v103) rfl (by kernel_rfl) (by kernel_rfl) (by kernel_rfl) (fun _ _ _ h => h) (Or.inl ⟨by rfl, ?hy103⟩) (by assumption) ?rest103
      case hy103 =>
        intro w hSw
        (try dsimp only at hSw)
        go_simp
        try with_reducible rfl
      try simp only [Act.put, List.setIfInBounds_toArray, List.set_cons_zero, List.set_cons_succ]
      refine wpAnyH_take (i := 3) (oi := { dst := some 64, op := Go.Op.load 37 (Go.Operand.tmp 63), type := 37, pos := "more.go:47", after := #[{ on := 2, ground := Go.Ground.data }], guard := none }) (v := ?v104) rfl (by kernel_rfl) (by kernel_rfl) (by kernel_rfl) (fun _ _ _ h => h) (Or.inl ⟨by rfl, ?hy104⟩) (by assumption) ?rest104
      case hy104 =>
        intro w hSw
        (try dsimp only at hSw)
        go_simp
        try with_reducible rfl
      try simp only [Act.put, List.setIfInBounds_toArray, List.set_cons_zero, List.set_cons_succ]
      refine wpAnyH_take (i := 4) (oi := { dst := some 65, op := Go.Op.call { callee := Go.Callee.builtin Go.Builtin.len, args := #[Go.Operand.tmp 64], argTypes := #[37] }, type := 3, pos := "more.go:47", after := #[{ on := 3, ground := Go.Ground.data }], guard := none }) (v := ?v105) rfl (by kernel_rfl) (by kernel_rfl) (by kernel_rfl) (fun _ _ _ h => h) (Or.inl ⟨by rfl, ?hy105⟩) (by assumption) ?rest105
      case hy105 =>
        intro w hSw
        (try dsimp only at hSw)
        go_simp
        try with_reducible rfl
      try simp only [Act.put, List.setIfInBounds_toArray, List.set_cons_zero, List.set_cons_succ]
      refine wpAnyH_take (i := 5) (oi := { dst := some 66, op := Go.Op.slice 37 (Go.Operand.tmp 62) none (some (Go.Operand.tmp 65)) none, type := 37, pos := "more.go:47", after := #[{ on := 1, ground := Go.Ground.data }, { on := 4, ground := Go.Ground.data }], guard := none }) (v := ?v106) rfl (by kernel_rfl) (by kernel_rfl) (by kernel_rfl) (fun _ _ _ h => h) (Or.inl ⟨by rfl, ?hy106⟩) (by assumption) ?rest106
      case hy106 =>
        intro w hSw
        (try dsimp only at hSw)
        go_simp
        try with_reducible rfl
      try simp only [Act.put, List.setIfInBounds_toArray, List.set_cons_zero, List.set_cons_succ]
      refine wpAnyH_take (i := 6) (oi := { dst := some 67, op := Go.Op.build 39 #[(0, Go.Operand.tmp 66)], type := 39, pos := "more.go:47", after := #[{ on := 5, ground := Go.Ground.data }], guard := none }) (v := ?v107) rfl (by kernel_rfl) (by kernel_rfl) (by kernel_rfl) (fun _ _ _ h => h) (Or.inl ⟨by rfl, ?hy107⟩) (by assumption) ?rest107
      case hy107 =>
        intro w hSw
        (try dsimp only at hSw)
        go_simp
        try with_reducible rfl
      try simp only [Act.put, List.setIfInBounds_toArray, List.set_cons_zero, List.set_cons_succ]
      refine wpAnyH_take (i := 7) (oi := { dst := some 68, op := Go.Op.load 39 (Go.Operand.tmp 7), type := 39, pos := "more.go:47", after := #[], guard := none }) (v := ?v108) rfl (by kernel_rfl) (by kernel_rfl) (by kernel_rfl) (fun _ _ _ h => h) (Or.inl ⟨by rfl, ?hy108⟩) (by assumption) ?rest108
      case hy108 =>
        intro w hSw
        (try dsimp only at hSw)
        go_simp
        try with_reducible rfl
      try simp only [Act.put, List.setIfInBounds_toArray, List.set_cons_zero, List.set_cons_succ]
      refine wpAnyH_ready (rs := [8]) (by kernel_rfl) (by simp) ?_
      refine AllReadyH.cons (o := { dst := some 69, op := Go.Op.call { callee := Go.Callee.value (Go.Operand.func 21), args := #[Go.Operand.tmp 67, Go.Operand.tmp 68], argTypes := #[39, 39] }, type := 4, pos := "more.go:47", after := #[{ on := 6, ground := Go.Ground.data }, { on := 7, ground := Go.Ground.data }], guard := none }) rfl (fun K hK => ?_) ?_
      · go_simp
        go_at_call 21
        (with_reducible refine HSM.out.mono ?_)
        rintro e w5 ⟨rfl, b5⟩
        have z1 := keepc b5 (show u4.drew.cell? ⟨w4.heap.size, 0, none⟩ = _ from cb)
        have z2 := keepc b5 (show u4.drew.cell? ⟨w3.heap.size, 0, none⟩ = _ from ca)
        have z3 := keepc b5 (show u4.drew.cell? ⟨g2, q * 19 + 16, none⟩ = _ from cl)
        have z4 := keepc b5 (show u4.drew.cell? ⟨gl, 0, none⟩ = _ from cx)
        have HB5 := Lib.hid (chain HB4.out.drew b5)
        clear b5
        refine hK.out _ _ ?_ (fun hHeld => ?_)
        · exact ⟨z1, z2⟩
        · clear hK K
          try simp only [Act.put, List.setIfInBounds_toArray, List.set_cons_zero, List.set_cons_succ]
          refine wpAnyH_take (i := 9) (oi := { dst := some 15, op := Go.Op.assign (Go.Operand.tmp 69), type := 4, pos := "more.go:47", after := #[{ on := 8, ground := Go.Ground.data }, { on := 8, ground := Go.Ground.chain }, { on := 0, ground := Go.Ground.phase }, { on := 1, ground := Go.Ground.phase }, { on := 2, ground := Go.Ground.phase }, { on := 3, ground := Go.Ground.phase }, { on := 4, ground := Go.Ground.phase }, { on := 5, ground := Go.Ground.phase }, { on := 6, ground := Go.Ground.phase }, { on := 7, ground := Go.Ground.phase }, { on := 8, ground := Go.Ground.phase }], guard := none }) (v := ?v109) rfl (by kernel_rfl) (by kernel_rfl) (by kernel_rfl) (fun _ _ _ h => h) (Or.inl ⟨by rfl, ?hy109⟩) (by assumption) ?rest109
          case hy109 =>
            intro w hSw
            (try dsimp only at hSw)
            go_simp
            try with_reducible rfl
          try simp only [Act.put, List.setIfInBounds_toArray, List.set_cons_zero, List.set_cons_succ]
          refine wpAnyH_done (by kernel_rfl) ?_ _
          go_wp2_with fail
          go_big_quiet (fail)
          go_wp2_with fail
          exact bodyPost_ret (results_tmp rfl _ _ _) rfl ⟨rfl, HB5.out.trans ⟨rfl, rfl, rfl, Nat.le_refl _, fun _ _ => rfl⟩⟩
      exact AllReadyH.nil
    · have v1 : decide ((3 : Int) < (k : Int)) = false := decide_eq_false (by omega)
      have v2 : ¬ (3 : Int) < (k : Int) := by omega
      have v3 : IntKind.i64.wrap ((ns2.length : Int) - (ns1.length : Int)) = 1 := by
        have z1 := HLL.out.1
        have z2 := HLL.out.2
        rw [hcn] at z2
        rw [IntWalk.i64_in _ (by omega)]
        omega
      clear hcn
      go_wp2_with fail
      refine wp_region_held_drew (S := fun w' => w'.cell? ⟨w4.heap.size, 0, none⟩ = some (.slice (some ⟨g2, 0, none⟩) ns2.length c2) ∧ w'.cell? ⟨w3.heap.size, 0, none⟩ = some (.slice p1 ns1.length c1)) (by kernel_rfl) ⟨cb, ca⟩ (fun hHeld => ?_)
      refine wpAnyH_take (i := 0) (oi := { dst := some 61, op := Go.Op.fieldAddr 39 (Go.Operand.tmp 10) 0, type := 0, pos := "more.go:47", after := #[], guard := none }) (v := ?v201) rfl (by kernel_rfl) (by kernel_rfl) (by kernel_rfl) (fun _ _ _ h => h) (Or.inl ⟨by rfl, ?hy201⟩) (by assumption) ?rest201
      case hy201 =>
        intro w hSw
        (try dsimp only at hSw)
        go_simp
        try with_reducible rfl
      try simp only [Act.put, List.setIfInBounds_toArray, List.set_cons_zero, List.set_cons_succ]
      refine wpAnyH_take (i := 1) (oi := { dst := some 62, op := Go.Op.load 37 (Go.Operand.tmp 61), type := 37, pos := "more.go:47", after := #[{ on := 0, ground := Go.Ground.data }], guard := none }) (v := ?v202) rfl (by kernel_rfl) (by kernel_rfl) (by kernel_rfl) (fun _ _ _ h => h) (Or.inl ⟨by rfl, ?hy202⟩) (by assumption) ?rest202
      case hy202 =>
        intro w hSw
        (try dsimp only at hSw)
        go_simp
        try with_reducible rfl
      try simp only [Act.put, List.setIfInBounds_toArray, List.set_cons_zero, List.set_cons_succ]
      refine wpAnyH_take (i := 2) (oi := { dst := some 63, op := Go.Op.fieldAddr 39 (Go.Operand.tmp 7) 0, type := 0, pos := "more.go:47", after := #[], guard := none }) (v := ?v203) rfl (by kernel_rfl) (by kernel_rfl) (by kernel_rfl) (fun _ _ _ h => h) (Or.inl ⟨by rfl, ?hy203⟩) (by assumption) ?rest203
      case hy203 =>
        intro w hSw
        (try dsimp only at hSw)
        go_simp
        try with_reducible rfl
      try simp only [Act.put, List.setIfInBounds_toArray, List.set_cons_zero, List.set_cons_succ]
      refine wpAnyH_take (i := 3) (oi := { dst := some 64, op := Go.Op.load 37 (Go.Operand.tmp 63), type := 37, pos := "more.go:47", after := #[{ on := 2, ground := Go.Ground.data }], guard := none }) (v := ?v204) rfl (by kernel_rfl) (by kernel_rfl) (by kernel_rfl) (fun _ _ _ h => h) (Or.inl ⟨by rfl, ?hy204⟩) (by assumption) ?rest204
      case hy204 =>
        intro w hSw
        (try dsimp only at hSw)
        go_simp
        try with_reducible rfl
      try simp only [Act.put, List.setIfInBounds_toArray, List.set_cons_zero, List.set_cons_succ]
      refine wpAnyH_take (i := 4) (oi := { dst := some 65, op := Go.Op.call { callee := Go.Callee.builtin Go.Builtin.len, args := #[Go.Operand.tmp 64], argTypes := #[37] }, type := 3, pos := "more.go:47", after := #[{ on := 3, ground := Go.Ground.data }], guard := none }) (v := ?v205) rfl (by kernel_rfl) (by kernel_rfl) (by kernel_rfl) (fun _ _ _ h => h) (Or.inl ⟨by rfl, ?hy205⟩) (by assumption) ?rest205
      case hy205 =>
        intro w hSw
        (try dsimp only at hSw)
        go_simp
        try with_reducible rfl
      try simp only [Act.put, List.setIfInBounds_toArray, List.set_cons_zero, List.set_cons_succ]
      refine wpAnyH_take (i := 5) (oi := { dst := some 66, op := Go.Op.slice 37 (Go.Operand.tmp 62) none (some (Go.Operand.tmp 65)) none, type := 37, pos := "more.go:47", after := #[{ on := 1, ground := Go.Ground.data }, { on := 4, ground := Go.Ground.data }], guard := none }) (v := ?v206) rfl (by kernel_rfl) (by kernel_rfl) (by kernel_rfl) (fun _ _ _ h => h) (Or.inl ⟨by rfl, ?hy206⟩) (by assumption) ?rest206
      case hy206 =>
        intro w hSw
        (try dsimp only at hSw)
        go_simp
        try with_reducible rfl
      try simp only [Act.put, List.setIfInBounds_toArray, List.set_cons_zero, List.set_cons_succ]
      refine wpAnyH_take (i := 6) (oi := { dst := some 67, op := Go.Op.build 39 #[(0, Go.Operand.tmp 66)], type := 39, pos := "more.go:47", after := #[{ on := 5, ground := Go.Ground.data }], guard := none }) (v := ?v207) rfl (by kernel_rfl) (by kernel_rfl) (by kernel_rfl) (fun _ _ _ h => h) (Or.inl ⟨by rfl, ?hy207⟩) (by assumption) ?rest207
      case hy207 =>
        intro w hSw
        (try dsimp only at hSw)
        go_simp
        try with_reducible rfl
      try simp only [Act.put, List.setIfInBounds_toArray, List.set_cons_zero, List.set_cons_succ]
      refine wpAnyH_take (i := 7) (oi := { dst := some 68, op := Go.Op.load 39 (Go.Operand.tmp 7), type := 39, pos := "more.go:47", after := #[], guard := none }) (v := ?v208) rfl (by kernel_rfl) (by kernel_rfl) (by kernel_rfl) (fun _ _ _ h => h) (Or.inl ⟨by rfl, ?hy208⟩) (by assumption) ?rest208
      case hy208 =>
        intro w hSw
        (try dsimp only at hSw)
        go_simp
        try with_reducible rfl
      try simp only [Act.put, List.setIfInBounds_toArray, List.set_cons_zero, List.set_cons_succ]
      refine wpAnyH_ready (rs := [8]) (by kernel_rfl) (by simp) ?_
      refine AllReadyH.cons (o := { dst := some 69, op := Go.Op.call { callee := Go.Callee.value (Go.Operand.func 21), args := #[Go.Operand.tmp 67, Go.Operand.tmp 68], argTypes := #[39, 39] }, type := 4, pos := "more.go:47", after := #[{ on := 6, ground := Go.Ground.data }, { on := 7, ground := Go.Ground.data }], guard := none }) rfl (fun K hK => ?_) ?_
      · go_simp
        go_at_call 21
        (with_reducible refine HSM.out.mono ?_)
        rintro e w5 ⟨rfl, b5⟩
        have z1 := keepc b5 (show u4.drew.cell? ⟨w4.heap.size, 0, none⟩ = _ from cb)
        have z2 := keepc b5 (show u4.drew.cell? ⟨w3.heap.size, 0, none⟩ = _ from ca)
        have z3 := keepc b5 (show u4.drew.cell? ⟨g2, q * 19 + 16, none⟩ = _ from cl)
        have z4 := keepc b5 (show u4.drew.cell? ⟨gl, 0, none⟩ = _ from cx)
        have HB5 := Lib.hid (chain HB4.out.drew b5)
        clear b5
        refine hK.out _ _ ?_ (fun hHeld => ?_)
        · exact ⟨z1, z2⟩
        · clear hK K
          try simp only [Act.put, List.setIfInBounds_toArray, List.set_cons_zero, List.set_cons_succ]
          refine wpAnyH_take (i := 9) (oi := { dst := some 15, op := Go.Op.assign (Go.Operand.tmp 69), type := 4, pos := "more.go:47", after := #[{ on := 8, ground := Go.Ground.data }, { on := 8, ground := Go.Ground.chain }, { on := 0, ground := Go.Ground.phase }, { on := 1, ground := Go.Ground.phase }, { on := 2, ground := Go.Ground.phase }, { on := 3, ground := Go.Ground.phase }, { on := 4, ground := Go.Ground.phase }, { on := 5, ground := Go.Ground.phase }, { on := 6, ground := Go.Ground.phase }, { on := 7, ground := Go.Ground.phase }, { on := 8, ground := Go.Ground.phase }], guard := none }) (v := ?v209) rfl (by kernel_rfl) (by kernel_rfl) (by kernel_rfl) (fun _ _ _ h => h) (Or.inl ⟨by rfl, ?hy209⟩) (by assumption) ?rest209
          case hy209 =>
            intro w hSw
            (try dsimp only at hSw)
            go_simp
            try with_reducible rfl
          try simp only [Act.put, List.setIfInBounds_toArray, List.set_cons_zero, List.set_cons_succ]
          refine wpAnyH_done (by kernel_rfl) ?_ _
          go_wp2_with fail
          go_big_quiet (fail)
          go_wp2_with fail
          exact bodyPost_ret (results_tmp rfl _ _ _) rfl ⟨rfl, HB5.out.trans ⟨rfl, rfl, rfl, Nat.le_refl _, fun _ _ => rfl⟩⟩
      exact AllReadyH.nil
end Go.Proofs.YtlonkcmkgmbkcaaDoor
