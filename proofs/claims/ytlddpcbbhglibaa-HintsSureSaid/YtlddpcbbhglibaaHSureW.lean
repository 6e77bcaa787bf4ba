/- HintsSure: the walk where there are hosts. -/
import Derived.Test.YtlddpcbbhglibaaHSureP
import Derived.Test.YtlddpcbbhglibaaLast
namespace Go.Proofs.Ytlddpcbbhglibaa
open Go.RowKit Bits
set_option maxHeartbeats 0
attribute [local go_sem] World.cell?_alloc_some

theorem und60 : Try.prog.underlying 60 = some (.struct (Try.prog.fieldsOf 60)) := by kernel_rfl
theorem range19 {W : World} {g : Nat} {k h : Int} {t : ByteArray} (hb : Blk W g 60 (nodeA k host h 0 0 2 0 t (fun _ => 0) (.slice none 0 0) (.slice none 0 0) (.slice none 0 0))) : W.rangeAt g 0 [.int .i64 k, .string host, .int .i64 h, .int .i64 0, .int .i64 0, .int .i64 2, .int .i64 0, .string t, .int .i64 0, .int .i64 0, .int .i64 0, .int .i64 0, .int .i64 0, .int .i64 0, .int .i64 0, .int .i64 0, .slice none 0 0, .slice none 0 0, .slice none 0 0] := by
  intro j v hj
  rw [Nat.zero_add, hb.cell j]
  rw [← List.getElem?_toArray] at hj
  exact hj
set_option maxRecDepth 100000 in
theorem sure_some {w : World} {hs : List ByteArray} {a : Addr} {cap : Nat} {which p0 p1 : Int} (hmem : ∀ (i : Nat) t, hs[i]? = some t → w.cell? (a.add i) = some (.string t) ∧ t.size ≤ 140737488351232)
    (h1 : 1 ≤ hs.length) (hlen : hs.length ≤ 140737488351232) (hw0 : -9223372036854775808 ≤ which) (hw1 : which ≤ 9223372036854775807) (ha0 : -9223372036854775808 ≤ p0) (ha1 : p0 ≤ 9223372036854775807) (hb0 : -9223372036854775808 ≤ p1) (hb1 : p1 ≤ 9223372036854775807) :
    Calls Try.prog 8 #[.slice (some a) hs.length cap, .int .i64 which, .agg #[.int .i64 p0, .int .i64 p1]] w fun e w' => e = .returned (.bool true) ∧ Below w.heap.size w w' := by
  obtain ⟨N, hN1, hN2, hN3, hNe⟩ : ∃ N : Nat, 1 ≤ N ∧ N ≤ 40 ∧ N ≤ hs.length ∧ (if 40 < hs.length then (40 : Int) else (hs.length : Int)) = (N : Int) := by
    by_cases h : 40 < hs.length
    · exact ⟨40, by omega, by omega, by omega, by rw [if_pos h]; rfl⟩
    · exact ⟨hs.length, h1, by omega, Nat.le_refl _, by rw [if_neg h]⟩
  obtain ⟨W0, hW0⟩ : ∃ W0, W0 = w.alloc (.cells #[.int .i64 p0, .int .i64 p1] 35) := ⟨_, rfl⟩
  have hb : Below w.heap.size w W0 := by rw [hW0]; exact (Below.refl _ _).alloc (Nat.le_refl _) _
  have hbox : Blk W0 w.heap.size 35 #[.int .i64 p0, .int .i64 p1] := by rw [hW0]; exact Blk.new w 35 _
  have HM := Lib.hid (fun (i : Nat) t (h : hs[i]? = some t) => (⟨keepv hb (hmem i t h).1, (hmem i t h).2⟩ : W0.cell? (a.add i) = some (.string t) ∧ t.size ≤ 140737488351232))
  have HB := Lib.hid hb
  have HX := Lib.hid hbox
  have HW := Lib.hid hW0
  clear hmem hb hbox
  go_enter Try.func8, Try.ntmps8
  go_wp2_with fail
  rw [show w.alloc (.cells #[.int .i64 p0, .int .i64 p1] 35) = W0 from HW.out.symm]
  clear hW0
  refine (hshown_any _).mono ?_
  rintro e w1 ⟨rfl, b1⟩
  have B1 := Lib.hid b1
  clear b1
  go_wp2_with fail
  refine (new_any _).mono ?_
  rintro e w2 ⟨x, m, n, rfl, i2, hm, hn, hx, b2⟩
  have I2 := Lib.hid i2
  have B2 := Lib.hid (chain' B1.out b2)
  clear i2 b2
  go_wp2_with fail
  refine (new_any _).mono ?_
  rintro e w3 ⟨y, m2, n2, rfl, i3, hm2, hn2, hy, b3⟩
  have HS3 := Lib.hid (show SR W0 x m n y m2 n2 none none w3 from ⟨I2.out.below b3, i3, chain' B2.out b3⟩)
  have hmm : W0.heap.size ≤ m := Nat.le_trans B1.out.size hm
  have hnn : W0.heap.size ≤ n := Nat.le_trans B1.out.size hn
  have hmm2 : W0.heap.size ≤ m2 := Nat.le_trans B2.out.size hm2
  have hnn2 : W0.heap.size ≤ n2 := Nat.le_trans B2.out.size hn2
  have l1 := I2.out.m_lt
  have l2 := I2.out.n_lt
  have A1 := Lib.hid (show Apart m n y m2 n2 from ⟨by omega, by omega, by omega, by omega⟩)
  have A2 := Lib.hid (show Apart m2 n2 x m n from ⟨by omega, by omega, by omega, by omega⟩)
  clear i3 b3 l1 l2 hm hn hx hm2 hn2 hy
  go_upto_region 6 with (fail)
  go_cut [10] (fun s10 wx => s10 = .int .i64 (N : Int) ∧ wx = w3)
  case first =>
    by_cases h40 : 40 < hs.length
    · have q1 : (40 : Int) < (hs.length : Int) := by omega
      have q2 : decide ((40 : Int) < (hs.length : Int)) = true := decide_eq_true q1
      rw [if_pos h40] at hNe
      have HE := Lib.hid hNe
      clear hNe
      go_wp2_with fail
      go_meet
      exact ⟨by rw [← HE.out], rfl⟩
    · have q1 : ¬ (40 : Int) < (hs.length : Int) := by omega
      have q2 : decide ((40 : Int) < (hs.length : Int)) = false := decide_eq_false q1
      rw [if_neg h40] at hNe
      have HE := Lib.hid hNe
      clear hNe
      go_wp2_with fail
      go_meet
      exact ⟨by rw [← HE.out], rfl⟩
  case rest =>
  obtain ⟨rfl, rfl⟩ := hcut
  clear hNe
  go_wp2_with fail
  go_loopg [11] (N + 2) (fun gk c wr => ∃ i : Nat, i ≤ N ∧ N < i + gk ∧ c = .int .i64 (i : Int) ∧ SR W0 x m n y m2 n2 (stA hs 0 i) (stA hs 1 i) wr)
  case atStart => exact ⟨0, by omega, by omega, rfl, HS3.out⟩
  case round =>
    obtain ⟨i, hi, hgk, rfl, hS0⟩ := hrel
    clear HS3
    by_cases hiN : i < N
    · obtain ⟨t, ht⟩ : ∃ t, hs[i]? = some t := ⟨hs[i]'(by omega), List.getElem?_eq_getElem (by omega)⟩
      have HC := Lib.hid (HM.out i t ht).1
      have HT := Lib.hid (HM.out i t ht).2
      have hgd : hs.getD i ⟨#[]⟩ = t := by simp [List.getD, ht]
      have k1 : (i : Int) < (N : Int) := by omega
      have k2 : decide ((i : Int) < (N : Int)) = true := decide_eq_true k1
      have k3 : decide (i < N) = true := decide_eq_true hiN
      have k4 : (0 : Int) ≤ (i : Int) := by omega
      have k5 : (i : Int) < (hs.length : Int) := by omega
      have v1 : IntKind.i64.wrap ((i : Int) + 1) = (i : Int) + 1 := IntWalk.i64_in _ (by omega)
      have tm : Int.tmod (i : Int) 2 = ((i % 2 : Nat) : Int) := (Int.ofNat_tmod i 2).symm
      rcases (by omega : i % 2 = 0 ∨ i % 2 = 1) with hp | hp
      · rw [hp] at tm
        have hA : stA hs 0 (i + 1) = some (layB (stA hs 0 i) (wB t)) := by rw [stA, if_pos hp, hgd]
        have hB : stA hs 1 (i + 1) = stA hs 1 i := by rw [stA, if_neg (by omega)]
        have HN := Lib.hid (And.intro hA hB)
        have hS : SR W0 x m n y m2 n2 (stA hs 0 i) (stA hs 1 i) wr.drew := hS0.step (Below.refl _ _).drew
        clear hA hB hgd ht hS0 hp
        go_wp2_with fail
        go_region_held3 (fun w' => w'.cell? (a.add i) = some (.string t))
          (first | exact SR.host (by assumption) HC.out | go_keep)
          (first
            | (go_at_call 24; (with_reducible refine (load_any _).mono ?_); rintro e w1 ⟨g1, g2, rfl, hc1, hc2, hb1⟩; have hS := SR.step (by assumption) hb1; clear hb1)
            | (go_at_call 25; (with_reducible refine (point_any _ _).mono ?_); rintro e w2 ⟨h1, h2, rfl, hv1, hv2, hb2⟩; have hP := Parts.mk (hc1.keptB hb2) (hc2.keptB hb2) hv1 hv2; have hS := SR.step (by assumption) hb2; clear hb2 hc1 hc2 hv1 hv2)
            | (go_at_call 23; (with_reducible refine (add_any HT.out (SR.ix (by assumption)) hP).mono ?_); rintro e w3 ⟨rfl, hi3, hk3⟩; have hS := SR.addx (by assumption) A1.out hmm hnn hi3 hk3; clear hi3 hk3))
        have HS := Lib.hid hS
        clear hS
        go_wp2_with fail
        go_roundg (N - i)
        case measure => omega
        case rel => exact ⟨i + 1, by omega, by omega, by go_num, by rw [HN.out.1, HN.out.2]; exact HS.out⟩
      · rw [hp] at tm
        have hA : stA hs 1 (i + 1) = some (layB (stA hs 1 i) (wB t)) := by rw [stA, if_pos hp, hgd]
        have hB : stA hs 0 (i + 1) = stA hs 0 i := by rw [stA, if_neg (by omega)]
        have HN := Lib.hid (And.intro hA hB)
        have hS : SR W0 x m n y m2 n2 (stA hs 0 i) (stA hs 1 i) wr.drew := hS0.step (Below.refl _ _).drew
        clear hA hB hgd ht hS0 hp
        go_wp2_with fail
        go_region_held3 (fun w' => w'.cell? (a.add i) = some (.string t))
          (first | exact SR.host (by assumption) HC.out | go_keep)
          (first
            | (go_at_call 24; (with_reducible refine (load_any _).mono ?_); rintro e w1 ⟨g1, g2, rfl, hc1, hc2, hb1⟩; have hS := SR.step (by assumption) hb1; clear hb1)
            | (go_at_call 25; (with_reducible refine (point_any _ _).mono ?_); rintro e w2 ⟨h1, h2, rfl, hv1, hv2, hb2⟩; have hP := Parts.mk (hc1.keptB hb2) (hc2.keptB hb2) hv1 hv2; have hS := SR.step (by assumption) hb2; clear hb2 hc1 hc2 hv1 hv2)
            | (go_at_call 23; (with_reducible refine (add_any HT.out (SR.iy (by assumption)) hP).mono ?_); rintro e w3 ⟨rfl, hi3, hk3⟩; have hS := SR.addy (by assumption) A2.out hmm2 hnn2 hi3 hk3; clear hi3 hk3))
        have HS := Lib.hid hS
        clear hS
        go_wp2_with fail
        go_roundg (N - i)
        case measure => omega
        case rel => exact ⟨i + 1, by omega, by omega, by go_num, by rw [HN.out.1, HN.out.2]; exact HS.out⟩
    · obtain rfl : i = N := by omega
      have k1 : ¬ ((i : Int) < (i : Int)) := by omega
      have k2 : decide ((i : Int) < (i : Int)) = false := decide_eq_false k1
      have k3 : decide (i < i) = false := decide_eq_false (by omega)
      have z0 : ((i : Int) == 0) = false := by rw [beq_eq_false_iff_ne]; omega
      have HSJ := Lib.hid hS0
      clear hS0 hgk hi hiN
      go_wp2_with fail
      refine (hjoin_any HSJ.out A1.out hmm hnn).mono ?_
      rintro e w4 ⟨rfl, i4, b4⟩
      have I4 := Lib.hid i4
      have B4 := Lib.hid b4
      clear i4 b4
      go_wp2_with fail
      refine (kind_any which (i : Int) hw0 hw1 (by omega) (by omega) _).mono ?_
      rintro e w5 ⟨⟨k, rfl, hk⟩, rfl⟩
      obtain ⟨t, ht⟩ : ∃ t, hs[k]? = some t := ⟨hs[k]'(by omega), List.getElem?_eq_getElem (by omega)⟩
      have hc := keepv B4.out (HM.out k t ht).1
      have hts := (HM.out k t ht).2
      have kk1 : (0 : Int) ≤ (k : Int) := by omega
      have kk2 : (k : Int) < (hs.length : Int) := by omega
      have hc0 := (HX.out.below B4.out HX.out.lt).cell 0
      have hc1 := (HX.out.below B4.out HX.out.lt).cell 1
      have hgd : hs.getD k ⟨#[]⟩ = t := by simp [List.getD, ht]
      obtain ⟨b, hb, hin⟩ := all_has hs i k (by omega)
      rw [hgd] at hin
      have hwb := wf_all hs i b hb
      have HIN := Lib.hid hin
      have HWB := Lib.hid hwb
      have I5 := Lib.hid (show Idx w4 x m n true (some b) by have h := I4.out; unfold allB at hb; rw [hb] at h; exact h)
      have v2 : IntKind.i64.wrap ((t.size : Int) + 1) = (t.size : Int) + 1 := IntWalk.i64_in _ (by omega)
      clear ht hgd hb hin hwb
      go_wp2_with fail
      refine (kind_any p0 ((t.size : Int) + 1) ha0 ha1 (by omega) (by omega) _).mono ?_
      rintro e w6 ⟨⟨A, rfl, hA⟩, rfl⟩
      have v3 : IntKind.i64.wrap ((t.size : Int) - (A : Int)) = (t.size : Int) - (A : Int) := IntWalk.i64_in _ (by omega)
      have v4 : IntKind.i64.wrap ((t.size : Int) - (A : Int) + 1) = (t.size : Int) - (A : Int) + 1 := IntWalk.i64_in _ (by omega)
      go_wp2_with fail
      refine (kind_any p1 ((t.size : Int) - (A : Int) + 1) hb0 hb1 (by omega) (by omega) _).mono ?_
      rintro e w7 ⟨⟨D, rfl, hD⟩, rfl⟩
      have v5 : IntKind.i64.wrap ((A : Int) + (D : Int)) = (A : Int) + (D : Int) := IntWalk.i64_in _ (by omega)
      clear v2 v3 v4
      go_wp2_with fail
      refine (cond_any _ _ _ _).mono ?_
      rintro e w8 ⟨g3, rfl, hg3, n3, b8⟩
      have B8 := Lib.hid (chain' B4.out b8)
      have I8 := Lib.hid (I5.out.below b8)
      have N8 := Lib.hid (show Blk w8 g3 60 (condN 14 1 t).cells from n3)
      clear n3 b8 hc hc0 hc1
      unfold slice1
      go_wp2_with fail
      have hR : RK W0 W0.heap.size x m n w8.heap.size g3 b t (w8.alloc (.cells #[.slice (some ⟨g3, 0, none⟩) 1 1] 51)).drew := by
        have hb : Below w8.heap.size w8 (w8.alloc (.cells #[.slice (some ⟨g3, 0, none⟩) 1 1] 51)).drew := ((Below.refl _ _).alloc (Nat.le_refl _) _).drew
        exact ⟨I8.out.below hb, (Blk.new w8 51 _).drew, own_kept (own_one N8.out (Nat.le_trans B4.out.size hg3)) hb, chain' B8.out hb⟩
      have q0 := hR.q
      have hI9 := Blk.new (w8.alloc (.cells #[.slice (some ⟨g3, 0, none⟩) 1 1] 51)).drew 3 #[.int .i64 0, .int .i64 1]
      have hsz9 : (w8.alloc (.cells #[.slice (some ⟨g3, 0, none⟩) 1 1] 51)).drew.heap.size = w8.heap.size + 1 := World.size_alloc _ _
      rw [hsz9] at hI9
      have s1 : (0 : Int) ≤ (A : Int) := by omega
      have s2 : (A : Int) ≤ (A : Int) + (D : Int) := by omega
      have s3 : (A : Int) + (D : Int) ≤ (t.size : Int) := by omega
      have s4 : ((A : Int) + (D : Int)).toNat = A + D := by omega
      have s5 : (0 : Int) ≤ (A : Int) + (D : Int) := by omega
      obtain ⟨T, hT⟩ : ∃ T, T = t.extract A (A + D) := ⟨_, rfl⟩
      have hTe : t.extract A (A + D) = T := hT.symm
      have HT := Lib.hid hT
      clear hT
      go_cut [] (fun wx => ∃ g5 cap5 gi W, PK W0 W0.heap.size x m n w8.heap.size g3 b t T (.slice (some ⟨g5, 0, none⟩) 3 cap5) gi W ∧ wx = W.setCell ⟨w8.heap.size, 0, none⟩ (.slice (some ⟨g5, 0, none⟩) 3 cap5))
      case first =>
        obtain ⟨i0, hi0, hz0, hz1, hz2⟩ := info_parts info60
        have hfd := field51
        rw [show (#[{ dst := some 94, op := Go.Op.fieldAddr 51 (Go.Operand.tmp 15) 0, type := 0, pos := "law.go:126", after := #[], guard := none }, { dst := some 95, op := Go.Op.load 49 (Go.Operand.tmp 94), type := 49, pos := "law.go:126", after := #[{ on := 0, ground := Go.Ground.data }], guard := none }, { dst := some 96, op := Go.Op.move (Go.Operand.tmp 12), type := 9, pos := "law.go:126", after := #[], guard := none }, { dst := some 97, op := Go.Op.move (Go.Operand.tmp 13), type := 3, pos := "law.go:126", after := #[], guard := none }, { dst := some 98, op := Go.Op.move (Go.Operand.tmp 14), type := 3, pos := "law.go:126", after := #[], guard := none }, { dst := some 99, op := Go.Op.slice 9 (Go.Operand.tmp 96) (some (Go.Operand.tmp 97)) (some (Go.Operand.tmp 98)) none, type := 9, pos := "law.go:126", after := #[{ on := 2, ground := Go.Ground.data }, { on := 3, ground := Go.Ground.data }, { on := 4, ground := Go.Ground.data }], guard := none }, { dst := some 100, op := Go.Op.call { callee := Go.Callee.value (Go.Operand.func 29), args := #[Go.Operand.const (Go.Value.int Go.IntKind.i64 15), Go.Operand.const (Go.Value.int Go.IntKind.i64 0), Go.Operand.tmp 99], argTypes := #[3, 3, 9] }, type := 51, pos := "law.go:126", after := #[{ on := 5, ground := Go.Ground.data }], guard := none }, { dst := some 101, op := Go.Op.field 51 (Go.Operand.tmp 100) 0, type := 49, pos := "law.go:126", after := #[{ on := 6, ground := Go.Ground.data }], guard := none }, { dst := some 102, op := Go.Op.indexAddr 49 (Go.Operand.tmp 101) (Go.Operand.const (Go.Value.int Go.IntKind.i64 0)), type := 0, pos := "law.go:126", after := #[{ on := 7, ground := Go.Ground.data }], guard := none }, { dst := some 103, op := Go.Op.load 60 (Go.Operand.tmp 102), type := 60, pos := "law.go:126", after := #[{ on := 8, ground := Go.Ground.data }], guard := none }, { dst := some 104, op := Go.Op.buildSlice 57 2 #[(0, Go.Operand.const (Go.Value.int Go.IntKind.i64 0)), (1, Go.Operand.const (Go.Value.int Go.IntKind.i64 1))], type := 57, pos := "law.go:126", after := #[], guard := none }, { dst := some 105, op := Go.Op.build 60 #[(0, Go.Operand.const (Go.Value.int Go.IntKind.i64 11)), (6, Go.Operand.tmp 104)], type := 60, pos := "law.go:126", after := #[{ on := 10, ground := Go.Ground.data }], guard := none }, { dst := some 106, op := Go.Op.buildSlice 49 2 #[(0, Go.Operand.tmp 103), (1, Go.Operand.tmp 105)], type := 49, pos := "law.go:126", after := #[{ on := 9, ground := Go.Ground.data }, { on := 11, ground := Go.Ground.data }], guard := none }, { dst := some 107, op := Go.Op.call { callee := Go.Callee.builtin Go.Builtin.append, args := #[Go.Operand.tmp 95, Go.Operand.tmp 106], argTypes := #[49, 49] }, type := 49, pos := "law.go:126", after := #[{ on := 1, ground := Go.Ground.data }, { on := 12, ground := Go.Ground.data }, { on := 6, ground := Go.Ground.chain }], guard := none }, { dst := some 108, op := Go.Op.fieldAddr 51 (Go.Operand.tmp 15) 0, type := 0, pos := "law.go:126", after := #[{ on := 0, ground := Go.Ground.phase }, { on := 1, ground := Go.Ground.phase }, { on := 2, ground := Go.Ground.phase }, { on := 3, ground := Go.Ground.phase }, { on := 4, ground := Go.Ground.phase }, { on := 5, ground := Go.Ground.phase }, { on := 6, ground := Go.Ground.phase }, { on := 7, ground := Go.Ground.phase }, { on := 8, ground := Go.Ground.phase }, { on := 9, ground := Go.Ground.phase }, { on := 10, ground := Go.Ground.phase }, { on := 11, ground := Go.Ground.phase }, { on := 12, ground := Go.Ground.phase }, { on := 13, ground := Go.Ground.phase }], guard := none }, { dst := none, op := Go.Op.store 49 (Go.Operand.tmp 108) (Go.Operand.tmp 107), type := 0, pos := "law.go:126", after := #[{ on := 14, ground := Go.Ground.data }, { on := 13, ground := Go.Ground.data }, { on := 13, ground := Go.Ground.chain }, { on := 0, ground := Go.Ground.phase }, { on := 1, ground := Go.Ground.phase }, { on := 2, ground := Go.Ground.phase }, { on := 3, ground := Go.Ground.phase }, { on := 4, ground := Go.Ground.phase }, { on := 5, ground := Go.Ground.phase }, { on := 6, ground := Go.Ground.phase }, { on := 7, ground := Go.Ground.phase }, { on := 8, ground := Go.Ground.phase }, { on := 9, ground := Go.Ground.phase }, { on := 10, ground := Go.Ground.phase }, { on := 11, ground := Go.Ground.phase }, { on := 12, ground := Go.Ground.phase }, { on := 13, ground := Go.Ground.phase }], guard := none }] : Array Oper) = Array.push #[{ dst := some 94, op := Go.Op.fieldAddr 51 (Go.Operand.tmp 15) 0, type := 0, pos := "law.go:126", after := #[], guard := none }, { dst := some 95, op := Go.Op.load 49 (Go.Operand.tmp 94), type := 49, pos := "law.go:126", after := #[{ on := 0, ground := Go.Ground.data }], guard := none }, { dst := some 96, op := Go.Op.move (Go.Operand.tmp 12), type := 9, pos := "law.go:126", after := #[], guard := none }, { dst := some 97, op := Go.Op.move (Go.Operand.tmp 13), type := 3, pos := "law.go:126", after := #[], guard := none }, { dst := some 98, op := Go.Op.move (Go.Operand.tmp 14), type := 3, pos := "law.go:126", after := #[], guard := none }, { dst := some 99, op := Go.Op.slice 9 (Go.Operand.tmp 96) (some (Go.Operand.tmp 97)) (some (Go.Operand.tmp 98)) none, type := 9, pos := "law.go:126", after := #[{ on := 2, ground := Go.Ground.data }, { on := 3, ground := Go.Ground.data }, { on := 4, ground := Go.Ground.data }], guard := none }, { dst := some 100, op := Go.Op.call { callee := Go.Callee.value (Go.Operand.func 29), args := #[Go.Operand.const (Go.Value.int Go.IntKind.i64 15), Go.Operand.const (Go.Value.int Go.IntKind.i64 0), Go.Operand.tmp 99], argTypes := #[3, 3, 9] }, type := 51, pos := "law.go:126", after := #[{ on := 5, ground := Go.Ground.data }], guard := none }, { dst := some 101, op := Go.Op.field 51 (Go.Operand.tmp 100) 0, type := 49, pos := "law.go:126", after := #[{ on := 6, ground := Go.Ground.data }], guard := none }, { dst := some 102, op := Go.Op.indexAddr 49 (Go.Operand.tmp 101) (Go.Operand.const (Go.Value.int Go.IntKind.i64 0)), type := 0, pos := "law.go:126", after := #[{ on := 7, ground := Go.Ground.data }], guard := none }, { dst := some 103, op := Go.Op.load 60 (Go.Operand.tmp 102), type := 60, pos := "law.go:126", after := #[{ on := 8, ground := Go.Ground.data }], guard := none }, { dst := some 104, op := Go.Op.buildSlice 57 2 #[(0, Go.Operand.const (Go.Value.int Go.IntKind.i64 0)), (1, Go.Operand.const (Go.Value.int Go.IntKind.i64 1))], type := 57, pos := "law.go:126", after := #[], guard := none }, { dst := some 105, op := Go.Op.build 60 #[(0, Go.Operand.const (Go.Value.int Go.IntKind.i64 11)), (6, Go.Operand.tmp 104)], type := 60, pos := "law.go:126", after := #[{ on := 10, ground := Go.Ground.data }], guard := none }, { dst := some 106, op := Go.Op.buildSlice 49 2 #[(0, Go.Operand.tmp 103), (1, Go.Operand.tmp 105)], type := 49, pos := "law.go:126", after := #[{ on := 9, ground := Go.Ground.data }, { on := 11, ground := Go.Ground.data }], guard := none }, { dst := some 107, op := Go.Op.call { callee := Go.Callee.builtin Go.Builtin.append, args := #[Go.Operand.tmp 95, Go.Operand.tmp 106], argTypes := #[49, 49] }, type := 49, pos := "law.go:126", after := #[{ on := 1, ground := Go.Ground.data }, { on := 12, ground := Go.Ground.data }, { on := 6, ground := Go.Ground.chain }], guard := none }, { dst := some 108, op := Go.Op.fieldAddr 51 (Go.Operand.tmp 15) 0, type := 0, pos := "law.go:126", after := #[{ on := 0, ground := Go.Ground.phase }, { on := 1, ground := Go.Ground.phase }, { on := 2, ground := Go.Ground.phase }, { on := 3, ground := Go.Ground.phase }, { on := 4, ground := Go.Ground.phase }, { on := 5, ground := Go.Ground.phase }, { on := 6, ground := Go.Ground.phase }, { on := 7, ground := Go.Ground.phase }, { on := 8, ground := Go.Ground.phase }, { on := 9, ground := Go.Ground.phase }, { on := 10, ground := Go.Ground.phase }, { on := 11, ground := Go.Ground.phase }, { on := 12, ground := Go.Ground.phase }, { on := 13, ground := Go.Ground.phase }], guard := none }] { dst := none, op := Go.Op.store 49 (Go.Operand.tmp 108) (Go.Operand.tmp 107), type := 0, pos := "law.go:126", after := #[{ on := 14, ground := Go.Ground.data }, { on := 13, ground := Go.Ground.data }, { on := 13, ground := Go.Ground.chain }, { on := 0, ground := Go.Ground.phase }, { on := 1, ground := Go.Ground.phase }, { on := 2, ground := Go.Ground.phase }, { on := 3, ground := Go.Ground.phase }, { on := 4, ground := Go.Ground.phase }, { on := 5, ground := Go.Ground.phase }, { on := 6, ground := Go.Ground.phase }, { on := 7, ground := Go.Ground.phase }, { on := 8, ground := Go.Ground.phase }, { on := 9, ground := Go.Ground.phase }, { on := 10, ground := Go.Ground.phase }, { on := 11, ground := Go.Ground.phase }, { on := 12, ground := Go.Ground.phase }, { on := 13, ground := Go.Ground.phase }], guard := none } from rfl]
        refine wp_region_last (S := fun w' => w'.cell? ⟨w8.heap.size, 0, none⟩ = some (.slice (some ⟨g3, 0, none⟩) 1 1)) (by kernel_rfl) (by kernel_rfl) q0 (fun hHeld => ?_)
        refine wpAnyH_take (i := 0) (oi := { dst := some 94, op := Go.Op.fieldAddr 51 (Go.Operand.tmp 15) 0, type := 0, pos := "law.go:126", after := #[], guard := none }) (v := ?v11) rfl (by kernel_rfl) (by kernel_rfl) (by kernel_rfl) (fun _ _ _ h => h) (Or.inl ⟨by rfl, ?hy11⟩) (by assumption) ?rest11
        case hy11 =>
          intro w hSw
          (try dsimp only at hSw)
          go_simp
          try with_reducible rfl
        try simp only [Act.put, List.setIfInBounds_toArray, List.set_cons_zero, List.set_cons_succ]
        refine wpAnyH_take (i := 1) (oi := { dst := some 95, op := Go.Op.load 49 (Go.Operand.tmp 94), type := 49, pos := "law.go:126", after := #[{ on := 0, ground := Go.Ground.data }], guard := none }) (v := ?v12) rfl (by kernel_rfl) (by kernel_rfl) (by kernel_rfl) (fun _ _ _ h => h) (Or.inl ⟨by rfl, ?hy12⟩) (by assumption) ?rest12
        case hy12 =>
          intro w hSw
          (try dsimp only at hSw)
          go_simp
          try with_reducible rfl
        try simp only [Act.put, List.setIfInBounds_toArray, List.set_cons_zero, List.set_cons_succ]
        refine wpAnyH_take (i := 2) (oi := { dst := some 96, op := Go.Op.move (Go.Operand.tmp 12), type := 9, pos := "law.go:126", after := #[], guard := none }) (v := ?v13) rfl (by kernel_rfl) (by kernel_rfl) (by kernel_rfl) (fun _ _ _ h => h) (Or.inl ⟨by rfl, ?hy13⟩) (by assumption) ?rest13
        case hy13 =>
          intro w hSw
          (try dsimp only at hSw)
          go_simp
          try with_reducible rfl
        try simp only [Act.put, List.setIfInBounds_toArray, List.set_cons_zero, List.set_cons_succ]
        refine wpAnyH_take (i := 3) (oi := { dst := some 97, op := Go.Op.move (Go.Operand.tmp 13), type := 3, pos := "law.go:126", after := #[], guard := none }) (v := ?v14) rfl (by kernel_rfl) (by kernel_rfl) (by kernel_rfl) (fun _ _ _ h => h) (Or.inl ⟨by rfl, ?hy14⟩) (by assumption) ?rest14
        case hy14 =>
          intro w hSw
          (try dsimp only at hSw)
          go_simp
          try with_reducible rfl
        try simp only [Act.put, List.setIfInBounds_toArray, List.set_cons_zero, List.set_cons_succ]
        refine wpAnyH_take (i := 4) (oi := { dst := some 98, op := Go.Op.move (Go.Operand.tmp 14), type := 3, pos := "law.go:126", after := #[], guard := none }) (v := ?v15) rfl (by kernel_rfl) (by kernel_rfl) (by kernel_rfl) (fun _ _ _ h => h) (Or.inl ⟨by rfl, ?hy15⟩) (by assumption) ?rest15
        case hy15 =>
          intro w hSw
          (try dsimp only at hSw)
          go_simp
          try with_reducible rfl
        try simp only [Act.put, List.setIfInBounds_toArray, List.set_cons_zero, List.set_cons_succ]
        refine wpAnyH_take (i := 5) (oi := { dst := some 99, op := Go.Op.slice 9 (Go.Operand.tmp 96) (some (Go.Operand.tmp 97)) (some (Go.Operand.tmp 98)) none, type := 9, pos := "law.go:126", after := #[{ on := 2, ground := Go.Ground.data }, { on := 3, ground := Go.Ground.data }, { on := 4, ground := Go.Ground.data }], guard := none }) (v := ?v16) rfl (by kernel_rfl) (by kernel_rfl) (by kernel_rfl) (fun _ _ _ h => h) (Or.inl ⟨by rfl, ?hy16⟩) (by assumption) ?rest16
        case hy16 =>
          intro w hSw
          (try dsimp only at hSw)
          go_simp
          try with_reducible rfl
        try simp only [Act.put, List.setIfInBounds_toArray, List.set_cons_zero, List.set_cons_succ]
        refine wpAnyH_ready (rs := [6, 10]) (by kernel_rfl) (by simp) ?_
        refine AllReadyH.cons (o := { dst := some 100, op := Go.Op.call { callee := Go.Callee.value (Go.Operand.func 29), args := #[Go.Operand.const (Go.Value.int Go.IntKind.i64 15), Go.Operand.const (Go.Value.int Go.IntKind.i64 0), Go.Operand.tmp 99], argTypes := #[3, 3, 9] }, type := 51, pos := "law.go:126", after := #[{ on := 5, ground := Go.Ground.data }], guard := none }) rfl (fun K hK => ?_) ?_
        · go_simp
          go_at_call 29
          with_reducible refine (cond_any2 _ _ _ _).mono ?_
          rintro e w9 ⟨g4, rfl, hg4, n4, b9⟩
          have hR9 := (by first | exact RK.step hR b9 | exact RK.step (RK.alloc hR _) b9 : RK W0 W0.heap.size x m n w8.heap.size g3 b t w9)
          have q1 := hR9.q
          clear hg4
          refine hK.out _ _ ?_ (fun hHeld => ?_)
          · exact q1
          · clear hK K
            try simp only [Act.put, List.setIfInBounds_toArray, List.set_cons_zero, List.set_cons_succ]
            refine wpAnyH_take (i := 7) (oi := { dst := some 101, op := Go.Op.field 51 (Go.Operand.tmp 100) 0, type := 49, pos := "law.go:126", after := #[{ on := 6, ground := Go.Ground.data }], guard := none }) (v := ?v1) rfl (by kernel_rfl) (by kernel_rfl) (by kernel_rfl) (fun _ _ _ h => h) (Or.inl ⟨by rfl, ?hy1⟩) (by assumption) ?rest1
            case hy1 =>
              intro w hSw
              (try dsimp only at hSw)
              go_simp
              try with_reducible rfl
            try simp only [Act.put, List.setIfInBounds_toArray, List.set_cons_zero, List.set_cons_succ]
            refine wpAnyH_take (i := 8) (oi := { dst := some 102, op := Go.Op.indexAddr 49 (Go.Operand.tmp 101) (Go.Operand.const (Go.Value.int Go.IntKind.i64 0)), type := 0, pos := "law.go:126", after := #[{ on := 7, ground := Go.Ground.data }], guard := none }) (v := ?v2) rfl (by kernel_rfl) (by kernel_rfl) (by kernel_rfl) (fun _ _ _ h => h) (Or.inl ⟨by rfl, ?hy2⟩) (by assumption) ?rest2
            case hy2 =>
              intro w hSw
              (try dsimp only at hSw)
              go_simp
              try with_reducible rfl
            try simp only [Act.put, List.setIfInBounds_toArray, List.set_cons_zero, List.set_cons_succ]
            refine wpAnyH_ready (rs := [9, 10]) (by kernel_rfl) (by simp) ?_
            refine AllReadyH.cons (o := { dst := some 103, op := Go.Op.load 60 (Go.Operand.tmp 102), type := 60, pos := "law.go:126", after := #[{ on := 8, ground := Go.Ground.data }], guard := none }) rfl (fun K hK => ?_) ?_
            · rw [if_pos (by rfl)]
              refine wp_load_mid 60 (Operand.tmp 102) rfl g4 0 rfl [.int .i64 15, .string host, .int .i64 0, .int .i64 0, .int .i64 0, .int .i64 2, .int .i64 0, .string T, .int .i64 0, .int .i64 0, .int .i64 0, .int .i64 0, .int .i64 0, .int .i64 0, .int .i64 0, .int .i64 0, .slice none 0 0, .slice none 0 0, .slice none 0 0] _ ?hr und60 (by rfl) size60 ?_
              case hr => first | exact range19 n4 | exact range19 (Blk.alloc n4 _)
              simp only [Act.put, List.setIfInBounds_toArray, List.set_cons_zero, List.set_cons_succ]
              refine hK.out _ _ ?_ (fun hHeld => ?_)
              · first | assumption | (try dsimp only); go_keep
              · clear hK K
                try simp only [Act.put, List.setIfInBounds_toArray, List.set_cons_zero, List.set_cons_succ]
                refine wpAnyH_ready (rs := [10]) (by kernel_rfl) (by simp) ?_
                refine AllReadyH.cons (o := { dst := some 104, op := Go.Op.buildSlice 57 2 #[(0, Go.Operand.const (Go.Value.int Go.IntKind.i64 0)), (1, Go.Operand.const (Go.Value.int Go.IntKind.i64 1))], type := 57, pos := "law.go:126", after := #[], guard := none }) rfl (fun K hK => ?_) ?_
                · go_simp
                  refine hK.out _ _ ?_ (fun hHeld => ?_)
                  · first | assumption | (try dsimp only); go_keep
                  · clear hK K
                    try simp only [Act.put, List.setIfInBounds_toArray, List.set_cons_zero, List.set_cons_succ]
                    refine wpAnyH_take (i := 11) (oi := { dst := some 105, op := Go.Op.build 60 #[(0, Go.Operand.const (Go.Value.int Go.IntKind.i64 11)), (6, Go.Operand.tmp 104)], type := 60, pos := "law.go:126", after := #[{ on := 10, ground := Go.Ground.data }], guard := none }) (v := ?v3) rfl (by kernel_rfl) (by kernel_rfl) (by kernel_rfl) (fun _ _ _ h => h) (Or.inl ⟨by rfl, ?hy3⟩) (by assumption) ?rest3
                    case hy3 =>
                      intro w hSw
                      (try dsimp only at hSw)
                      go_simp
                      try with_reducible rfl
                    try simp only [Act.put, List.setIfInBounds_toArray, List.set_cons_zero, List.set_cons_succ]
                    refine wpAnyH_ready (rs := [12]) (by kernel_rfl) (by simp) ?_
                    refine AllReadyH.cons (o := { dst := some 106, op := Go.Op.buildSlice 49 2 #[(0, Go.Operand.tmp 103), (1, Go.Operand.tmp 105)], type := 49, pos := "law.go:126", after := #[{ on := 9, ground := Go.Ground.data }, { on := 11, ground := Go.Ground.data }], guard := none }) rfl (fun K hK => ?_) ?_
                    · go_simp
                      refine hK.out _ _ ?_ (fun hHeld => ?_)
                      · first | assumption | (try dsimp only); go_keep
                      · clear hK K
                        try simp only [Act.put, List.setIfInBounds_toArray, List.set_cons_zero, List.set_cons_succ]
                        refine wpAnyH_ready (rs := [13]) (by kernel_rfl) (by simp) ?_
                        refine AllReadyH.cons (o := { dst := some 107, op := Go.Op.call { callee := Go.Callee.builtin Go.Builtin.append, args := #[Go.Operand.tmp 95, Go.Operand.tmp 106], argTypes := #[49, 49] }, type := 49, pos := "law.go:126", after := #[{ on := 1, ground := Go.Ground.data }, { on := 12, ground := Go.Ground.data }, { on := 6, ground := Go.Ground.chain }], guard := none }) rfl (fun K hK => ?_) ?_
                        · refine step_append_lies _ (by rfl) _ _ _ (by rfl) W0.heap.size 60 i0 _ 19 216 (by kernel_rfl) hi0 hz0 hz1 hz2 (by rfl) (by decide) _ 1 (nodesL [condN 14 1 t]) (by rfl) (RK.own (RK.alloc (RK.alloc hR9 _) _)) ⟨w9.heap.size + 1, 0, none⟩ 2 2 (nodesL (twoN T w9.heap.size)) (by rfl) (by rfl) (news_at _ _ (World.size_alloc _ _) _ _) (one_at _ _) (by decide) (by decide) (by decide) (RK.alloc (RK.alloc hR9 _) _).below.size _ rfl ?_
                          intro g5 cap5 w10 ho5 hgr5 hat5 hlt5
                          have hP := Lib.hid (show ∃ gi, PK W0 W0.heap.size x m n w8.heap.size g3 b t T (.slice (some ⟨g5, 0, none⟩) (1 + 2) cap5) gi w10 from ⟨_, PK.of (RK.alloc (RK.alloc hR9 _) _) ((Blk.new w9 3 _).alloc _) (Nat.le_refl _) ho5 hgr5⟩)
                          have qb := hP.out.choose_spec.box.cell 0
                          have fb := hP.out.choose_spec.box.free 0
                          clear ho5 hgr5 hat5 hlt5
                          refine hK.out _ _ ?_ (fun hHeld => ?_)
                          · exact qb
                          · clear hK K
                            try simp only [Act.put, List.setIfInBounds_toArray, List.set_cons_zero, List.set_cons_succ]
                            refine wpAnyH_take (i := 14) (oi := { dst := some 108, op := Go.Op.fieldAddr 51 (Go.Operand.tmp 15) 0, type := 0, pos := "law.go:126", after := #[{ on := 0, ground := Go.Ground.phase }, { on := 1, ground := Go.Ground.phase }, { on := 2, ground := Go.Ground.phase }, { on := 3, ground := Go.Ground.phase }, { on := 4, ground := Go.Ground.phase }, { on := 5, ground := Go.Ground.phase }, { on := 6, ground := Go.Ground.phase }, { on := 7, ground := Go.Ground.phase }, { on := 8, ground := Go.Ground.phase }, { on := 9, ground := Go.Ground.phase }, { on := 10, ground := Go.Ground.phase }, { on := 11, ground := Go.Ground.phase }, { on := 12, ground := Go.Ground.phase }, { on := 13, ground := Go.Ground.phase }], guard := none }) (v := ?v4) rfl (by kernel_rfl) (by kernel_rfl) (by kernel_rfl) (fun _ _ _ h => h) (Or.inl ⟨by rfl, ?hy4⟩) (by assumption) ?rest4
                            case hy4 =>
                              intro w hSw
                              (try dsimp only at hSw)
                              go_simp
                              try with_reducible rfl
                            try simp only [Act.put, List.setIfInBounds_toArray, List.set_cons_zero, List.set_cons_succ]
                            refine wpAnyH_done (by kernel_rfl) ?_ _
                            refine then_step (fun K hK => ?_)
                            go_simp
                            refine hK.out _ _ ?_
                            clear hK K
                            obtain ⟨gi, hPK⟩ := hP.out
                            have HPK := Lib.hid hPK
                            clear hPK
                            go_wp2_with fail
                            go_meet
                            exact ⟨_, _, _, _, HPK.out, rfl⟩
                        exact AllReadyH.nil
                    exact AllReadyH.nil
                exact AllReadyH.nil
            refine AllReadyH.cons (o := { dst := some 104, op := Go.Op.buildSlice 57 2 #[(0, Go.Operand.const (Go.Value.int Go.IntKind.i64 0)), (1, Go.Operand.const (Go.Value.int Go.IntKind.i64 1))], type := 57, pos := "law.go:126", after := #[], guard := none }) rfl (fun K hK => ?_) ?_
            · go_simp
              refine hK.out _ _ ?_ (fun hHeld => ?_)
              · first | assumption | (try dsimp only); go_keep
              · clear hK K
                try simp only [Act.put, List.setIfInBounds_toArray, List.set_cons_zero, List.set_cons_succ]
                refine wpAnyH_take (i := 11) (oi := { dst := some 105, op := Go.Op.build 60 #[(0, Go.Operand.const (Go.Value.int Go.IntKind.i64 11)), (6, Go.Operand.tmp 104)], type := 60, pos := "law.go:126", after := #[{ on := 10, ground := Go.Ground.data }], guard := none }) (v := ?v5) rfl (by kernel_rfl) (by kernel_rfl) (by kernel_rfl) (fun _ _ _ h => h) (Or.inl ⟨by rfl, ?hy5⟩) (by assumption) ?rest5
                case hy5 =>
                  intro w hSw
                  (try dsimp only at hSw)
                  go_simp
                  try with_reducible rfl
                try simp only [Act.put, List.setIfInBounds_toArray, List.set_cons_zero, List.set_cons_succ]
                refine wpAnyH_ready (rs := [9]) (by kernel_rfl) (by simp) ?_
                refine AllReadyH.cons (o := { dst := some 103, op := Go.Op.load 60 (Go.Operand.tmp 102), type := 60, pos := "law.go:126", after := #[{ on := 8, ground := Go.Ground.data }], guard := none }) rfl (fun K hK => ?_) ?_
                · rw [if_pos (by rfl)]
                  refine wp_load_mid 60 (Operand.tmp 102) rfl g4 0 rfl [.int .i64 15, .string host, .int .i64 0, .int .i64 0, .int .i64 0, .int .i64 2, .int .i64 0, .string T, .int .i64 0, .int .i64 0, .int .i64 0, .int .i64 0, .int .i64 0, .int .i64 0, .int .i64 0, .int .i64 0, .slice none 0 0, .slice none 0 0, .slice none 0 0] _ ?hr und60 (by rfl) size60 ?_
                  case hr => first | exact range19 n4 | exact range19 (Blk.alloc n4 _)
                  simp only [Act.put, List.setIfInBounds_toArray, List.set_cons_zero, List.set_cons_succ]
                  refine hK.out _ _ ?_ (fun hHeld => ?_)
                  · first | assumption | (try dsimp only); go_keep
                  · clear hK K
                    try simp only [Act.put, List.setIfInBounds_toArray, List.set_cons_zero, List.set_cons_succ]
                    refine wpAnyH_ready (rs := [12]) (by kernel_rfl) (by simp) ?_
                    refine AllReadyH.cons (o := { dst := some 106, op := Go.Op.buildSlice 49 2 #[(0, Go.Operand.tmp 103), (1, Go.Operand.tmp 105)], type := 49, pos := "law.go:126", after := #[{ on := 9, ground := Go.Ground.data }, { on := 11, ground := Go.Ground.data }], guard := none }) rfl (fun K hK => ?_) ?_
                    · go_simp
                      refine hK.out _ _ ?_ (fun hHeld => ?_)
                      · first | assumption | (try dsimp only); go_keep
                      · clear hK K
                        try simp only [Act.put, List.setIfInBounds_toArray, List.set_cons_zero, List.set_cons_succ]
                        refine wpAnyH_ready (rs := [13]) (by kernel_rfl) (by simp) ?_
                        refine AllReadyH.cons (o := { dst := some 107, op := Go.Op.call { callee := Go.Callee.builtin Go.Builtin.append, args := #[Go.Operand.tmp 95, Go.Operand.tmp 106], argTypes := #[49, 49] }, type := 49, pos := "law.go:126", after := #[{ on := 1, ground := Go.Ground.data }, { on := 12, ground := Go.Ground.data }, { on := 6, ground := Go.Ground.chain }], guard := none }) rfl (fun K hK => ?_) ?_
                        · refine step_append_lies _ (by rfl) _ _ _ (by rfl) W0.heap.size 60 i0 _ 19 216 (by kernel_rfl) hi0 hz0 hz1 hz2 (by rfl) (by decide) _ 1 (nodesL [condN 14 1 t]) (by rfl) (RK.own (RK.alloc (RK.alloc hR9 _) _)) ⟨w9.heap.size + 1, 0, none⟩ 2 2 (nodesL (twoN T w9.heap.size)) (by rfl) (by rfl) (news_at _ _ (World.size_alloc _ _) _ _) (one_at _ _) (by decide) (by decide) (by decide) (RK.alloc (RK.alloc hR9 _) _).below.size _ rfl ?_
                          intro g5 cap5 w10 ho5 hgr5 hat5 hlt5
                          have hP := Lib.hid (show ∃ gi, PK W0 W0.heap.size x m n w8.heap.size g3 b t T (.slice (some ⟨g5, 0, none⟩) (1 + 2) cap5) gi w10 from ⟨_, PK.of (RK.alloc (RK.alloc hR9 _) _) ((Blk.new w9 3 _).alloc _) (Nat.le_refl _) ho5 hgr5⟩)
                          have qb := hP.out.choose_spec.box.cell 0
                          have fb := hP.out.choose_spec.box.free 0
                          clear ho5 hgr5 hat5 hlt5
                          refine hK.out _ _ ?_ (fun hHeld => ?_)
                          · exact qb
                          · clear hK K
                            try simp only [Act.put, List.setIfInBounds_toArray, List.set_cons_zero, List.set_cons_succ]
                            refine wpAnyH_take (i := 14) (oi := { dst := some 108, op := Go.Op.fieldAddr 51 (Go.Operand.tmp 15) 0, type := 0, pos := "law.go:126", after := #[{ on := 0, ground := Go.Ground.phase }, { on := 1, ground := Go.Ground.phase }, { on := 2, ground := Go.Ground.phase }, { on := 3, ground := Go.Ground.phase }, { on := 4, ground := Go.Ground.phase }, { on := 5, ground := Go.Ground.phase }, { on := 6, ground := Go.Ground.phase }, { on := 7, ground := Go.Ground.phase }, { on := 8, ground := Go.Ground.phase }, { on := 9, ground := Go.Ground.phase }, { on := 10, ground := Go.Ground.phase }, { on := 11, ground := Go.Ground.phase }, { on := 12, ground := Go.Ground.phase }, { on := 13, ground := Go.Ground.phase }], guard := none }) (v := ?v6) rfl (by kernel_rfl) (by kernel_rfl) (by kernel_rfl) (fun _ _ _ h => h) (Or.inl ⟨by rfl, ?hy6⟩) (by assumption) ?rest6
                            case hy6 =>
                              intro w hSw
                              (try dsimp only at hSw)
                              go_simp
                              try with_reducible rfl
                            try simp only [Act.put, List.setIfInBounds_toArray, List.set_cons_zero, List.set_cons_succ]
                            refine wpAnyH_done (by kernel_rfl) ?_ _
                            refine then_step (fun K hK => ?_)
                            go_simp
                            refine hK.out _ _ ?_
                            clear hK K
                            obtain ⟨gi, hPK⟩ := hP.out
                            have HPK := Lib.hid hPK
                            clear hPK
                            go_wp2_with fail
                            go_meet
                            exact ⟨_, _, _, _, HPK.out, rfl⟩
                        exact AllReadyH.nil
                    exact AllReadyH.nil
                exact AllReadyH.nil
            exact AllReadyH.nil
        refine AllReadyH.cons (o := { dst := some 104, op := Go.Op.buildSlice 57 2 #[(0, Go.Operand.const (Go.Value.int Go.IntKind.i64 0)), (1, Go.Operand.const (Go.Value.int Go.IntKind.i64 1))], type := 57, pos := "law.go:126", after := #[], guard := none }) rfl (fun K hK => ?_) ?_
        · go_simp
          refine hK.out _ _ ?_ (fun hHeld => ?_)
          · first | assumption | (try dsimp only); go_keep
          · clear hK K
            try simp only [Act.put, List.setIfInBounds_toArray, List.set_cons_zero, List.set_cons_succ]
            refine wpAnyH_take (i := 11) (oi := { dst := some 105, op := Go.Op.build 60 #[(0, Go.Operand.const (Go.Value.int Go.IntKind.i64 11)), (6, Go.Operand.tmp 104)], type := 60, pos := "law.go:126", after := #[{ on := 10, ground := Go.Ground.data }], guard := none }) (v := ?v7) rfl (by kernel_rfl) (by kernel_rfl) (by kernel_rfl) (fun _ _ _ h => h) (Or.inl ⟨by rfl, ?hy7⟩) (by assumption) ?rest7
            case hy7 =>
              intro w hSw
              (try dsimp only at hSw)
              go_simp
              try with_reducible rfl
            try simp only [Act.put, List.setIfInBounds_toArray, List.set_cons_zero, List.set_cons_succ]
            refine wpAnyH_ready (rs := [6]) (by kernel_rfl) (by simp) ?_
            refine AllReadyH.cons (o := { dst := some 100, op := Go.Op.call { callee := Go.Callee.value (Go.Operand.func 29), args := #[Go.Operand.const (Go.Value.int Go.IntKind.i64 15), Go.Operand.const (Go.Value.int Go.IntKind.i64 0), Go.Operand.tmp 99], argTypes := #[3, 3, 9] }, type := 51, pos := "law.go:126", after := #[{ on := 5, ground := Go.Ground.data }], guard := none }) rfl (fun K hK => ?_) ?_
            · go_simp
              go_at_call 29
              with_reducible refine (cond_any2 _ _ _ _).mono ?_
              rintro e w9 ⟨g4, rfl, hg4, n4, b9⟩
              have hR9 := (by first | exact RK.step hR b9 | exact RK.step (RK.alloc hR _) b9 : RK W0 W0.heap.size x m n w8.heap.size g3 b t w9)
              have q1 := hR9.q
              clear hg4
              refine hK.out _ _ ?_ (fun hHeld => ?_)
              · exact q1
              · clear hK K
                try simp only [Act.put, List.setIfInBounds_toArray, List.set_cons_zero, List.set_cons_succ]
                refine wpAnyH_take (i := 7) (oi := { dst := some 101, op := Go.Op.field 51 (Go.Operand.tmp 100) 0, type := 49, pos := "law.go:126", after := #[{ on := 6, ground := Go.Ground.data }], guard := none }) (v := ?v8) rfl (by kernel_rfl) (by kernel_rfl) (by kernel_rfl) (fun _ _ _ h => h) (Or.inl ⟨by rfl, ?hy8⟩) (by assumption) ?rest8
                case hy8 =>
                  intro w hSw
                  (try dsimp only at hSw)
                  go_simp
                  try with_reducible rfl
                try simp only [Act.put, List.setIfInBounds_toArray, List.set_cons_zero, List.set_cons_succ]
                refine wpAnyH_take (i := 8) (oi := { dst := some 102, op := Go.Op.indexAddr 49 (Go.Operand.tmp 101) (Go.Operand.const (Go.Value.int Go.IntKind.i64 0)), type := 0, pos := "law.go:126", after := #[{ on := 7, ground := Go.Ground.data }], guard := none }) (v := ?v9) rfl (by kernel_rfl) (by kernel_rfl) (by kernel_rfl) (fun _ _ _ h => h) (Or.inl ⟨by rfl, ?hy9⟩) (by assumption) ?rest9
                case hy9 =>
                  intro w hSw
                  (try dsimp only at hSw)
                  go_simp
                  try with_reducible rfl
                try simp only [Act.put, List.setIfInBounds_toArray, List.set_cons_zero, List.set_cons_succ]
                refine wpAnyH_ready (rs := [9]) (by kernel_rfl) (by simp) ?_
                refine AllReadyH.cons (o := { dst := some 103, op := Go.Op.load 60 (Go.Operand.tmp 102), type := 60, pos := "law.go:126", after := #[{ on := 8, ground := Go.Ground.data }], guard := none }) rfl (fun K hK => ?_) ?_
                · rw [if_pos (by rfl)]
                  refine wp_load_mid 60 (Operand.tmp 102) rfl g4 0 rfl [.int .i64 15, .string host, .int .i64 0, .int .i64 0, .int .i64 0, .int .i64 2, .int .i64 0, .string T, .int .i64 0, .int .i64 0, .int .i64 0, .int .i64 0, .int .i64 0, .int .i64 0, .int .i64 0, .int .i64 0, .slice none 0 0, .slice none 0 0, .slice none 0 0] _ ?hr und60 (by rfl) size60 ?_
                  case hr => first | exact range19 n4 | exact range19 (Blk.alloc n4 _)
                  simp only [Act.put, List.setIfInBounds_toArray, List.set_cons_zero, List.set_cons_succ]
                  refine hK.out _ _ ?_ (fun hHeld => ?_)
                  · first | assumption | (try dsimp only); go_keep
                  · clear hK K
                    try simp only [Act.put, List.setIfInBounds_toArray, List.set_cons_zero, List.set_cons_succ]
                    refine wpAnyH_ready (rs := [12]) (by kernel_rfl) (by simp) ?_
                    refine AllReadyH.cons (o := { dst := some 106, op := Go.Op.buildSlice 49 2 #[(0, Go.Operand.tmp 103), (1, Go.Operand.tmp 105)], type := 49, pos := "law.go:126", after := #[{ on := 9, ground := Go.Ground.data }, { on := 11, ground := Go.Ground.data }], guard := none }) rfl (fun K hK => ?_) ?_
                    · go_simp
                      refine hK.out _ _ ?_ (fun hHeld => ?_)
                      · first | assumption | (try dsimp only); go_keep
                      · clear hK K
                        try simp only [Act.put, List.setIfInBounds_toArray, List.set_cons_zero, List.set_cons_succ]
                        refine wpAnyH_ready (rs := [13]) (by kernel_rfl) (by simp) ?_
                        refine AllReadyH.cons (o := { dst := some 107, op := Go.Op.call { callee := Go.Callee.builtin Go.Builtin.append, args := #[Go.Operand.tmp 95, Go.Operand.tmp 106], argTypes := #[49, 49] }, type := 49, pos := "law.go:126", after := #[{ on := 1, ground := Go.Ground.data }, { on := 12, ground := Go.Ground.data }, { on := 6, ground := Go.Ground.chain }], guard := none }) rfl (fun K hK => ?_) ?_
                        · refine step_append_lies _ (by rfl) _ _ _ (by rfl) W0.heap.size 60 i0 _ 19 216 (by kernel_rfl) hi0 hz0 hz1 hz2 (by rfl) (by decide) _ 1 (nodesL [condN 14 1 t]) (by rfl) (RK.own (RK.alloc hR9 _)) ⟨w9.heap.size, 0, none⟩ 2 2 (nodesL (twoN T (w8.heap.size + 1))) (by rfl) (by rfl) (news_at _ _ rfl _ _) (one_at _ _) (by decide) (by decide) (by decide) (RK.alloc hR9 _).below.size _ rfl ?_
                          intro g5 cap5 w10 ho5 hgr5 hat5 hlt5
                          have hP := Lib.hid (show ∃ gi, PK W0 W0.heap.size x m n w8.heap.size g3 b t T (.slice (some ⟨g5, 0, none⟩) (1 + 2) cap5) gi w10 from ⟨_, PK.of (RK.alloc hR9 _) ((hI9.keptB b9).alloc _) (Nat.le_refl _) ho5 hgr5⟩)
                          have qb := hP.out.choose_spec.box.cell 0
                          have fb := hP.out.choose_spec.box.free 0
                          clear ho5 hgr5 hat5 hlt5
                          refine hK.out _ _ ?_ (fun hHeld => ?_)
                          · exact qb
                          · clear hK K
                            try simp only [Act.put, List.setIfInBounds_toArray, List.set_cons_zero, List.set_cons_succ]
                            refine wpAnyH_take (i := 14) (oi := { dst := some 108, op := Go.Op.fieldAddr 51 (Go.Operand.tmp 15) 0, type := 0, pos := "law.go:126", after := #[{ on := 0, ground := Go.Ground.phase }, { on := 1, ground := Go.Ground.phase }, { on := 2, ground := Go.Ground.phase }, { on := 3, ground := Go.Ground.phase }, { on := 4, ground := Go.Ground.phase }, { on := 5, ground := Go.Ground.phase }, { on := 6, ground := Go.Ground.phase }, { on := 7, ground := Go.Ground.phase }, { on := 8, ground := Go.Ground.phase }, { on := 9, ground := Go.Ground.phase }, { on := 10, ground := Go.Ground.phase }, { on := 11, ground := Go.Ground.phase }, { on := 12, ground := Go.Ground.phase }, { on := 13, ground := Go.Ground.phase }], guard := none }) (v := ?v10) rfl (by kernel_rfl) (by kernel_rfl) (by kernel_rfl) (fun _ _ _ h => h) (Or.inl ⟨by rfl, ?hy10⟩) (by assumption) ?rest10
                            case hy10 =>
                              intro w hSw
                              (try dsimp only at hSw)
                              go_simp
                              try with_reducible rfl
                            try simp only [Act.put, List.setIfInBounds_toArray, List.set_cons_zero, List.set_cons_succ]
                            refine wpAnyH_done (by kernel_rfl) ?_ _
                            refine then_step (fun K hK => ?_)
                            go_simp
                            refine hK.out _ _ ?_
                            clear hK K
                            obtain ⟨gi, hPK⟩ := hP.out
                            have HPK := Lib.hid hPK
                            clear hPK
                            go_wp2_with fail
                            go_meet
                            exact ⟨_, _, _, _, HPK.out, rfl⟩
                        exact AllReadyH.nil
                    exact AllReadyH.nil
                exact AllReadyH.nil
            exact AllReadyH.nil
        exact AllReadyH.nil
      case rest =>
        obtain ⟨g5, cap5, gi, W, hPK, hwc⟩ := hcut
        have hts' : T.size ≤ 140737488351232 := by
          rw [HT.out, size_cut _ _ _ (by omega)]
          omega
        have hF := PK.fin hPK (Nat.le_trans B8.out.size (Nat.le_refl _)) hts hts'
        rw [← hwc] at hF
        have HM3 := Lib.hid (may3 (gi := gi) HWB.out HT.out (by omega) HIN.out)
        have HF := Lib.hid hF
        clear hF hwc hPK hts'
        have cb := HF.out.2.1.cell 0
        go_wp2_with fail
        refine (might_loop (l := [condN 14 1 t, condN 15 0 T, pand gi]) (i := 0) HF.out.1 HF.out.2.2.1 (show 0 < 3 by decide) HF.out.2.2.2.1 (show 3 ≤ 140737488355328 by decide)).mono ?_
        rintro e wa ⟨rfl, ba⟩
        rw [HM3.out.1]
        have cb := keepv ba cb
        have ia := HF.out.1.below ba
        have na := HF.out.2.2.1.below ba
        have Ba := Lib.hid (chain' HF.out.2.2.2.2 ba)
        clear ba
        go_wp2_with fail
        refine (might_loop (l := [condN 14 1 t, condN 15 0 T, pand gi]) (i := 1) ia na (show 1 < 3 by decide) HF.out.2.2.2.1 (show 3 ≤ 140737488355328 by decide)).mono ?_
        rintro e wb ⟨rfl, bb⟩
        rw [HM3.out.2.1]
        have cb := keepv bb cb
        have ib := ia.below bb
        have nb := na.below bb
        have Bb := Lib.hid (chain' Ba.out bb)
        clear bb
        go_wp2_with fail
        refine (might_loop (l := [condN 14 1 t, condN 15 0 T, pand gi]) (i := 2) ib nb (show 2 < 3 by decide) HF.out.2.2.2.1 (show 3 ≤ 140737488355328 by decide)).mono ?_
        rintro e wd ⟨rfl, bd⟩
        rw [HM3.out.2.2]
        have Bd := Lib.hid (chain' Bb.out bd)
        clear bd
        go_wp2_with fail
        exact bodyPost_ret (results_tmp rfl _ _ _) rfl ⟨rfl, chain' HB.out Bd.out⟩
end Go.Proofs.Ytlddpcbbhglibaa
