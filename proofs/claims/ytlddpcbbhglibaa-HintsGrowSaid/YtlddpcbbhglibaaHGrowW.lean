/- HintsGrow: the walk. -/
import Derived.Test.YtlddpcbbhglibaaHGrowP
import Derived.Test.YtlddpcbbhglibaaLast
import Derived.Deep.CutBlock
namespace Go.Proofs.Ytlddpcbbhglibaa
open Go.RowKit Bits
set_option maxHeartbeats 0
attribute [local go_sem] World.cell?_alloc_some
attribute [local go_sem] run_eq24

set_option maxRecDepth 100000 in
theorem grow_any {w : World} {al bl : List ByteArray} {aa ba qa : Option Addr} {ac bc qc : Nat} {l : List NodeV} (hma : HIs w aa al) (hmb : HIs w ba bl) (hq : QIs w qa l)
    (hla : al.length ≤ 140737488351232) (hlb : bl.length ≤ 140737488351232) (hlq : l.length ≤ 140737488351232) (hcap : l.length ≤ qc) (hqc : qc ≤ 9223372036854775807) :
    Calls Try.prog 9 #[.slice aa al.length ac, .slice ba bl.length bc, .agg #[.slice qa l.length qc]] w fun e w' => e = .returned (.bool true) ∧ Below w.heap.size w w' := by
  have HA := Lib.hid hma
  have HB := Lib.hid hmb
  have HQ := Lib.hid hq
  obtain ⟨W0, hW0⟩ : ∃ W0, W0 = w.alloc (.cells #[.slice qa l.length qc] 51) := ⟨_, rfl⟩
  have HB0 := Lib.hid (show Below w.heap.size w W0 by rw [hW0]; exact (Below.refl _ _).alloc (Nat.le_refl _) _)
  have HX0 := Lib.hid (show Blk W0 w.heap.size 51 #[.slice qa l.length qc] by rw [hW0]; exact Blk.new w 51 _)
  have HW := Lib.hid hW0
  clear hma hmb hq
  go_enter Try.func9, Try.ntmps9
  go_wp2_with fail
  rw [show w.alloc (.cells #[.slice qa l.length qc] 51) = W0 from HW.out.symm]
  clear hW0
  refine (hshown_any _).mono ?_
  rintro e w1 ⟨rfl, b1⟩
  have B1 := Lib.hid (chain' HB0.out b1)
  have X1 := Lib.hid (HX0.out.keptB b1)
  clear b1
  go_wp2_with fail
  refine (new_any _).mono ?_
  rintro e w2 ⟨x, m, n, rfl, i2, hm, hn, hx, b2⟩
  have I2 := Lib.hid i2
  have B2 := Lib.hid (chain' B1.out b2)
  have X2 := Lib.hid (X1.out.keptB b2)
  clear i2 b2
  go_wp2_with fail
  refine (new_any _).mono ?_
  rintro e w3 ⟨y, m2, n2, rfl, i3, hm2, hn2, hy, b3⟩
  have HG := Lib.hid (show GR w w.heap.size (.slice qa l.length qc) x m n y m2 n2 none none w3 from ⟨I2.out.below b3, i3, X2.out.keptB b3, chain' B2.out b3⟩)
  have lx := X1.out.lt
  have hmm : w.heap.size ≤ m := Nat.le_trans B1.out.size hm
  have hnn : w.heap.size ≤ n := Nat.le_trans B1.out.size hn
  have hmm2 : w.heap.size ≤ m2 := Nat.le_trans B2.out.size hm2
  have hnn2 : w.heap.size ≤ n2 := Nat.le_trans B2.out.size hn2
  have l1 := I2.out.m_lt
  have l2 := I2.out.n_lt
  have l0 := I2.out.at_.lt
  have A1 := Lib.hid (show Apart m n y m2 n2 from ⟨by omega, by omega, by omega, by omega⟩)
  have A2 := Lib.hid (show Apart m2 n2 x m n from ⟨by omega, by omega, by omega, by omega⟩)
  have F1 := Lib.hid (show w.heap.size ≠ x ∧ w.heap.size ≠ m ∧ w.heap.size ≠ n from ⟨by omega, by omega, by omega⟩)
  have F2 := Lib.hid (show w.heap.size ≠ y ∧ w.heap.size ≠ m2 ∧ w.heap.size ≠ n2 from ⟨by omega, by omega, by omega⟩)
  clear i3 b3 l1 l2 hm hn hx hm2 hn2 hy lx l0
  have c0 : w3.cell? ⟨w.heap.size, 0, none⟩ = some (.slice qa l.length qc) := HG.out.box.cell 0
  have f0 := HG.out.box.free 0
  go_upto_if 32 with (fail)
  go_cut [] (fun wx => ∃ l2 : List NodeV, l2.length ≤ 140737488351232 ∧ l2.length ≤ qc ∧ QIs w qa l2 ∧ GR w w.heap.size (.slice qa l2.length qc) x m n y m2 n2 none none wx)
  case first =>
    by_cases h100 : 100 < l.length
    · have q1 : (100 : Int) < (l.length : Int) := by omega
      have q2 : decide ((100 : Int) < (l.length : Int)) = true := decide_eq_true q1
      have q3 : (100 : Int) ≤ (qc : Int) := by omega
      go_wp2_with fail
      go_meet
      have hl : (l.take 100).length = 100 := by rw [List.length_take]; omega
      exact ⟨l.take 100, by omega, by omega, HQ.out.take 100, by rw [hl]; exact HG.out.put F1.out F2.out (Nat.le_refl _) _⟩
    · have q1 : ¬ (100 : Int) < (l.length : Int) := by omega
      have q2 : decide ((100 : Int) < (l.length : Int)) = false := decide_eq_false q1
      go_wp2_with fail
      go_meet
      exact ⟨l, hlq, hcap, HQ.out, HG.out⟩
  case rest =>
  obtain ⟨l2, hl2, hc2, hq2, hg⟩ := hcut
  have HQ2 := Lib.hid hq2
  have HG2 := Lib.hid hg
  clear hq2 hg HG HQ c0 f0 HX0 HW B1 X1 I2 B2 X2
  obtain ⟨N, hNe⟩ : ∃ N, N = min al.length 40 := ⟨_, rfl⟩
  have hN40 : N ≤ 40 := by omega
  have hNl : N ≤ al.length := by omega
  have HNE := Lib.hid hNe
  clear hNe
  go_upto_block 0 with (fail)
  go_cut [10] (fun _ wx => GR w w.heap.size (.slice qa l2.length qc) x m n y m2 n2 (gA al N) none wx)
  case first =>
    go_wp2_with fail
    go_loopg [10] (N + 2) (fun gk c wr => ∃ i : Nat, i ≤ N ∧ N < i + gk ∧ c = .int .i64 (i : Int) ∧ GR w w.heap.size (.slice qa l2.length qc) x m n y m2 n2 (gA al i) none wr)
    case atStart => exact ⟨0, by omega, by omega, rfl, HG2.out⟩
    case round =>
      obtain ⟨i, hi, hgk, rfl, hS0⟩ := hrel
      clear HG2
      by_cases hiN : i < N
      · obtain ⟨a, t, rfl, hgd, hc0, ht0⟩ := HA.out.get (i := i) (by omega)
        have HC := Lib.hid hc0
        have HT := Lib.hid ht0
        have k1 : (i : Int) < (al.length : Int) := by omega
        have k2 : decide ((i : Int) < (al.length : Int)) = true := decide_eq_true k1
        have k3 : decide (i < al.length) = true := decide_eq_true (by omega)
        have k6 : (i : Int) < 40 := by omega
        have k7 : decide ((i : Int) < 40) = true := decide_eq_true k6
        have k4 : (0 : Int) ≤ (i : Int) := by omega
        have v1 : IntKind.i64.wrap ((i : Int) + 1) = (i : Int) + 1 := IntWalk.i64_in _ (by omega)
        have HN := Lib.hid (show gA al (i + 1) = some (layB (gA al i) (wB t)) by rw [gA, hgd])
        have hS : GR w w.heap.size (.slice qa l2.length qc) x m n y m2 n2 (gA al i) none wr.drew := hS0.step (Below.refl _ _).drew
        clear hgd hS0 hc0 ht0
        go_wp2_with fail
        go_region_held3 (fun w' => w'.cell? (a.add i) = some (.string t))
          (first | exact GR.host (by assumption) HC.out | go_keep)
          (first
            | (go_at_call 24; (with_reducible refine (load_any _).mono ?_); rintro e w1 ⟨g1, g2, rfl, hc1, hc2, hb1⟩; have hS := GR.step (by assumption) hb1; clear hb1)
            | (go_at_call 25; (with_reducible refine (point_any _ _).mono ?_); rintro e w2 ⟨h1, h2, rfl, hv1, hv2, hb2⟩; have hP := Parts.mk (hc1.keptB hb2) (hc2.keptB hb2) hv1 hv2; have hS := GR.step (by assumption) hb2; clear hb2 hc1 hc2 hv1 hv2)
            | (go_at_call 23; (with_reducible refine (add_any HT.out (GR.ix (by assumption)) hP).mono ?_); rintro e w3 ⟨rfl, hi3, hk3⟩; have hS := GR.addx (by assumption) A1.out hmm hnn hi3 hk3; clear hi3 hk3))
        have HS := Lib.hid hS
        clear hS
        go_wp2_with fail
        go_roundg (N - i)
        case measure => omega
        case rel => exact ⟨i + 1, by omega, by omega, by go_num, by rw [HN.out]; exact HS.out⟩
      · obtain rfl : i = N := by omega
        have HSJ := Lib.hid hS0
        clear hS0
        by_cases hl : i < al.length
        · have k1 : (i : Int) < (al.length : Int) := by omega
          have k2 : decide ((i : Int) < (al.length : Int)) = true := decide_eq_true k1
          have k3 : decide (i < al.length) = true := decide_eq_true (by omega)
          have e40 : i = 40 := by have := HNE.out; omega
          have k6 : ¬ (i : Int) < 40 := by omega
          have k7 : decide ((i : Int) < 40) = false := decide_eq_false k6
          clear e40
          go_wp2_with fail
          go_meet
          exact HSJ.out
        · have k1 : ¬ (i : Int) < (al.length : Int) := by omega
          have k2 : decide ((i : Int) < (al.length : Int)) = false := decide_eq_false k1
          have k3 : decide (i < al.length) = false := decide_eq_false (by omega)
          go_wp2_with fail
          go_meet
          exact HSJ.out
  case rest =>
  have HG3 := Lib.hid hcut
  clear hcut HG2
  obtain ⟨M, hMe⟩ : ∃ M, M = min bl.length 40 := ⟨_, rfl⟩
  have hM40 : M ≤ 40 := by omega
  have hMl : M ≤ bl.length := by omega
  have HME := Lib.hid hMe
  clear hMe
  go_upto_block 2 with (fail)
  go_cut [11] (fun _ wx => GR w w.heap.size (.slice qa l2.length qc) x m n y m2 n2 (gA al N) (gA bl M) wx)
  case first =>
    go_wp2_with fail
    go_loopg [11] (M + 2) (fun gk c wr => ∃ i : Nat, i ≤ M ∧ M < i + gk ∧ c = .int .i64 (i : Int) ∧ GR w w.heap.size (.slice qa l2.length qc) x m n y m2 n2 (gA al N) (gA bl i) wr)
    case atStart => exact ⟨0, by omega, by omega, rfl, HG3.out⟩
    case round =>
      obtain ⟨i, hi, hgk, rfl, hS0⟩ := hrel
      clear HG3
      by_cases hiN : i < M
      · obtain ⟨a, t, rfl, hgd, hc0, ht0⟩ := HB.out.get (i := i) (by omega)
        have HC := Lib.hid hc0
        have HT := Lib.hid ht0
        have k1 : (i : Int) < (bl.length : Int) := by omega
        have k2 : decide ((i : Int) < (bl.length : Int)) = true := decide_eq_true k1
        have k3 : decide (i < bl.length) = true := decide_eq_true (by omega)
        have k6 : (i : Int) < 40 := by omega
        have k7 : decide ((i : Int) < 40) = true := decide_eq_true k6
        have k4 : (0 : Int) ≤ (i : Int) := by omega
        have v1 : IntKind.i64.wrap ((i : Int) + 1) = (i : Int) + 1 := IntWalk.i64_in _ (by omega)
        have HN := Lib.hid (show gA bl (i + 1) = some (layB (gA bl i) (wB t)) by rw [gA, hgd])
        have hS : GR w w.heap.size (.slice qa l2.length qc) x m n y m2 n2 (gA al N) (gA bl i) wr.drew := hS0.step (Below.refl _ _).drew
        clear hgd hS0 hc0 ht0
        go_wp2_with fail
        go_region_held3 (fun w' => w'.cell? (a.add i) = some (.string t))
          (first | exact GR.host (by assumption) HC.out | go_keep)
          (first
            | (go_at_call 24; (with_reducible refine (load_any _).mono ?_); rintro e w1 ⟨g1, g2, rfl, hc1, hc2, hb1⟩; have hS := GR.step (by assumption) hb1; clear hb1)
            | (go_at_call 25; (with_reducible refine (point_any _ _).mono ?_); rintro e w2 ⟨h1, h2, rfl, hv1, hv2, hb2⟩; have hP := Parts.mk (hc1.keptB hb2) (hc2.keptB hb2) hv1 hv2; have hS := GR.step (by assumption) hb2; clear hb2 hc1 hc2 hv1 hv2)
            | (go_at_call 23; (with_reducible refine (add_any HT.out (GR.iy (by assumption)) hP).mono ?_); rintro e w3 ⟨rfl, hi3, hk3⟩; have hS := GR.addy (by assumption) A2.out hmm2 hnn2 hi3 hk3; clear hi3 hk3))
        have HS := Lib.hid hS
        clear hS
        go_wp2_with fail
        go_roundg (M - i)
        case measure => omega
        case rel => exact ⟨i + 1, by omega, by omega, by go_num, by rw [HN.out]; exact HS.out⟩
      · obtain rfl : i = M := by omega
        have HSJ := Lib.hid hS0
        clear hS0
        by_cases hl : i < bl.length
        · have k1 : (i : Int) < (bl.length : Int) := by omega
          have k2 : decide ((i : Int) < (bl.length : Int)) = true := decide_eq_true k1
          have k3 : decide (i < bl.length) = true := decide_eq_true (by omega)
          have e40 : i = 40 := by have := HME.out; omega
          have k6 : ¬ (i : Int) < 40 := by omega
          have k7 : decide ((i : Int) < 40) = false := decide_eq_false k6
          clear e40
          go_wp2_with fail
          go_meet
          exact HSJ.out
        · have k1 : ¬ (i : Int) < (bl.length : Int) := by omega
          have k2 : decide ((i : Int) < (bl.length : Int)) = false := decide_eq_false k1
          have k3 : decide (i < bl.length) = false := decide_eq_false (by omega)
          go_wp2_with fail
          go_meet
          exact HSJ.out
  case rest =>
  have HG4 := Lib.hid hcut
  clear hcut HG3
  go_wp2_with fail
  refine (clone_any HG4.out.ix).mono ?_
  rintro e w5 ⟨u, mu, nu, rfl, i5, hmu, hnu, huu, b5⟩
  have HG5 := Lib.hid (HG4.out.step b5)
  have I5 := Lib.hid i5
  have hmu' : w.heap.size ≤ mu := Nat.le_trans HG4.out.below.size hmu
  have hnu' : w.heap.size ≤ nu := Nat.le_trans HG4.out.below.size hnu
  have z1 := HG4.out.ix.m_lt
  have z2 := HG4.out.ix.n_lt
  have z3 := HG4.out.iy.m_lt
  have z4 := HG4.out.iy.n_lt
  have z5 := i5.m_lt
  have z6 := i5.n_lt
  clear i5 b5
  go_wp2_with fail
  refine (clone_any HG5.out.iy).mono ?_
  rintro e w6 ⟨v, mv, nv, rfl, i6, hmv, hnv, hvv, b6⟩
  have hmv' : w.heap.size ≤ mv := Nat.le_trans HG5.out.below.size hmv
  have hnv' : w.heap.size ≤ nv := Nat.le_trans HG5.out.below.size hnv
  have z7 := HG5.out.ix.m_lt
  have z8 := HG5.out.ix.n_lt
  have z9 := HG5.out.iy.m_lt
  have za := HG5.out.iy.n_lt
  have AUX := Lib.hid (show Apart mu nu x m n from ⟨by omega, by omega, by omega, by omega⟩)
  have AUY := Lib.hid (show Apart mu nu y m2 n2 from ⟨by omega, by omega, by omega, by omega⟩)
  have AUV := Lib.hid (show Apart mu nu v mv nv from ⟨by omega, by omega, by omega, by omega⟩)
  have AVX := Lib.hid (show Apart mv nv x m n from ⟨by omega, by omega, by omega, by omega⟩)
  have AVY := Lib.hid (show Apart mv nv y m2 n2 from ⟨by omega, by omega, by omega, by omega⟩)
  have AVU := Lib.hid (show Apart mv nv u mu nu from ⟨by omega, by omega, by omega, by omega⟩)
  have HG6 := Lib.hid (show G4 w w.heap.size (.slice qa l2.length qc) x m n y m2 n2 u mu nu v mv nv (gA al N) (gA bl M) (gA al N) (gA bl M) w6 from ⟨HG5.out.ix.below b6, HG5.out.iy.below b6, I5.out.below b6, i6, HG5.out.box.keptB b6, chain' HG5.out.below b6⟩)
  clear i6 b6 z1 z2 z3 z4 z5 z6 z7 z8 z9 za hmu hnu hmv hnv huu hvv
  go_wp2_with fail
  refine (joinK HG6.out.iu HG6.out.iy AUY.out).mono ?_
  rintro e w7 ⟨rfl, i7, k7⟩
  have HG7 := Lib.hid (HG6.out.joinu AUX.out AUY.out AUV.out hmu' hnu' i7 k7)
  clear i7 k7
  go_wp2_with fail
  refine (joinK HG7.out.iv HG7.out.ix AVX.out).mono ?_
  rintro e w8 ⟨rfl, i8, k8⟩
  have HG8 := Lib.hid (HG7.out.joinv AVX.out AVY.out AVU.out hmv' hnv' i8 k8)
  clear i8 k8
  rw [joinSt_comm (gA bl M) (gA al N)] at HG8
  obtain ⟨U, hU⟩ : ∃ U, U = joinSt (gA al N) (gA bl M) := ⟨_, rfl⟩
  rw [← hU] at HG8
  have hwa := wf_gA al N
  have hwb := wf_gA bl M
  have hwu : ∀ b, U = some b → WF b := by rw [hU]; exact wf_joinSt hwa hwb
  have HMX := Lib.hid (fun (i : Nat) (h : mgt (gA al N) l2 i = true) => (by rw [hU]; exact mgt_left hwa hwb l2 i h : mgt U l2 i = true))
  have HMY := Lib.hid (fun (i : Nat) (h : mgt (gA bl M) l2 i = true) => (by rw [hU, joinSt_comm]; exact mgt_left hwb hwa l2 i h : mgt U l2 i = true))
  have HUS := Lib.hid (show U.isSome = (decide (0 < al.length) || decide (0 < bl.length)) by
    have n1 := HNE.out
    have n2 := HME.out
    rw [hU, joinSt_some, gA_some, gA_some]
    congr 1 <;> (rw [decide_eq_decide]; omega))
  clear hU hwa hwb hwu HG7 HG6 HG5 HG4 AUX AUY AUV AVX AVY AVU I5 A1 A2 F1 F2 HA HB HNE HME hN40 hNl hM40 hMl hmm hnn hmm2 hnn2 hmu' hnu' hmv' hnv'
  generalize gA al N = sx at *
  generalize gA bl M = sy at *
  have r1 : ((false : Bool) != false) = false := rfl
  have r2 : ((true : Bool) != true) = false := rfl
  go_wp2_with fail
  go_loopg [14] (l2.length + 2) (fun gk c wr => ∃ i : Nat, i ≤ l2.length ∧ l2.length < i + gk ∧ c = .int .i64 (i : Int) ∧ G4 w w.heap.size (.slice qa l2.length qc) x m n y m2 n2 u mu nu v mv nv sx sy U U wr)
  case atStart => exact ⟨0, by omega, by omega, rfl, HG8.out⟩
  case round =>
    obtain ⟨i, hi, hgk, rfl, hS0⟩ := hrel
    clear HG8
    have HG0 := Lib.hid hS0
    have c0 : wr.cell? ⟨w.heap.size, 0, none⟩ = some (.slice qa l2.length qc) := HG0.out.box.cell 0
    clear hS0
    by_cases hil : i < l2.length
    · obtain ⟨g, o, rfl, hn⟩ := HQ2.out.get hil
      have HN := Lib.hid hn
      clear hn
      have k1 : (i : Int) < (l2.length : Int) := by omega
      have k2 : decide ((i : Int) < (l2.length : Int)) = true := decide_eq_true k1
      have k3 : decide (i < l2.length) = true := decide_eq_true hil
      have v1 : IntKind.i64.wrap ((i : Int) + 1) = (i : Int) + 1 := IntWalk.i64_in _ (by omega)
      obtain ⟨p, hp⟩ : ∃ p, mgt U l2 i = p := ⟨_, rfl⟩
      obtain ⟨px, hpx⟩ : ∃ p, mgt sx l2 i = p := ⟨_, rfl⟩
      obtain ⟨py, hpy⟩ : ∃ p, mgt sy l2 i = p := ⟨_, rfl⟩
      have ix : px = true → p = true := fun h => by rw [← hp]; exact HMX.out i (hpx.trans h)
      have iy : py = true → p = true := fun h => by rw [← hp]; exact HMY.out i (hpy.trans h)
      have PU := Lib.hid hp
      have PX := Lib.hid hpx
      have PY := Lib.hid hpy
      clear hp hpx hpy
      cases p <;> cases px <;> cases py <;> first | (exfalso; simp at ix; done) | (exfalso; simp at iy; done) | skip
      all_goals
        clear ix iy
        go_wp2_with fail
        refine (might_p PU.out HG0.out.iu (HN.out.below HG0.out.below) hil hc2 hl2).mono ?_
        rintro e wr0 ⟨rfl, b⟩
        have HG1 := Lib.hid (HG0.out.step b)
        have c1 : wr0.cell? ⟨w.heap.size, 0, none⟩ = some (.slice (some ⟨g, o, none⟩) l2.length qc) := HG1.out.box.cell 0
        clear b
        go_wp2_with fail
        refine (might_p PU.out HG1.out.iv (HN.out.below HG1.out.below) hil hc2 hl2).mono ?_
        rintro e wr1 ⟨rfl, b⟩
        have HG2 := Lib.hid (HG1.out.step b)
        have c2 : wr1.cell? ⟨w.heap.size, 0, none⟩ = some (.slice (some ⟨g, o, none⟩) l2.length qc) := HG2.out.box.cell 0
        clear b
        go_wp2_with fail
        refine (might_p PX.out HG2.out.ix (HN.out.below HG2.out.below) hil hc2 hl2).mono ?_
        rintro e wr2 ⟨rfl, b⟩
        have HG3 := Lib.hid (HG2.out.step b)
        have c3 : wr2.cell? ⟨w.heap.size, 0, none⟩ = some (.slice (some ⟨g, o, none⟩) l2.length qc) := HG3.out.box.cell 0
        clear b
        go_wp2_with fail
        refine (might_p PY.out HG3.out.iy (HN.out.below HG3.out.below) hil hc2 hl2).mono ?_
        rintro e wr3 ⟨rfl, b⟩
        have HG4 := Lib.hid (HG3.out.step b)
        have c4 : wr3.cell? ⟨w.heap.size, 0, none⟩ = some (.slice (some ⟨g, o, none⟩) l2.length qc) := HG4.out.box.cell 0
        clear b
        go_wp2_with fail
        go_roundg (l2.length - i)
        case measure => omega
        case rel => exact ⟨i + 1, by omega, by omega, by go_num, HG4.out⟩
    · obtain rfl : i = l2.length := by omega
      have k1 : ¬ ((l2.length : Int) < (l2.length : Int)) := by omega
      have k2 : decide ((l2.length : Int) < (l2.length : Int)) = false := decide_eq_false k1
      have k3 : decide (l2.length < l2.length) = false := decide_eq_false (by omega)
      clear hi hgk
      go_wp2_with fail
      refine (bits_any HG0.out.iu load host).mono ?_
      rintro e wa ⟨rfl, b⟩
      have HGa := Lib.hid (HG0.out.step b)
      clear b
      rw [bitsV_eq]
      go_wp2_with fail
      refine (bits_any HGa.out.iv load host).mono ?_
      rintro e wb ⟨rfl, b⟩
      have HGb := Lib.hid (HGa.out.step b)
      clear b
      rw [bitsV_eq]
      generalize bitsAt U load host = K
      have hub := HUS.out
      rcases Nat.eq_zero_or_pos al.length with ha | ha <;> rcases Nat.eq_zero_or_pos bl.length with hb | hb
      · rw [show decide (0 < al.length) = false from decide_eq_false (by omega), show decide (0 < bl.length) = false from decide_eq_false (by omega)] at hub
        have HU := Lib.hid (show U.isSome = false from hub)
        have d1 : decide (0 < (al.length : Int)) = false := decide_eq_false (by omega)
        have d2 : decide (0 < (bl.length : Int)) = false := decide_eq_false (by omega)
        have d3 : decide (0 < al.length) = false := decide_eq_false (by omega)
        have d4 : decide (0 < bl.length) = false := decide_eq_false (by omega)
        clear hub ha hb
        go_wp2_with fail
        refine (seen_p HU.out HGb.out.iu).mono ?_
        rintro e wc ⟨rfl, rfl⟩
        go_wp2_with fail
        exact bodyPost_ret (results_tmp rfl _ _ _) rfl ⟨rfl, HGb.out.below⟩
      · rw [show decide (0 < bl.length) = true from decide_eq_true (by omega), Bool.or_true] at hub
        have HU := Lib.hid (show U.isSome = true from hub)
        have d1 : decide (0 < (al.length : Int)) = false := decide_eq_false (by omega)
        have d2 : decide (0 < (bl.length : Int)) = true := decide_eq_true (by omega)
        have d3 : decide (0 < al.length) = false := decide_eq_false (by omega)
        have d4 : decide (0 < bl.length) = true := decide_eq_true (by omega)
        clear hub ha hb
        go_wp2_with fail
        refine (seen_p HU.out HGb.out.iu).mono ?_
        rintro e wc ⟨rfl, rfl⟩
        go_wp2_with fail
        exact bodyPost_ret (results_tmp rfl _ _ _) rfl ⟨rfl, HGb.out.below⟩
      · rw [show decide (0 < al.length) = true from decide_eq_true (by omega), Bool.true_or] at hub
        have HU := Lib.hid (show U.isSome = true from hub)
        have d1 : decide (0 < (al.length : Int)) = true := decide_eq_true (by omega)
        have d2 : decide (0 < (bl.length : Int)) = false := decide_eq_false (by omega)
        have d3 : decide (0 < al.length) = true := decide_eq_true (by omega)
        have d4 : decide (0 < bl.length) = false := decide_eq_false (by omega)
        clear hub ha hb
        go_wp2_with fail
        refine (seen_p HU.out HGb.out.iu).mono ?_
        rintro e wc ⟨rfl, rfl⟩
        go_wp2_with fail
        exact bodyPost_ret (results_tmp rfl _ _ _) rfl ⟨rfl, HGb.out.below⟩
      · rw [show decide (0 < al.length) = true from decide_eq_true (by omega), Bool.true_or] at hub
        have HU := Lib.hid (show U.isSome = true from hub)
        have d1 : decide (0 < (al.length : Int)) = true := decide_eq_true (by omega)
        have d2 : decide (0 < (bl.length : Int)) = true := decide_eq_true (by omega)
        have d3 : decide (0 < al.length) = true := decide_eq_true (by omega)
        have d4 : decide (0 < bl.length) = true := decide_eq_true (by omega)
        clear hub ha hb
        go_wp2_with fail
        refine (seen_p HU.out HGb.out.iu).mono ?_
        rintro e wc ⟨rfl, rfl⟩
        go_wp2_with fail
        exact bodyPost_ret (results_tmp rfl _ _ _) rfl ⟨rfl, HGb.out.below⟩
end Go.Proofs.Ytlddpcbbhglibaa
