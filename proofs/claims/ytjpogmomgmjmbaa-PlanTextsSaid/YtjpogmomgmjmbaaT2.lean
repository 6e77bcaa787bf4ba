/- The walk of the reference's Split. -/
import Derived.Test.YtjpogmomgmjmbaaT1
import Derived.Test.YtjpogmomgmjmbaaN26
/-! The walk of the reference's Split. -/
namespace Go.Proofs.Ytjpogmomgmjmbaa
open Go.RowKit LexS ParS BigFrame
set_option maxHeartbeats 8000000
set_option linter.unusedVariables false
set_option linter.unusedSimpArgs false
attribute [local go_sem] World.cell?_alloc_some cell_drewN_new free_drewN_new cell_drew_new free_drew_new

theorem two_start (W : World) (a b : Array Value) : Below W.heap.size W ((W.alloc (.cells a 25)).alloc (.cells b 31)) ∧ Blk ((W.alloc (.cells a 25)).alloc (.cells b 31)) W.heap.size 25 a ∧ Blk ((W.alloc (.cells a 25)).alloc (.cells b 31)) (W.heap.size + 1) 31 b ∧ ((W.alloc (.cells a 25)).alloc (.cells b 31)).heap.size = W.heap.size + 2 := by
  have e1 : (W.alloc (.cells a 25)).heap.size = W.heap.size + 1 := World.size_alloc _ _
  refine ⟨((Below.refl _ _).alloc (Nat.le_refl _) _).alloc (by rw [e1]; omega) _, (Blk.new _ _ _).alloc _, ?_, by rw [World.size_alloc, e1]⟩
  rw [← e1]
  exact Blk.new _ _ _
theorem RW.last_at {W0 wr : World} {g cap bb ib lg n lc k : Nat} {ns : List Nd} {part : List Int} {lasts : List Nat} {x : Int} (h : RW W0 wr g cap ns bb ib part lasts (.slice (some ⟨lg, 0, none⟩) n lc)) (hx : (lastL lasts)[k]? = some x) : wr.cell? ⟨lg, k, none⟩ = some (.int .i64 x) := by
  obtain ⟨lg', c', h1, h2⟩ := h.last_cell
  injection h1 with e1 e2 e3
  injection e1 with e1
  injection e1 with e1
  subst e1
  exact h2 k x hx
/-- The walk along a part's nodes, as the reference goes. -/
def WalkC (ns : List Nd) (push : Bool) (k : Int) (L : Nat) (final : List Int) (gk : Nat) (c11 : Value) (P : List Int → Prop) : Prop :=
  ∃ (a f : Nat) (e : Bool) (part : List Int), a < ns.length ∧ ns.length ≤ a + f ∧ c11 = .int .i64 (a : Int) ∧ P part ∧ ns.length < a + gk ∧ setAll k (chainP ns push f a e) part = final ∧ lastP ns push f a e = L
set_option maxRecDepth 100000 in
theorem rsplit_any {W : World} {g cap : Nat} {ns : List Nd} {push : Bool} (hn : NR W (.slice (some ⟨g, 0, none⟩) ns.length cap) ns) (hq : QNs ns) (hcap : ns.length ≤ cap) (hs : ns.length ≤ 128) :
    Calls Try.prog 8 #[.agg #[.slice (some ⟨g, 0, none⟩) ns.length cap], .bool push] W (SplitR W (splitParts ns push) (splitRest ns push)) := by
  have HN := Lib.hid hn
  have HQ := Lib.hid hq
  have hpos : 0 < ns.length := List.length_pos_iff.2 hq.tree.ne
  clear hn hq
  go_enter Try.func8, Try.ntmps8
  go_wp2_with fail
  obtain ⟨x1, x2, x3, x4⟩ := two_start W #[.slice (some ⟨g, 0, none⟩) ns.length cap] #[.slice none 0 0, .slice none 0 0]
  generalize World.alloc (World.alloc W _) _ = Ws at x1 x2 x3 x4 ⊢
  have HX := Lib.hid (And.intro x1 (And.intro x2 (And.intro x3 x4)))
  refine (may_any (NR.stay x1 HN.out) HQ.out hcap hs).mono ?_
  clear x1 x2 x3 x4
  rintro e w1 ⟨bb, rfl, hbb, hkb, hb⟩
  have hmk := make_ints w1 hs
  have HM := Lib.hid (And.intro hbb (And.intro hkb hb))
  have c0 : w1.cell? ⟨W.heap.size, 0, none⟩ = some (.slice (some ⟨g, 0, none⟩) ns.length cap) := keepc hb (HX.out.2.1.cell 0)
  clear hbb hkb hb
  go_upto_region 6 with fail
  obtain ⟨ib, hib⟩ : ∃ ib, ib = w1.heap.size := ⟨_, rfl⟩
  have HW := Lib.hid (show RW W ((w1.alloc (.cells (intsL (List.replicate ns.length 0)).toArray 3)).alloc (.cells #[.int .i64 (-1)] 3)) g cap ns bb ib (fetchP ns push 0).1 (fetchP ns push 0).2 (.slice (some ⟨ib + 1, 0, none⟩) 1 1) from by
    have e1 : (w1.alloc (.cells (intsL (List.replicate ns.length 0)).toArray 3)).heap.size = w1.heap.size + 1 := World.size_alloc _ _
    have hb : Below w1.heap.size w1 ((w1.alloc (.cells (intsL (List.replicate ns.length 0)).toArray 3)).alloc (.cells #[.int .i64 (-1)] 3)) := ((Below.refl _ _).alloc (Nat.le_refl _) _).alloc (by rw [e1]; omega) _
    obtain ⟨m1, m2, m3⟩ := HM.out
    have z := HX.out.2.2.2
    refine ⟨HX.out.1.trans ((m3.trans (hb.mono m3.size)).mono (by omega)), HN.out, hcap, (HX.out.2.1.kept m3).kept hb, (HX.out.2.2.1.kept m3).kept hb, m2.kept hb, ?_, ?_, by omega, by rw [hib]; exact m2.lt, by simp [fetchP], hs⟩
    · rw [hib]
      have e : intsZ (up1 (fetchP ns push 0).1) = intsL (List.replicate ns.length 0) := by simp [intsZ, up1, fetchP, intsL]
      rw [e]
      exact (Blk.new _ _ _).alloc _
    · rw [hib]
      refine own_blk (cs := intsZ (lastL [])) ?_ (Nat.le_refl _) (by simp [intsZ, lastL, fetchP]) (by simp [fetchP])
      rw [← e1]
      exact Blk.new _ _ _)
  rw [← hib]
  generalize World.alloc (World.alloc w1 _) _ = w2 at HW ⊢
  clear HM HX hib c0 hmk
  have c0 : w2.cell? ⟨W.heap.size, 0, none⟩ = some (.slice (some ⟨g, 0, none⟩) ns.length cap) := HW.out.qb.cell 0
  go_wp2_with fail
  go_loopg [9, 10] (ns.length + 1) (fun gk c9 c wr => ∃ i : Nat, i ≤ ns.length ∧ ns.length < i + gk ∧ c = .int .i64 (i : Int) ∧ RW W wr g cap ns bb ib (fetchP ns push i).1 (fetchP ns push i).2 c9)
  case atStart => exact ⟨0, Nat.zero_le _, by omega, rfl, HW.out⟩
  case round =>
    obtain ⟨i, hi, hgk, rfl, hrw⟩ := hrel
    clear c0
    have HS1 := Lib.hid hrw
    have c0 : wr.cell? ⟨W.heap.size, 0, none⟩ = some (.slice (some ⟨g, 0, none⟩) ns.length cap) := hrw.qb.cell 0
    have t0 : (0 : Int) ≤ (i : Int) := by omega
    obtain ⟨o9, cp9, rfl⟩ := row_slice hrw.row
    by_cases hlt : i < ns.length
    · obtain ⟨n1, hn1⟩ : ∃ n1, ns[i]? = some n1 := ⟨ns[i], List.getElem?_eq_getElem hlt⟩
      obtain ⟨_, _, _, hnd⟩ := nr_node hrw.nr hn1
      have hck : wr.cell? ⟨g, i * 19, none⟩ = some (.int .i64 (n1.kind : Int)) := hnd.kind
      have t1 : (i : Int) < (ns.length : Int) := by omega
      have t2 : decide ((i : Int) < (ns.length : Int)) = true := decide_eq_true t1
      have w1_ : IntKind.i64.wrap ((i : Int) + 1) = (i : Int) + 1 := IntWalk.i64_in _ (by omega)
      have HK := Lib.hid (kindAt_of hn1)
      clear hrw hn1 hnd
      by_cases hk1 : n1.kind = 1
      · have v1 : ((n1.kind : Int) != 1) = false := by rw [bne_eq_false_iff_eq]; omega
        have v2 : (n1.kind : Int) = 1 := by omega
        have HF := Lib.hid (fetch_yes (push := push) (HK.out.trans hk1))
        have HLL := Lib.hid (show (fetchP ns push i).2.length ≤ 127 from by rw [fetch_snd, List.length_map]; exact Nat.le_trans (fets_le ns i) (by omega))
        clear hk1
        go_wp2_with fail
        refine (ends_any (HS1.out.en HQ.out) hlt).mono ?_
        rintro e w3 ⟨rfl, hb3⟩
        obtain ⟨i0, hi0, hz0, hz1, hz2⟩ := info_parts infoInt
        have HS3 := Lib.hid (HS1.out.kept hb3)
        have HB2 := Lib.hid (show Below w3.heap.size w3 (w3.alloc (.cells #[.int .i64 (lastOf ns push i : Int)] 3)) from (Below.refl _ _).alloc (Nat.le_refl _) _)
        have HS4 := Lib.hid (HS3.out.kept HB2.out)
        have HNW := Lib.hid (show ∀ (j : Nat) u, [Value.int .i64 (lastOf ns push i : Int)][j]? = some u → (w3.alloc (.cells #[.int .i64 (lastOf ns push i : Int)] 3)).cell? ((⟨w3.heap.size, 0, none⟩ : Addr).add j) = some u from fun j u hu => blk_cells (Blk.new w3 3 #[.int .i64 (lastOf ns push i : Int)]) j u (by simpa using hu))
        have HSZ := Lib.hid HS4.out.lu
        clear hb3 c0 hck
        go_wp2_with (at_builtin; refine wpList_append_own _ rfl _ _ _ rfl (ib + 1) 3 i0 _ 1 8 (by kernel_rfl) hi0 hz0 hz1 hz2 rfl (by decide) _ ((fetchP ns push i).2.length + 1) (intsZ (lastL (fetchP ns push i).2)) rfl HS4.out.row ⟨w3.heap.size, 0, none⟩ 1 1 [.int .i64 (lastOf ns push i : Int)] rfl rfl HNW.out (by simp [Value.oneCell']) (by simp only [maxLen]; have := HLL.out; omega) (by have := HLL.out; omega) HSZ.out ?_)
        intro v' w5 ho hgr _
        have HS5 := Lib.hid (show RW W w5 g cap ns bb ib (fetchP ns push i).1 ((fetchP ns push i).2 ++ [lastOf ns push i]) v' from HS4.out.grow hgr (by
          rw [lastL_app, List.length_append, List.length_singleton, intsZ, List.map_append]
          exact ho))
        clear ho hgr
        obtain ⟨lg, lc, rfl, hlcell⟩ := HS5.out.last_cell
        have hlen : ((fetchP ns push i).2 ++ [lastOf ns push i]).length = (fetchP ns push i).2.length + 1 := by simp
        rw [hlen] at HS5 ⊢
        clear hlcell hlen
        generalize hK : (fetchP ns push i).2.length = K at HS5 HLL HF ⊢
        have HKE := Lib.hid hK
        clear hK
        go_wp2_with fail
        go_loopg [11] (ns.length + 1) (fun gk2 c11 wr2 => WalkC ns push (K : Int) (lastOf ns push i) (fetchP ns push (i + 1)).1 gk2 c11 fun part => RW W wr2 g cap ns bb ib part ((fetchP ns push i).2 ++ [lastOf ns push i]) (.slice (some ⟨lg, 0, none⟩) (K + 1 + 1) lc))
        case atStart => exact ⟨i, ns.length, false, (fetchP ns push i).1, hlt, by omega, rfl, HS5.out, by omega, by rw [HF.out]; rfl, rfl⟩
        case round =>
          obtain ⟨a, f, e, part, ha, haf, rfl, hrw, hgk2, hset, hlast⟩ := hrel
          have HS6 := Lib.hid hrw
          obtain ⟨x, hx⟩ : ∃ x, part[a]? = some x := ⟨part[a]'(by rw [hrw.pl]; exact ha), List.getElem?_eq_getElem _⟩
          have c1 := intsZ_get hrw.ki (up1_get hx)
          have f1 := hrw.ki.free a
          have a0 : (0 : Int) ≤ (a : Int) := by omega
          have a1 : (a : Int) < (ns.length : Int) := by omega
          have a2 : decide ((0 : Int) ≤ (a : Int)) = true := decide_eq_true a0
          have hKl := HLL.out
          have w3_ : IntKind.i64.wrap ((K : Int) + 1 + 1 - 1) = (K : Int) + 1 := by rw [IntWalk.i64_in _ (by omega)]; omega
          have HSE := Lib.hid (And.intro hset hlast)
          have HS7 := Lib.hid (hrw.put_in a (K : Int))
          clear hrw hx hset hlast
          go_upto_region 15 with fail
          generalize wr.setCell _ _ = w6 at HS7 ⊢
          clear c1 f1
          have cL : w6.cell? ⟨lg, K + 1, none⟩ = some (.int .i64 (lastOf ns push i : Int)) := HS7.out.last_at (lastL_get (by rw [List.getElem?_append_right (by rw [HKE.out]; exact Nat.le_refl _), HKE.out, Nat.sub_self]; rfl))
          have hstop : ∀ (hh : a = lastOf ns push i), part.set a (K : Int) = (fetchP ns push (i + 1)).1 → Hid (a = lastOf ns push i ∧ RW W w6 g cap ns bb ib (fetchP ns push (i + 1)).1 (fetchP ns push (i + 1)).2 (.slice (some ⟨lg, 0, none⟩) (K + 1 + 1) lc)) := fun hh h2 => Lib.hid ⟨hh, by
            rw [← h2, show (fetchP ns push (i + 1)).2 = (fetchP ns push i).2 ++ [lastOf ns push i] from congrArg Prod.snd HF.out]
            exact HS7.out⟩
          have HST := Lib.hid hstop
          clear hstop
          cases e with
          | true =>
            have HFI := HST.out (by have h2 := HSE.out.2; rw [lastP_true] at h2; exact h2) (by have h1 := HSE.out.1; rw [chain_true] at h1; exact h1)
            have q1 : ((a : Int) == (lastOf ns push i : Int)) = true := by rw [beq_iff_eq, HFI.out.1]
            have q2 : (a : Int) = (lastOf ns push i : Int) := by rw [← HFI.out.1]
            go_wp2_with fail
            go_roundg (ns.length - i)
            case measure => omega
            case rel => exact ⟨i + 1, by omega, by omega, rfl, HFI.out.2⟩
          | false =>
            obtain ⟨f, rfl⟩ : ∃ f', f = f' + 1 := ⟨f - 1, by omega⟩
            rcases hg : goesP ns push a with ⟨on, e⟩
            have HG := Lib.hid hg
            clear hg
            cases on with
            | false =>
              have HFI := HST.out (by have h2 := HSE.out.2; rw [lastP_stop HG.out] at h2; exact h2) (by have h1 := HSE.out.1; rw [chain_stop HG.out] at h1; exact h1)
              have q1 : ((a : Int) == (lastOf ns push i : Int)) = true := by rw [beq_iff_eq, HFI.out.1]
              have q2 : (a : Int) = (lastOf ns push i : Int) := by rw [← HFI.out.1]
              go_wp2_with fail
              go_roundg (ns.length - i)
              case measure => omega
              case rel => exact ⟨i + 1, by omega, by omega, rfl, HFI.out.2⟩
            | true =>
              obtain ⟨y, _, hy, _, _, _, _, hup, hay, hyn⟩ := goes_true HQ.out.tree HG.out
              have HFI := Lib.hid (show setAll (K : Int) (chainP ns push f y e) (part.set a (K : Int)) = (fetchP ns push (i + 1)).1 ∧ lastP ns push f y e = lastOf ns push i from by
                have h1 := HSE.out.1
                have h2 := HSE.out.2
                rw [chain_on HG.out, hup] at h1
                rw [lastP_on HG.out, hup] at h2
                exact ⟨h1, h2⟩)
              have hge := last_ge HQ.out.tree (push := push) (f := f) (e := e) hyn
              rw [HFI.out.2] at hge
              have q1 : ((a : Int) == (lastOf ns push i : Int)) = false := by rw [beq_eq_false_iff_ne]; omega
              have q2 : ¬ (a : Int) = (lastOf ns push i : Int) := by omega
              have cy := intsZ_get HS7.out.kb hy
              clear hy hup
              go_wp2_with fail
              go_roundg (ns.length - a)
              case measure => omega
              case rel => exact ⟨y, f, e, _, hyn, by omega, rfl, HS7.out, by omega, HFI.out.1, HFI.out.2⟩
      · have v1 : ((n1.kind : Int) != 1) = true := by rw [bne_iff_ne]; omega
        have v2 : ¬ (n1.kind : Int) = 1 := by omega
        have HF := Lib.hid (fetch_no (push := push) (i := i) (ns := ns) (by rw [HK.out]; exact hk1))
        clear hk1
        go_wp2_with fail
        go_roundg (ns.length - i)
        case measure => omega
        case rel => exact ⟨i + 1, by omega, by omega, rfl, by rw [HF.out]; exact HS1.out⟩
    · have hin : i = ns.length := by omega
      subst hin
      have t1 : ¬ (ns.length : Int) < (ns.length : Int) := by omega
      have t2 : decide ((ns.length : Int) < (ns.length : Int)) = false := decide_eq_false t1
      have a8 : IntKind.i64.wrap ((ns.length : Int) - 1) = (ns.length : Int) - 1 := IntWalk.i64_in _ (by omega)
      have HC0 := Lib.hid (show condP ns ns.length (fetchP ns push ns.length).1 = partS ns push from rfl)
      have HS1' := Lib.hid (show RW W wr g cap ns bb ib (fetchP ns push ns.length).1 (lastS ns push) (.slice o9 ((lastS ns push).length + 1) cp9) from hrw)
      rw [show (fetchP ns push ns.length).2.length = (lastS ns push).length from rfl]
      clear hrw HS1
      go_wp2_with fail
      go_loopg [12] (ns.length + 1) (fun gk2 c wr2 => ∃ (i : Nat) (part : List Int), i ≤ ns.length ∧ i < gk2 ∧ c = .int .i64 ((i : Int) - 1) ∧ RW W wr2 g cap ns bb ib part (lastS ns push) (.slice o9 ((lastS ns push).length + 1) cp9) ∧ condP ns i part = partS ns push)
      case atStart => exact ⟨ns.length, _, Nat.le_refl _, by omega, rfl, HS1'.out, HC0.out⟩
      case round =>
        obtain ⟨i, part, hi, hgk2, rfl, hrw, hcond⟩ := hrel
        clear c0 a8
        have HS2 := Lib.hid hrw
        have HCO := Lib.hid hcond
        have c0 : wr.cell? ⟨W.heap.size, 0, none⟩ = some (.slice (some ⟨g, 0, none⟩) ns.length cap) := HS2.out.qb.cell 0
        clear hrw hcond
        rcases Nat.eq_zero_or_pos i with rfl | hpos2
        · rw [show (((0 : Nat) : Int) - 1) = (-1 : Int) from rfl]
          have HP := Lib.hid (show part = partS ns push from HCO.out)
          go_upto_region 22 with fail
          obtain ⟨pb, hpb⟩ : ∃ pb, pb = wr.heap.size := ⟨_, rfl⟩
          have HV := Lib.hid (show RV W (wr.alloc (.cells #[.slice none 0 0, .slice none 0 0] 31)) g cap ns push bb ib (.slice o9 ((lastS ns push).length + 1) cp9) pb (.slice none 0 0) (.slice none 0 0) [] 0 from by
            have hb : Below wr.heap.size wr (wr.alloc (.cells #[.slice none 0 0, .slice none 0 0] 31)) := (Below.refl _ _).alloc (Nat.le_refl _) _
            exact ⟨by rw [← HP.out]; exact HS2.out.kept hb, by rw [hpb]; exact Blk.new _ _ _, QRow.nil, by rw [hpb]; exact HS2.out.lu⟩)
          rw [← hpb]
          generalize wr.alloc _ = wp at HV ⊢
          clear hpb c0 HS2 HP HC0 HCO HS1'
          obtain ⟨KN, hKN⟩ : ∃ KN, KN = (lastS ns push).length + 1 := ⟨_, rfl⟩
          have hK9 : KN ≤ 129 := by have : (lastS ns push).length ≤ 128 := by (rw [lasts_len]; exact Nat.le_trans (fets_le ns _) hs)
                                    omega
          rw [← hKN] at HV ⊢
          have HKN := Lib.hid hKN
          clear hKN
          go_wp2_with fail
          go_loopg [14] (KN + 1) (fun gk2 c wr2 => ∃ (k1 k : Nat) (pv : Value) (vs : List Value), k1 = k + 1 ∧ k1 ≤ KN ∧ KN < k1 + gk2 ∧ c = .int .i64 (k1 : Int) ∧ RV W wr2 g cap ns push bb ib (.slice o9 KN cp9) pb pv (.slice none 0 0) vs k)
          case atStart => exact ⟨1, 0, _, _, rfl, by have := HKN.out; omega, by omega, rfl, HV.out⟩
          case round =>
            obtain ⟨k1, k, pv, vs, hkk, hk, hgk2, rfl, hrv⟩ := hrel
            obtain ⟨w3, rfl⟩ : ∃ w3, w3 = wr := ⟨_, rfl⟩
            have HV1 := Lib.hid hrv
            have HKK := Lib.hid hkk
            have t0 : (0 : Int) ≤ (k1 : Int) := by omega
            by_cases hkl : k1 < KN
            · have t1 : (k1 : Int) < (KN : Int) := by omega
              have t2 : decide ((k1 : Int) < (KN : Int)) = true := decide_eq_true t1
              have w4_ : IntKind.i64.wrap ((k1 : Int) + 1) = (k1 : Int) + 1 := IntWalk.i64_in _ (by omega)
              have hkl2 : k < (lastS ns push).length := by have := HKN.out; omega
              have HSP := Lib.hid (splitParts_get (push := push) hkl2)
              have hlk : ((splitParts ns push).take k).length = k := by
                have : (splitParts ns push).length = (lastS ns push).length := by simp [splitParts]
                rw [List.length_take, this]
                omega
              have hrow := hrv.qr.row
              rw [hlk] at hrow
              obtain ⟨o7, cp7, rfl⟩ := row_slice hrow
              have HLK := Lib.hid hlk
              have c0 : w3.cell? ⟨W.heap.size, 0, none⟩ = some (.slice (some ⟨g, 0, none⟩) ns.length cap) := hrv.rw_.qb.cell 0
              have hmk := make_ints (w3.alloc (.cells #[.slice none 0 0] 25)) hs
              have hwz : (w3.alloc (.cells #[.slice none 0 0] 25)).heap.size = w3.heap.size + 1 := World.size_alloc _ _
              rw [hwz] at hmk
              obtain ⟨W1, hW1⟩ : ∃ W1, W1 = (w3.alloc (.cells #[.slice none 0 0] 25)).alloc (.cells (intsL (List.replicate ns.length 0)).toArray 3) := ⟨_, rfl⟩
              rw [← hW1] at hmk
              have HTQ := Lib.hid (show TQ w3 W1 ns.length (List.replicate ns.length 0) [] (.slice none 0 0) from
                ⟨by rw [hW1]; exact ((Below.refl _ _).alloc (Nat.le_refl _) _).alloc (by rw [hwz]; exact Nat.le_succ _) _, by rw [hW1]; exact (Blk.new w3 _ _).alloc _, by rw [hW1, ← hwz]; exact Blk.new _ _ _, by simp, NO.nil⟩)
              clear hrv hrow hlk hkk hW1 hwz
              go_upto_region 27 with fail
              clear hmk c0
              have c0 : W1.cell? ⟨W.heap.size, 0, none⟩ = some (.slice (some ⟨g, 0, none⟩) ns.length cap) := (HV1.out.rw_.qb.kept HTQ.out.low).cell 0
              go_wp2_with fail
              go_loopg [17] (ns.length + 1) (fun gk3 c17 wq => ∃ (i : Nat) (ov : Value), i ≤ ns.length ∧ ns.length < i + gk3 ∧ c17 = .int .i64 (i : Int) ∧ TQ w3 wq ns.length (takeP ns (inPart ns push k) (nodeAt ns) i).1 (takeP ns (inPart ns push k) (nodeAt ns) i).2 ov)
              case atStart => exact ⟨0, _, Nat.zero_le _, by omega, rfl, HTQ.out⟩
              case round =>
                obtain ⟨i, ov, hi, hgk3, rfl, htq⟩ := hrel
                clear c0
                have HT := Lib.hid htq
                have HVq := Lib.hid (HV1.out.kept htq.low)
                have hol : (takeP ns (inPart ns push k) (nodeAt ns) i).2.length ≤ i := take_le ns _ _ i
                obtain ⟨oq, cq, rfl⟩ := htq.out.slice
                have c0 : wr.cell? ⟨W.heap.size, 0, none⟩ = some (.slice (some ⟨g, 0, none⟩) ns.length cap) := HVq.out.rw_.qb.cell 0
                have z0 : (0 : Int) ≤ (i : Int) := by omega
                by_cases hlt : i < ns.length
                · obtain ⟨n1, hn1⟩ : ∃ n1, ns[i]? = some n1 := ⟨ns[i], List.getElem?_eq_getElem hlt⟩
                  have z1 : (i : Int) < (ns.length : Int) := by omega
                  have z2 : decide ((i : Int) < (ns.length : Int)) = true := decide_eq_true z1
                  have w5_ : IntKind.i64.wrap ((i : Int) + 1) = (i : Int) + 1 := IntWalk.i64_in _ (by omega)
                  obtain ⟨x, hx⟩ : ∃ x, (partS ns push)[i]? = some x := ⟨(partS ns push)[i]'(by rw [part_len]; exact hlt), List.getElem?_eq_getElem _⟩
                  have cx := intsZ_get HVq.out.rw_.ki (up1_get hx)
                  have HXP := Lib.hid (partAt_of hx)
                  have HN1 := Lib.hid hn1
                  have HNA := Lib.hid (nodeAt_of hn1)
                  clear htq hx hn1
                  by_cases hxk : x = (k : Int)
                  · have y1 : ((x + 1) == (k1 : Int)) = true := by rw [beq_iff_eq]; have := HKK.out; omega
                    have y2 : x + 1 = (k1 : Int) := by have := HKK.out; omega
                    have HSO := Lib.hid (take_yes (ns := ns) (made := nodeAt ns) (show inPart ns push k i = true by unfold inPart; rw [HXP.out]; exact decide_eq_true hxk))
                    obtain ⟨y0, hy0⟩ : ∃ y, ((takeP ns (inPart ns push k) (nodeAt ns) i).1)[i]? = some y := ⟨_, List.getElem?_eq_getElem (by rw [HT.out.nl]; exact hlt)⟩
                    have d2 : wr.cell? ⟨w3.heap.size + 1, i, none⟩ = some (.int .i64 (y0 : Int)) := by
                      rw [HT.out.nb.cell i]
                      simp [intsL, hy0]
                    have d3 := HT.out.nb.free i
                    have d4 : wr.cell? ⟨w3.heap.size, 0, none⟩ = some (.slice oq (takeP ns (inPart ns push k) (nodeAt ns) i).2.length cq) := HT.out.qb.cell 0
                    have HT4 := Lib.hid (HT.out.put i (takeP ns (inPart ns push k) (nodeAt ns) i).2.length)
                    clear hy0 hxk
                    go_upto_region 32 with fail
                    generalize wr.setCell _ _ = w4 at HT4 ⊢
                    clear d2 d3 d4 c0 cx HVq
                    have HV4 := Lib.hid (HV1.out.kept HT4.out.low)
                    obtain ⟨m, b, hm, hmk2, hmr⟩ := nr_range HV4.out.rw_.nr HN1.out
                    have HME := Lib.hid (And.intro hm hmk2)
                    have c0 : w4.cell? ⟨W.heap.size, 0, none⟩ = some (.slice (some ⟨g, 0, none⟩) ns.length cap) := HV4.out.rw_.qb.cell 0
                    have c4 : w4.cell? ⟨w3.heap.size, 0, none⟩ = some (.slice oq (takeP ns (inPart ns push k) (nodeAt ns) i).2.length cq) := HT4.out.qb.cell 0
                    have HRG := Lib.hid hmr
                    clear hm hmk2 hmr
                    have hgl : g < w3.heap.size := by
                      obtain ⟨_, _, _, hnd⟩ := nr_node HV1.out.rw_.nr HN1.out
                      exact World.block_lt_of_cell? w3 _ hnd.kind
                    rw [show (#[{ dst := some 133, op := Go.Op.fieldAddr 25 (Go.Operand.tmp 15) 0, type := 0, pos := "ref.go:125", after := #[], guard := none }, { dst := some 134, op := Go.Op.load 23 (Go.Operand.tmp 133), type := 23, pos := "ref.go:125", after := #[{ on := 0, ground := Go.Ground.data }], guard := none }, { dst := some 135, op := Go.Op.fieldAddr 25 (Go.Operand.tmp 2) 0, type := 0, pos := "ref.go:125", after := #[], guard := none }, { dst := some 136, op := Go.Op.load 23 (Go.Operand.tmp 135), type := 23, pos := "ref.go:125", after := #[{ on := 2, ground := Go.Ground.data }], guard := none }, { dst := some 137, op := Go.Op.move (Go.Operand.tmp 17), type := 3, pos := "ref.go:125", after := #[], guard := none }, { dst := some 138, op := Go.Op.indexAddr 23 (Go.Operand.tmp 136) (Go.Operand.tmp 137), type := 0, pos := "ref.go:125", after := #[{ on := 3, ground := Go.Ground.data }, { on := 4, ground := Go.Ground.data }], guard := none }, { dst := some 139, op := Go.Op.load 43 (Go.Operand.tmp 138), type := 43, pos := "ref.go:125", after := #[{ on := 5, ground := Go.Ground.data }], guard := none }, { dst := some 140, op := Go.Op.move (Go.Operand.tmp 16), type := 39, pos := "ref.go:125", after := #[], guard := none }, { dst := some 141, op := Go.Op.call { callee := Go.Callee.value (Go.Operand.func 24), args := #[Go.Operand.tmp 139, Go.Operand.tmp 140], argTypes := #[43, 39] }, type := 43, pos := "ref.go:125", after := #[{ on := 6, ground := Go.Ground.data }, { on := 7, ground := Go.Ground.data }], guard := none }, { dst := some 142, op := Go.Op.buildSlice 23 1 #[(0, Go.Operand.tmp 141)], type := 23, pos := "ref.go:125", after := #[{ on := 8, ground := Go.Ground.data }], guard := none }, { dst := some 143, op := Go.Op.call { callee := Go.Callee.builtin Go.Builtin.append, args := #[Go.Operand.tmp 134, Go.Operand.tmp 142], argTypes := #[23, 23] }, type := 23, pos := "ref.go:125", after := #[{ on := 1, ground := Go.Ground.data }, { on := 9, ground := Go.Ground.data }, { on := 8, ground := Go.Ground.chain }], guard := none }, { dst := some 144, op := Go.Op.fieldAddr 25 (Go.Operand.tmp 15) 0, type := 0, pos := "ref.go:125", after := #[{ on := 0, ground := Go.Ground.phase }, { on := 1, ground := Go.Ground.phase }, { on := 2, ground := Go.Ground.phase }, { on := 3, ground := Go.Ground.phase }, { on := 4, ground := Go.Ground.phase }, { on := 5, ground := Go.Ground.phase }, { on := 6, ground := Go.Ground.phase }, { on := 7, ground := Go.Ground.phase }, { on := 8, ground := Go.Ground.phase }, { on := 9, ground := Go.Ground.phase }, { on := 10, ground := Go.Ground.phase }], guard := none }, { dst := none, op := Go.Op.store 23 (Go.Operand.tmp 144) (Go.Operand.tmp 143), type := 0, pos := "ref.go:125", after := #[{ on := 11, ground := Go.Ground.data }, { on := 10, ground := Go.Ground.data }, { on := 10, ground := Go.Ground.chain }, { on := 0, ground := Go.Ground.phase }, { on := 1, ground := Go.Ground.phase }, { on := 2, ground := Go.Ground.phase }, { on := 3, ground := Go.Ground.phase }, { on := 4, ground := Go.Ground.phase }, { on := 5, ground := Go.Ground.phase }, { on := 6, ground := Go.Ground.phase }, { on := 7, ground := Go.Ground.phase }, { on := 8, ground := Go.Ground.phase }, { on := 9, ground := Go.Ground.phase }, { on := 10, ground := Go.Ground.phase }], guard := none }] : Array Oper) = Array.push #[{ dst := some 133, op := Go.Op.fieldAddr 25 (Go.Operand.tmp 15) 0, type := 0, pos := "ref.go:125", after := #[], guard := none }, { dst := some 134, op := Go.Op.load 23 (Go.Operand.tmp 133), type := 23, pos := "ref.go:125", after := #[{ on := 0, ground := Go.Ground.data }], guard := none }, { dst := some 135, op := Go.Op.fieldAddr 25 (Go.Operand.tmp 2) 0, type := 0, pos := "ref.go:125", after := #[], guard := none }, { dst := some 136, op := Go.Op.load 23 (Go.Operand.tmp 135), type := 23, pos := "ref.go:125", after := #[{ on := 2, ground := Go.Ground.data }], guard := none }, { dst := some 137, op := Go.Op.move (Go.Operand.tmp 17), type := 3, pos := "ref.go:125", after := #[], guard := none }, { dst := some 138, op := Go.Op.indexAddr 23 (Go.Operand.tmp 136) (Go.Operand.tmp 137), type := 0, pos := "ref.go:125", after := #[{ on := 3, ground := Go.Ground.data }, { on := 4, ground := Go.Ground.data }], guard := none }, { dst := some 139, op := Go.Op.load 43 (Go.Operand.tmp 138), type := 43, pos := "ref.go:125", after := #[{ on := 5, ground := Go.Ground.data }], guard := none }, { dst := some 140, op := Go.Op.move (Go.Operand.tmp 16), type := 39, pos := "ref.go:125", after := #[], guard := none }, { dst := some 141, op := Go.Op.call { callee := Go.Callee.value (Go.Operand.func 24), args := #[Go.Operand.tmp 139, Go.Operand.tmp 140], argTypes := #[43, 39] }, type := 43, pos := "ref.go:125", after := #[{ on := 6, ground := Go.Ground.data }, { on := 7, ground := Go.Ground.data }], guard := none }, { dst := some 142, op := Go.Op.buildSlice 23 1 #[(0, Go.Operand.tmp 141)], type := 23, pos := "ref.go:125", after := #[{ on := 8, ground := Go.Ground.data }], guard := none }, { dst := some 143, op := Go.Op.call { callee := Go.Callee.builtin Go.Builtin.append, args := #[Go.Operand.tmp 134, Go.Operand.tmp 142], argTypes := #[23, 23] }, type := 23, pos := "ref.go:125", after := #[{ on := 1, ground := Go.Ground.data }, { on := 9, ground := Go.Ground.data }, { on := 8, ground := Go.Ground.chain }], guard := none }, { dst := some 144, op := Go.Op.fieldAddr 25 (Go.Operand.tmp 15) 0, type := 0, pos := "ref.go:125", after := #[{ on := 0, ground := Go.Ground.phase }, { on := 1, ground := Go.Ground.phase }, { on := 2, ground := Go.Ground.phase }, { on := 3, ground := Go.Ground.phase }, { on := 4, ground := Go.Ground.phase }, { on := 5, ground := Go.Ground.phase }, { on := 6, ground := Go.Ground.phase }, { on := 7, ground := Go.Ground.phase }, { on := 8, ground := Go.Ground.phase }, { on := 9, ground := Go.Ground.phase }, { on := 10, ground := Go.Ground.phase }], guard := none }] { dst := none, op := Go.Op.store 23 (Go.Operand.tmp 144) (Go.Operand.tmp 143), type := 0, pos := "ref.go:125", after := #[{ on := 11, ground := Go.Ground.data }, { on := 10, ground := Go.Ground.data }, { on := 10, ground := Go.Ground.chain }, { on := 0, ground := Go.Ground.phase }, { on := 1, ground := Go.Ground.phase }, { on := 2, ground := Go.Ground.phase }, { on := 3, ground := Go.Ground.phase }, { on := 4, ground := Go.Ground.phase }, { on := 5, ground := Go.Ground.phase }, { on := 6, ground := Go.Ground.phase }, { on := 7, ground := Go.Ground.phase }, { on := 8, ground := Go.Ground.phase }, { on := 9, ground := Go.Ground.phase }, { on := 10, ground := Go.Ground.phase }], guard := none } from rfl]
                    refine wp_region_last (S := fun w' => w'.cell? ⟨w3.heap.size, 0, none⟩ = some (.slice oq (takeP ns (inPart ns push k) (nodeAt ns) i).2.length cq) ∧ w'.cell? ⟨W.heap.size, 0, none⟩ = some (.slice (some ⟨g, 0, none⟩) ns.length cap) ∧ w'.rangeAt g (i * 19) m.cells) (by kernel_rfl) (by kernel_rfl) (show w4.drew.cell? _ = _ ∧ w4.drew.cell? _ = _ ∧ w4.drew.rangeAt _ _ _ from ⟨c4, c0, HRG.out⟩) (fun hHeld => ?_)
                    have hbd : Below w4.heap.size w4 w4.drew := ⟨rfl, rfl, rfl, Nat.le_refl _, fun _ _ => rfl⟩
                    have HSD := Lib.hid (show w4.drew.cell? _ = _ ∧ w4.drew.cell? _ = _ ∧ w4.drew.rangeAt _ _ _ from ⟨c4, c0, HRG.out⟩)
                    have HTD := Lib.hid (And.intro (HT4.out.kept hbd) (HME.out.2.kept hbd))
                    clear c0 c4 hbd HV4
                    generalize w4.drew = wd at hHeld HSD HTD ⊢
                    have HRN := Lib.hid (renamed_any HTD.out.2 HTD.out.1.nb HTD.out.1.nl hs (by rw [HME.out.1]; exact (node_l HQ.out HN1.out).1) (by rw [HME.out.1]; exact (node_l HQ.out HN1.out).2))
                    obtain ⟨i0, hi0, hz0, hz1, hz2⟩ := info_parts infoNode
                    refine wpAnyH_take (i := 0) (oi := { dst := some 133, op := Go.Op.fieldAddr 25 (Go.Operand.tmp 15) 0, type := 0, pos := "ref.go:125", after := #[], guard := none }) (v := ?v1) rfl (by kernel_rfl) (by kernel_rfl) (by kernel_rfl) (fun _ _ _ h => h) (Or.inl ⟨by rfl, ?hy1⟩) (by assumption) ?rest1
                    case hy1 =>
                      intro w hSw
                      (try dsimp only at hSw)
                      go_simp
                      try with_reducible rfl
                    try simp only [Act.put, List.setIfInBounds_toArray, List.set_cons_zero, List.set_cons_succ]
                    refine wpAnyH_take (i := 1) (oi := { dst := some 134, op := Go.Op.load 23 (Go.Operand.tmp 133), type := 23, pos := "ref.go:125", after := #[{ on := 0, ground := Go.Ground.data }], guard := none }) (v := ?v2) rfl (by kernel_rfl) (by kernel_rfl) (by kernel_rfl) (fun _ _ _ h => h) (Or.inl ⟨by rfl, ?hy2⟩) (by assumption) ?rest2
                    case hy2 =>
                      intro w hSw
                      (try dsimp only at hSw)
                      go_simp
                      try with_reducible rfl
                    try simp only [Act.put, List.setIfInBounds_toArray, List.set_cons_zero, List.set_cons_succ]
                    refine wpAnyH_take (i := 2) (oi := { dst := some 135, op := Go.Op.fieldAddr 25 (Go.Operand.tmp 2) 0, type := 0, pos := "ref.go:125", after := #[], guard := none }) (v := ?v3) rfl (by kernel_rfl) (by kernel_rfl) (by kernel_rfl) (fun _ _ _ h => h) (Or.inl ⟨by rfl, ?hy3⟩) (by assumption) ?rest3
                    case hy3 =>
                      intro w hSw
                      (try dsimp only at hSw)
                      go_simp
                      try with_reducible rfl
                    try simp only [Act.put, List.setIfInBounds_toArray, List.set_cons_zero, List.set_cons_succ]
                    refine wpAnyH_take (i := 3) (oi := { dst := some 136, op := Go.Op.load 23 (Go.Operand.tmp 135), type := 23, pos := "ref.go:125", after := #[{ on := 2, ground := Go.Ground.data }], guard := none }) (v := ?v4) rfl (by kernel_rfl) (by kernel_rfl) (by kernel_rfl) (fun _ _ _ h => h) (Or.inl ⟨by rfl, ?hy4⟩) (by assumption) ?rest4
                    case hy4 =>
                      intro w hSw
                      (try dsimp only at hSw)
                      go_simp
                      try with_reducible rfl
                    try simp only [Act.put, List.setIfInBounds_toArray, List.set_cons_zero, List.set_cons_succ]
                    refine wpAnyH_take (i := 4) (oi := { dst := some 137, op := Go.Op.move (Go.Operand.tmp 17), type := 3, pos := "ref.go:125", after := #[], guard := none }) (v := ?v5) rfl (by kernel_rfl) (by kernel_rfl) (by kernel_rfl) (fun _ _ _ h => h) (Or.inl ⟨by rfl, ?hy5⟩) (by assumption) ?rest5
                    case hy5 =>
                      intro w hSw
                      (try dsimp only at hSw)
                      go_simp
                      try with_reducible rfl
                    try simp only [Act.put, List.setIfInBounds_toArray, List.set_cons_zero, List.set_cons_succ]
                    refine wpAnyH_take (i := 5) (oi := { dst := some 138, op := Go.Op.indexAddr 23 (Go.Operand.tmp 136) (Go.Operand.tmp 137), type := 0, pos := "ref.go:125", after := #[{ on := 3, ground := Go.Ground.data }, { on := 4, ground := Go.Ground.data }], guard := none }) (v := ?v6) rfl (by kernel_rfl) (by kernel_rfl) (by kernel_rfl) (fun _ _ _ h => h) (Or.inl ⟨by rfl, ?hy6⟩) (by assumption) ?rest6
                    case hy6 =>
                      intro w hSw
                      (try dsimp only at hSw)
                      go_simp
                      try with_reducible rfl
                    try simp only [Act.put, List.setIfInBounds_toArray, List.set_cons_zero, List.set_cons_succ]
                    refine' wpAnyH_take (i := 6) (oi := { dst := some 139, op := Go.Op.load 43 (Go.Operand.tmp 138), type := 43, pos := "ref.go:125", after := #[{ on := 5, ground := Go.Ground.data }], guard := none }) (v := _) rfl (by kernel_rfl) (by kernel_rfl) (by kernel_rfl) (fun _ _ _ h => h) (yieldsIf_load_mid (by rfl) _ _ rfl _ _ rfl _ _ ?hS1 ?hu1 ?hd1 ?hi1) (by assumption) ?restm1
                    case hS1 => intro w hSw; (try dsimp only at hSw); exact hSw.2.2
                    case hu1 => exact undNode
                    case hd1 => rfl
                    case hi1 => exact sizeNode
                    try simp only [Act.put, List.setIfInBounds_toArray, List.set_cons_zero, List.set_cons_succ]
                    refine wpAnyH_take (i := 7) (oi := { dst := some 140, op := Go.Op.move (Go.Operand.tmp 16), type := 39, pos := "ref.go:125", after := #[], guard := none }) (v := ?v7) rfl (by kernel_rfl) (by kernel_rfl) (by kernel_rfl) (fun _ _ _ h => h) (Or.inl ⟨by rfl, ?hy7⟩) (by assumption) ?rest7
                    case hy7 =>
                      intro w hSw
                      (try dsimp only at hSw)
                      go_simp
                      try with_reducible rfl
                    try simp only [Act.put, List.setIfInBounds_toArray, List.set_cons_zero, List.set_cons_succ]
                    refine wpAnyH_ready (rs := [8]) (by kernel_rfl) (by simp) ?_
                    refine AllReadyH.cons (o := { dst := some 141, op := Go.Op.call { callee := Go.Callee.value (Go.Operand.func 24), args := #[Go.Operand.tmp 139, Go.Operand.tmp 140], argTypes := #[43, 39] }, type := 43, pos := "ref.go:125", after := #[{ on := 6, ground := Go.Ground.data }, { on := 7, ground := Go.Ground.data }], guard := none }) rfl (fun K hK => ?_) ?_
                    · go_simp
                      go_at_call 24
                      (with_reducible refine HRN.out.mono ?_)
                      rintro e w5 ⟨m5, rfl, hm5, hk5, hl5, hb5⟩
                      have B5 := Lib.hid hb5
                      have HT5 := Lib.hid (HTD.out.1.kept hb5)
                      have HM5 := Lib.hid (And.intro hm5 (And.intro hk5 (own_base hl5 (show w3.heap.size + 2 ≤ wd.heap.size from HTD.out.1.nb.lt))))
                      clear hm5 hk5 hl5 hb5
                      obtain ⟨cs, hcs⟩ : ∃ cs, m5.cells = cs := ⟨_, rfl⟩
                      have HCS := Lib.hid hcs
                      have hone5 : ∀ u ∈ cs, u.oneCell' = true := by rw [← hcs]; exact one_cells m5 HM5.out.2.1
                      have hcl : cs.length = 1 * 19 := by rw [← hcs]; rfl
                      rw [hcs]
                      clear hcs
                      refine hK.out _ _ ?_ (fun hHeld => ?_)
                      · exact ⟨keepc B5.out HSD.out.1, keepc B5.out HSD.out.2.1, range_kept B5.out HSD.out.2.2⟩
                      · clear hK K
                        try simp only [Act.put, List.setIfInBounds_toArray, List.set_cons_zero, List.set_cons_succ]
                        refine wpAnyH_ready (rs := [9]) (by kernel_rfl) (by simp) ?_
                        refine AllReadyH.cons (o := { dst := some 142, op := Go.Op.buildSlice 23 1 #[(0, Go.Operand.tmp 141)], type := 23, pos := "ref.go:125", after := #[{ on := 8, ground := Go.Ground.data }], guard := none }) rfl (fun K hK => ?_) ?_
                        · go_simp
                          rw [fold_nd cs (by rw [hcl])]
                          have hal : Below w5.heap.size w5 (w5.alloc (.cells cs.toArray 43)) := (Below.refl _ _).alloc (Nat.le_refl _) _
                          have B6 := Lib.hid (chain B5.out hal)
                          have HT6 := Lib.hid (And.intro (HT5.out.kept hal) (And.intro (HM5.out.2.1.kept hal) (own_kept HM5.out.2.2 hal)))
                          have HNW := Lib.hid (show ∀ (j : Nat) u, cs[j]? = some u → (w5.alloc (.cells cs.toArray 43)).cell? ((⟨w5.heap.size, 0, none⟩ : Addr).add j) = some u from fun j u hu => blk_cells (Blk.new w5 43 cs.toArray) j u (by simpa using hu))
                          clear hal
                          generalize hw6 : w5.alloc _ = w6 at B6 HT6 HNW ⊢
                          clear hw6
                          refine hK.out _ _ ?_ (fun hHeld => ?_)
                          · exact ⟨keepc B6.out HSD.out.1, keepc B6.out HSD.out.2.1, range_kept B6.out HSD.out.2.2⟩
                          · clear hK K
                            try simp only [Act.put, List.setIfInBounds_toArray, List.set_cons_zero, List.set_cons_succ]
                            refine wpAnyH_ready (rs := [10]) (by kernel_rfl) (by simp) ?_
                            refine AllReadyH.cons (o := { dst := some 143, op := Go.Op.call { callee := Go.Callee.builtin Go.Builtin.append, args := #[Go.Operand.tmp 134, Go.Operand.tmp 142], argTypes := #[23, 23] }, type := 23, pos := "ref.go:125", after := #[{ on := 1, ground := Go.Ground.data }, { on := 9, ground := Go.Ground.data }, { on := 8, ground := Go.Ground.chain }], guard := none }) rfl (fun K hK => ?_) ?_
                            · obtain ⟨mso, q1, q2, q3⟩ := HT6.out.1.out
                              have HMS := Lib.hid (And.intro q1 (And.intro q2 q3))
                              clear q1 q2 q3
                              refine step_append_lies _ (by rfl) _ _ _ (by rfl) (w3.heap.size + 2) 43 i0 _ 19 216 (by kernel_rfl) hi0 hz0 hz1 hz2 (by rfl) (by decide) _ (takeP ns (inPart ns push k) (nodeAt ns) i).2.length (cellsM mso) (by rfl) HMS.out.2.1 ⟨w5.heap.size, 0, none⟩ 1 1 cs (by rfl) hcl HNW.out hone5 (by decide) (by unfold maxLen; omega) (by omega) HT6.out.1.nb.lt _ rfl ?_
                              intro gq2 cq2 w7 ho hgr _ _
                              have HG := Lib.hid (HT6.out.1.grow (m := m5) HMS.out.1 HMS.out.2.1 HMS.out.2.2 HT6.out.2.1 HT6.out.2.2 hgr (by rw [HCS.out]; exact ho))
                              have B7 := Lib.hid (show Below (w3.heap.size) w6 w7 from (Below.refl _ _).grown hgr (Nat.le_of_lt HT6.out.1.qb.lt) (fun b hb => by have := (HMS.out.2.1.lt b hb).1; omega))
                              clear ho hgr
                              refine hK.out _ _ ?_ (fun hHeld => ?_)
                              · exact ⟨HG.out.1.cell 0, (B7.out.cell (p := ⟨W.heap.size, 0, none⟩) HV1.out.rw_.qb.lt).trans (keepc B6.out HSD.out.2.1), fun j u hj => (B7.out.cell (p := ⟨g, i * 19 + j, none⟩) hgl).trans (range_kept B6.out HSD.out.2.2 j u hj)⟩
                              · clear hK K
                                try simp only [Act.put, List.setIfInBounds_toArray, List.set_cons_zero, List.set_cons_succ]
                                refine wpAnyH_take (i := 11) (oi := { dst := some 144, op := Go.Op.fieldAddr 25 (Go.Operand.tmp 15) 0, type := 0, pos := "ref.go:125", after := #[{ on := 0, ground := Go.Ground.phase }, { on := 1, ground := Go.Ground.phase }, { on := 2, ground := Go.Ground.phase }, { on := 3, ground := Go.Ground.phase }, { on := 4, ground := Go.Ground.phase }, { on := 5, ground := Go.Ground.phase }, { on := 6, ground := Go.Ground.phase }, { on := 7, ground := Go.Ground.phase }, { on := 8, ground := Go.Ground.phase }, { on := 9, ground := Go.Ground.phase }, { on := 10, ground := Go.Ground.phase }], guard := none }) (v := ?v8) rfl (by kernel_rfl) (by kernel_rfl) (by kernel_rfl) (fun _ _ _ h => h) (Or.inl ⟨by rfl, ?hy8⟩) (by assumption) ?rest8
                                case hy8 =>
                                  intro w hSw
                                  (try dsimp only at hSw)
                                  go_simp
                                  try with_reducible rfl
                                try simp only [Act.put, List.setIfInBounds_toArray, List.set_cons_zero, List.set_cons_succ]
                                refine wpAnyH_done (by kernel_rfl) ?_ _
                                have dq : w7.cell? ⟨w3.heap.size, 0, none⟩ = some (.slice oq (takeP ns (inPart ns push k) (nodeAt ns) i).2.length cq) := HG.out.1.cell 0
                                have dq1 := HG.out.1.free 0
                                refine then_step (fun K hK => ?_)
                                go_simp
                                refine hK.out _ _ ?_
                                clear hK K dq dq1
                                have HT8 := Lib.hid (show TQ w3 (w7.setCell ⟨w3.heap.size, 0, none⟩ (.slice (some ⟨gq2, 0, none⟩) ((takeP ns (inPart ns push k) (nodeAt ns) i).2.length + 1) cq2)) ns.length (takeP ns (inPart ns push k) (nodeAt ns) (i + 1)).1 (takeP ns (inPart ns push k) (nodeAt ns) (i + 1)).2 (.slice (some ⟨gq2, 0, none⟩) ((takeP ns (inPart ns push k) (nodeAt ns) i).2.length + 1) cq2) from by
                                  have h := HG.out.2
                                  rw [HM5.out.1, HME.out.1, renN_set HQ.out.tree HN1.out] at h
                                  rw [HSO.out, HNA.out]
                                  exact h)
                                generalize w7.setCell _ _ = w8 at HT8 ⊢
                                clear HG HT6 HNW HT5 HM5 HMS B5 B6 B7
                                go_wp2_with fail
                                go_roundg (ns.length - i)
                                case measure => omega
                                case rel => exact ⟨i + 1, _, by omega, by omega, rfl, HT8.out⟩
                            exact AllReadyH.nil
                        exact AllReadyH.nil
                    exact AllReadyH.nil
                  · have y1 : ((x + 1) == (k1 : Int)) = false := by rw [beq_eq_false_iff_ne]; have := HKK.out; omega
                    have y2 : ¬ x + 1 = (k1 : Int) := by have := HKK.out; omega
                    have HSO := Lib.hid (take_no (ns := ns) (made := nodeAt ns) (show inPart ns push k i = false by unfold inPart; rw [HXP.out]; exact decide_eq_false hxk))
                    clear hxk
                    go_wp2_with fail
                    go_roundg (ns.length - i)
                    case measure => omega
                    case rel => exact ⟨i + 1, _, by omega, by omega, rfl, by rw [HSO.out]; exact HT.out⟩
                · have hin : i = ns.length := by omega
                  subst hin
                  have z1 : ¬ (ns.length : Int) < (ns.length : Int) := by omega
                  have z2 : decide ((ns.length : Int) < (ns.length : Int)) = false := decide_eq_false z1
                  have d0 : wr.cell? ⟨w3.heap.size, 0, none⟩ = some (.slice oq (takeP ns (inPart ns push k) (nodeAt ns) ns.length).2.length cq) := HT.out.qb.cell 0
                  have d1 : wr.cell? ⟨pb, 0, none⟩ = some (.slice o7 k cp7) := HVq.out.pl.cell 0
                  have HOU := Lib.hid htq.out.zero
                  obtain ⟨iq, hiq, hq0, hq1, hq2⟩ := info_parts infoQuery
                  have hal : Below wr.heap.size wr (wr.alloc (.cells #[.slice oq (takeP ns (inPart ns push k) (nodeAt ns) ns.length).2.length cq] 25)) := (Below.refl _ _).alloc (Nat.le_refl _) _
                  have HV6 := Lib.hid (And.intro (HVq.out.kept hal) (HOU.out.kept hal))
                  have HNW := Lib.hid (show ∀ (j : Nat) u, [Value.slice oq (takeP ns (inPart ns push k) (nodeAt ns) ns.length).2.length cq][j]? = some u → (wr.alloc (.cells #[.slice oq (takeP ns (inPart ns push k) (nodeAt ns) ns.length).2.length cq] 25)).cell? ((⟨wr.heap.size, 0, none⟩ : Addr).add j) = some u from fun j u hu => blk_cells (Blk.new wr 25 #[.slice oq (takeP ns (inPart ns push k) (nodeAt ns) ns.length).2.length cq]) j u (by simpa using hu))
                  have HRQ := HV6.out.1.qr.row
                  rw [HLK.out] at HRQ
                  have HRQ := Lib.hid HRQ
                  have hk8 : k ≤ 130 := by have := HKK.out; omega
                  clear htq hal
                  go_wp2_with (at_builtin; refine wpList_append_own _ rfl _ _ _ rfl (pb + 1) 25 iq _ 1 24 (by kernel_rfl) hiq hq0 hq1 hq2 rfl (by decide) _ k vs rfl HRQ.out ⟨wr.heap.size, 0, none⟩ 1 1 [.slice oq (takeP ns (inPart ns push k) (nodeAt ns) ns.length).2.length cq] rfl rfl HNW.out (by simp [Value.oneCell']) (by simp only [maxLen]; omega) (by omega) HV6.out.1.pl.lt ?_)
                  intro v' w7 ho hgr _
                  have HG := Lib.hid (HV6.out.1.grow HSP.out HV6.out.2 hgr (by rw [HLK.out]; exact ho))
                  obtain ⟨o8, cp8, rfl⟩ := row_slice ho
                  have e0 : w7.cell? ⟨pb, 0, none⟩ = some (.slice o7 k cp7) := HG.out.1.cell 0
                  have e1 := HG.out.1.free 0
                  clear ho hgr d0 d1 c0
                  go_wp2_with fail
                  go_roundg (KN - k1)
                  case measure => omega
                  case rel => exact ⟨k1 + 1, k + 1, _, _, by have := HKK.out; omega, by omega, by omega, rfl, HG.out.2⟩
            · have hke : k1 = KN := by omega
              subst hke
              have t1 : ¬ (k1 : Int) < (k1 : Int) := by omega
              have t2 : decide ((k1 : Int) < (k1 : Int)) = false := decide_eq_false t1
              have hkl : k = (lastS ns push).length := by have := HKN.out; omega
              have hall : (splitParts ns push).take k = splitParts ns push := List.take_of_length_le (by rw [hkl]; simp [splitParts])
              have hqr := hrv.qr
              rw [hall] at hqr
              obtain ⟨o7, cp7, rfl⟩ := row_slice hqr.row
              have HQR := Lib.hid hqr
              have c0 : w3.cell? ⟨W.heap.size, 0, none⟩ = some (.slice (some ⟨g, 0, none⟩) ns.length cap) := hrv.rw_.qb.cell 0
              have hmk := make_ints w3 hs
              obtain ⟨lg, lc, hlv, _⟩ := hrv.rw_.last_cell
              injection hlv with l1 l2 l3
              subst l1
              obtain ⟨W1, hW1⟩ : ∃ W1, W1 = w3.alloc (.cells (intsL (List.replicate ns.length 0)).toArray 3) := ⟨_, rfl⟩
              rw [← hW1] at hmk
              have HTZ := Lib.hid (show TZ w3 W1 pb (.slice o7 (splitParts ns push).length cp7) ns.length (List.replicate ns.length 0) [] (.slice none 0 0) from by
                have hb : Below w3.heap.size w3 W1 := by rw [hW1]; exact (Below.refl _ _).alloc (Nat.le_refl _) _
                exact ⟨Stp.of hb, hrv.pl.kept hb, by rw [hW1]; exact Blk.new _ _ _, by simp, NO.nil, hrv.pl.lt⟩)
              clear hrv hall hqr hkl l2 l3 hW1 hkk
              go_upto_region 35 with fail
              clear hmk c0
              have c0 : W1.cell? ⟨W.heap.size, 0, none⟩ = some (.slice (some ⟨g, 0, none⟩) ns.length cap) := (HV1.out.rw_.mvp HV1.out.pl HV1.out.lt HTZ.out.mv).qb.cell 0
              go_wp2_with fail
              go_loopg [19] (ns.length + 1) (fun gk3 c19 wq => ∃ (i : Nat) (ov : Value), i ≤ ns.length ∧ ns.length < i + gk3 ∧ c19 = .int .i64 (i : Int) ∧ TZ w3 wq pb (.slice o7 (splitParts ns push).length cp7) ns.length (takeP ns (inRest ns push) (restNode ns push) i).1 (takeP ns (inRest ns push) (restNode ns push) i).2 ov)
              case atStart => exact ⟨0, _, Nat.zero_le _, by omega, rfl, HTZ.out⟩
              case round =>
                obtain ⟨i, ov, hi, hgk3, rfl, htz⟩ := hrel
                clear c0
                have HT := Lib.hid htz
                have HWq := Lib.hid (HV1.out.rw_.mvp HV1.out.pl HV1.out.lt htz.mv)
                have hol : (takeP ns (inRest ns push) (restNode ns push) i).2.length ≤ i := take_le ns _ _ i
                obtain ⟨oq, cq, rfl⟩ := htz.out.slice
                have c0 : wr.cell? ⟨W.heap.size, 0, none⟩ = some (.slice (some ⟨g, 0, none⟩) ns.length cap) := HWq.out.qb.cell 0
                have z0 : (0 : Int) ≤ (i : Int) := by omega
                by_cases hlt : i < ns.length
                · obtain ⟨n1, hn1⟩ : ∃ n1, ns[i]? = some n1 := ⟨ns[i], List.getElem?_eq_getElem hlt⟩
                  have z1 : (i : Int) < (ns.length : Int) := by omega
                  have z2 : decide ((i : Int) < (ns.length : Int)) = true := decide_eq_true z1
                  have w5_ : IntKind.i64.wrap ((i : Int) + 1) = (i : Int) + 1 := IntWalk.i64_in _ (by omega)
                  obtain ⟨x, hx⟩ : ∃ x, (partS ns push)[i]? = some x := ⟨(partS ns push)[i]'(by rw [part_len]; exact hlt), List.getElem?_eq_getElem _⟩
                  have cx := intsZ_get HWq.out.ki (up1_get hx)
                  have HXP := Lib.hid (partAt_of hx)
                  have HN1 := Lib.hid hn1
                  have HNA := Lib.hid (nodeAt_of hn1)
                  have hac := at_cases HQ.out (push := push) hlt
                  rw [HXP.out] at hac
                  obtain ⟨y0, hy0⟩ : ∃ y, ((takeP ns (inRest ns push) (restNode ns push) i).1)[i]? = some y := ⟨_, List.getElem?_eq_getElem (by rw [HT.out.nl]; exact hlt)⟩
                  have d2 : wr.cell? ⟨w3.heap.size, i, none⟩ = some (.int .i64 (y0 : Int)) := by
                    rw [HT.out.nb.cell i]
                    simp [intsL, hy0]
                  have d3 := HT.out.nb.free i
                  have d4 : wr.cell? ⟨pb, 1, none⟩ = some (.slice oq (takeP ns (inRest ns push) (restNode ns push) i).2.length cq) := HT.out.pl.cell 1
                  have HT4 := Lib.hid (HT.out.put i (takeP ns (inRest ns push) (restNode ns push) i).2.length)
                  have hgl : g < w3.heap.size := by
                    obtain ⟨_, _, _, hnd⟩ := nr_node HV1.out.rw_.nr hn1
                    exact World.block_lt_of_cell? w3 _ hnd.kind
                  clear htz hx hn1 hy0
                  rcases hac with rfl | ⟨kk, j, hj, rfl⟩
                  · have HSO := Lib.hid (take_yes (ns := ns) (made := restNode ns push) (show inRest ns push i = true by unfold inRest; rw [HXP.out]; rfl))
                    have HRE := Lib.hid (show restNode ns push i = n1 by unfold restNode; rw [HXP.out, HNA.out]; rfl)
                    have cx2 : wr.cell? ⟨ib, i, none⟩ = some (.int .i64 0) := cx
                    clear cx
                    go_upto_region 43 with fail
                    generalize wr.setCell _ _ = w4 at HT4 ⊢
                    clear d2 d3 d4 c0 cx2
                    have HW4 := Lib.hid (HV1.out.rw_.mvp HV1.out.pl HV1.out.lt HT4.out.mv)
                    obtain ⟨m, b, hm, hmk2, hmr⟩ := nr_range HW4.out.nr HN1.out
                    have HME := Lib.hid (And.intro hm hmk2)
                    have c0 : w4.cell? ⟨W.heap.size, 0, none⟩ = some (.slice (some ⟨g, 0, none⟩) ns.length cap) := HW4.out.qb.cell 0
                    have c4 : w4.cell? ⟨pb, 1, none⟩ = some (.slice oq (takeP ns (inRest ns push) (restNode ns push) i).2.length cq) := HT4.out.pl.cell 1
                    have HRG := Lib.hid hmr
                    clear hm hmk2 hmr
                    rw [show (#[{ dst := some 195, op := Go.Op.fieldAddr 31 (Go.Operand.tmp 13) 1, type := 0, pos := "ref.go:140", after := #[], guard := none }, { dst := some 196, op := Go.Op.fieldAddr 25 (Go.Operand.tmp 195) 0, type := 0, pos := "ref.go:140", after := #[{ on := 0, ground := Go.Ground.data }], guard := none }, { dst := some 197, op := Go.Op.load 23 (Go.Operand.tmp 196), type := 23, pos := "ref.go:140", after := #[{ on := 1, ground := Go.Ground.data }], guard := none }, { dst := some 198, op := Go.Op.fieldAddr 25 (Go.Operand.tmp 2) 0, type := 0, pos := "ref.go:140", after := #[], guard := none }, { dst := some 199, op := Go.Op.load 23 (Go.Operand.tmp 198), type := 23, pos := "ref.go:140", after := #[{ on := 3, ground := Go.Ground.data }], guard := none }, { dst := some 200, op := Go.Op.move (Go.Operand.tmp 19), type := 3, pos := "ref.go:140", after := #[], guard := none }, { dst := some 201, op := Go.Op.indexAddr 23 (Go.Operand.tmp 199) (Go.Operand.tmp 200), type := 0, pos := "ref.go:140", after := #[{ on := 4, ground := Go.Ground.data }, { on := 5, ground := Go.Ground.data }], guard := none }, { dst := some 202, op := Go.Op.load 43 (Go.Operand.tmp 201), type := 43, pos := "ref.go:140", after := #[{ on := 6, ground := Go.Ground.data }], guard := none }, { dst := some 203, op := Go.Op.move (Go.Operand.tmp 18), type := 39, pos := "ref.go:140", after := #[], guard := none }, { dst := some 204, op := Go.Op.call { callee := Go.Callee.value (Go.Operand.func 24), args := #[Go.Operand.tmp 202, Go.Operand.tmp 203], argTypes := #[43, 39] }, type := 43, pos := "ref.go:140", after := #[{ on := 7, ground := Go.Ground.data }, { on := 8, ground := Go.Ground.data }], guard := none }, { dst := some 205, op := Go.Op.buildSlice 23 1 #[(0, Go.Operand.tmp 204)], type := 23, pos := "ref.go:140", after := #[{ on := 9, ground := Go.Ground.data }], guard := none }, { dst := some 206, op := Go.Op.call { callee := Go.Callee.builtin Go.Builtin.append, args := #[Go.Operand.tmp 197, Go.Operand.tmp 205], argTypes := #[23, 23] }, type := 23, pos := "ref.go:140", after := #[{ on := 2, ground := Go.Ground.data }, { on := 10, ground := Go.Ground.data }, { on := 9, ground := Go.Ground.chain }], guard := none }, { dst := some 207, op := Go.Op.fieldAddr 31 (Go.Operand.tmp 13) 1, type := 0, pos := "ref.go:140", after := #[{ on := 0, ground := Go.Ground.phase }, { on := 1, ground := Go.Ground.phase }, { on := 2, ground := Go.Ground.phase }, { on := 3, ground := Go.Ground.phase }, { on := 4, ground := Go.Ground.phase }, { on := 5, ground := Go.Ground.phase }, { on := 6, ground := Go.Ground.phase }, { on := 7, ground := Go.Ground.phase }, { on := 8, ground := Go.Ground.phase }, { on := 9, ground := Go.Ground.phase }, { on := 10, ground := Go.Ground.phase }, { on := 11, ground := Go.Ground.phase }], guard := none }, { dst := some 208, op := Go.Op.fieldAddr 25 (Go.Operand.tmp 207) 0, type := 0, pos := "ref.go:140", after := #[{ on := 12, ground := Go.Ground.data }, { on := 0, ground := Go.Ground.phase }, { on := 1, ground := Go.Ground.phase }, { on := 2, ground := Go.Ground.phase }, { on := 3, ground := Go.Ground.phase }, { on := 4, ground := Go.Ground.phase }, { on := 5, ground := Go.Ground.phase }, { on := 6, ground := Go.Ground.phase }, { on := 7, ground := Go.Ground.phase }, { on := 8, ground := Go.Ground.phase }, { on := 9, ground := Go.Ground.phase }, { on := 10, ground := Go.Ground.phase }, { on := 11, ground := Go.Ground.phase }], guard := none }, { dst := none, op := Go.Op.store 23 (Go.Operand.tmp 208) (Go.Operand.tmp 206), type := 0, pos := "ref.go:140", after := #[{ on := 13, ground := Go.Ground.data }, { on := 11, ground := Go.Ground.data }, { on := 11, ground := Go.Ground.chain }, { on := 0, ground := Go.Ground.phase }, { on := 1, ground := Go.Ground.phase }, { on := 2, ground := Go.Ground.phase }, { on := 3, ground := Go.Ground.phase }, { on := 4, ground := Go.Ground.phase }, { on := 5, ground := Go.Ground.phase }, { on := 6, ground := Go.Ground.phase }, { on := 7, ground := Go.Ground.phase }, { on := 8, ground := Go.Ground.phase }, { on := 9, ground := Go.Ground.phase }, { on := 10, ground := Go.Ground.phase }, { on := 11, ground := Go.Ground.phase }], guard := none }] : Array Oper) = Array.push #[{ dst := some 195, op := Go.Op.fieldAddr 31 (Go.Operand.tmp 13) 1, type := 0, pos := "ref.go:140", after := #[], guard := none }, { dst := some 196, op := Go.Op.fieldAddr 25 (Go.Operand.tmp 195) 0, type := 0, pos := "ref.go:140", after := #[{ on := 0, ground := Go.Ground.data }], guard := none }, { dst := some 197, op := Go.Op.load 23 (Go.Operand.tmp 196), type := 23, pos := "ref.go:140", after := #[{ on := 1, ground := Go.Ground.data }], guard := none }, { dst := some 198, op := Go.Op.fieldAddr 25 (Go.Operand.tmp 2) 0, type := 0, pos := "ref.go:140", after := #[], guard := none }, { dst := some 199, op := Go.Op.load 23 (Go.Operand.tmp 198), type := 23, pos := "ref.go:140", after := #[{ on := 3, ground := Go.Ground.data }], guard := none }, { dst := some 200, op := Go.Op.move (Go.Operand.tmp 19), type := 3, pos := "ref.go:140", after := #[], guard := none }, { dst := some 201, op := Go.Op.indexAddr 23 (Go.Operand.tmp 199) (Go.Operand.tmp 200), type := 0, pos := "ref.go:140", after := #[{ on := 4, ground := Go.Ground.data }, { on := 5, ground := Go.Ground.data }], guard := none }, { dst := some 202, op := Go.Op.load 43 (Go.Operand.tmp 201), type := 43, pos := "ref.go:140", after := #[{ on := 6, ground := Go.Ground.data }], guard := none }, { dst := some 203, op := Go.Op.move (Go.Operand.tmp 18), type := 39, pos := "ref.go:140", after := #[], guard := none }, { dst := some 204, op := Go.Op.call { callee := Go.Callee.value (Go.Operand.func 24), args := #[Go.Operand.tmp 202, Go.Operand.tmp 203], argTypes := #[43, 39] }, type := 43, pos := "ref.go:140", after := #[{ on := 7, ground := Go.Ground.data }, { on := 8, ground := Go.Ground.data }], guard := none }, { dst := some 205, op := Go.Op.buildSlice 23 1 #[(0, Go.Operand.tmp 204)], type := 23, pos := "ref.go:140", after := #[{ on := 9, ground := Go.Ground.data }], guard := none }, { dst := some 206, op := Go.Op.call { callee := Go.Callee.builtin Go.Builtin.append, args := #[Go.Operand.tmp 197, Go.Operand.tmp 205], argTypes := #[23, 23] }, type := 23, pos := "ref.go:140", after := #[{ on := 2, ground := Go.Ground.data }, { on := 10, ground := Go.Ground.data }, { on := 9, ground := Go.Ground.chain }], guard := none }, { dst := some 207, op := Go.Op.fieldAddr 31 (Go.Operand.tmp 13) 1, type := 0, pos := "ref.go:140", after := #[{ on := 0, ground := Go.Ground.phase }, { on := 1, ground := Go.Ground.phase }, { on := 2, ground := Go.Ground.phase }, { on := 3, ground := Go.Ground.phase }, { on := 4, ground := Go.Ground.phase }, { on := 5, ground := Go.Ground.phase }, { on := 6, ground := Go.Ground.phase }, { on := 7, ground := Go.Ground.phase }, { on := 8, ground := Go.Ground.phase }, { on := 9, ground := Go.Ground.phase }, { on := 10, ground := Go.Ground.phase }, { on := 11, ground := Go.Ground.phase }], guard := none }, { dst := some 208, op := Go.Op.fieldAddr 25 (Go.Operand.tmp 207) 0, type := 0, pos := "ref.go:140", after := #[{ on := 12, ground := Go.Ground.data }, { on := 0, ground := Go.Ground.phase }, { on := 1, ground := Go.Ground.phase }, { on := 2, ground := Go.Ground.phase }, { on := 3, ground := Go.Ground.phase }, { on := 4, ground := Go.Ground.phase }, { on := 5, ground := Go.Ground.phase }, { on := 6, ground := Go.Ground.phase }, { on := 7, ground := Go.Ground.phase }, { on := 8, ground := Go.Ground.phase }, { on := 9, ground := Go.Ground.phase }, { on := 10, ground := Go.Ground.phase }, { on := 11, ground := Go.Ground.phase }], guard := none }] { dst := none, op := Go.Op.store 23 (Go.Operand.tmp 208) (Go.Operand.tmp 206), type := 0, pos := "ref.go:140", after := #[{ on := 13, ground := Go.Ground.data }, { on := 11, ground := Go.Ground.data }, { on := 11, ground := Go.Ground.chain }, { on := 0, ground := Go.Ground.phase }, { on := 1, ground := Go.Ground.phase }, { on := 2, ground := Go.Ground.phase }, { on := 3, ground := Go.Ground.phase }, { on := 4, ground := Go.Ground.phase }, { on := 5, ground := Go.Ground.phase }, { on := 6, ground := Go.Ground.phase }, { on := 7, ground := Go.Ground.phase }, { on := 8, ground := Go.Ground.phase }, { on := 9, ground := Go.Ground.phase }, { on := 10, ground := Go.Ground.phase }, { on := 11, ground := Go.Ground.phase }], guard := none } from rfl]
                    refine wp_region_last (S := fun w' => w'.cell? ⟨pb, 1, none⟩ = some (.slice oq (takeP ns (inRest ns push) (restNode ns push) i).2.length cq) ∧ w'.cell? ⟨W.heap.size, 0, none⟩ = some (.slice (some ⟨g, 0, none⟩) ns.length cap) ∧ w'.rangeAt g (i * 19) m.cells) (by kernel_rfl) (by kernel_rfl) (show w4.drew.cell? _ = _ ∧ w4.drew.cell? _ = _ ∧ w4.drew.rangeAt _ _ _ from ⟨c4, c0, HRG.out⟩) (fun hHeld => ?_)
                    have hbd : Below w4.heap.size w4 w4.drew := ⟨rfl, rfl, rfl, Nat.le_refl _, fun _ _ => rfl⟩
                    have HSD := Lib.hid (show w4.drew.cell? _ = _ ∧ w4.drew.cell? _ = _ ∧ w4.drew.rangeAt _ _ _ from ⟨c4, c0, HRG.out⟩)
                    have HTD := Lib.hid (And.intro (HT4.out.kept hbd) (HME.out.2.kept hbd))
                    clear c0 c4 hbd HW4
                    generalize w4.drew = wd at hHeld HSD HTD ⊢
                    have HRN := Lib.hid (renamed_any HTD.out.2 HTD.out.1.nb HTD.out.1.nl hs (by rw [HME.out.1]; exact (node_l HQ.out HN1.out).1) (by rw [HME.out.1]; exact (node_l HQ.out HN1.out).2))
                    obtain ⟨i0, hi0, hz0, hz1, hz2⟩ := info_parts infoNode
                    refine wpAnyH_take (i := 0) (oi := { dst := some 195, op := Go.Op.fieldAddr 31 (Go.Operand.tmp 13) 1, type := 0, pos := "ref.go:140", after := #[], guard := none }) (v := ?v9) rfl (by kernel_rfl) (by kernel_rfl) (by kernel_rfl) (fun _ _ _ h => h) (Or.inl ⟨by rfl, ?hy9⟩) (by assumption) ?rest9
                    case hy9 =>
                      intro w hSw
                      (try dsimp only at hSw)
                      go_simp
                      try with_reducible rfl
                    try simp only [Act.put, List.setIfInBounds_toArray, List.set_cons_zero, List.set_cons_succ]
                    refine wpAnyH_take (i := 1) (oi := { dst := some 196, op := Go.Op.fieldAddr 25 (Go.Operand.tmp 195) 0, type := 0, pos := "ref.go:140", after := #[{ on := 0, ground := Go.Ground.data }], guard := none }) (v := ?v10) rfl (by kernel_rfl) (by kernel_rfl) (by kernel_rfl) (fun _ _ _ h => h) (Or.inl ⟨by rfl, ?hy10⟩) (by assumption) ?rest10
                    case hy10 =>
                      intro w hSw
                      (try dsimp only at hSw)
                      go_simp
                      try with_reducible rfl
                    try simp only [Act.put, List.setIfInBounds_toArray, List.set_cons_zero, List.set_cons_succ]
                    refine wpAnyH_take (i := 2) (oi := { dst := some 197, op := Go.Op.load 23 (Go.Operand.tmp 196), type := 23, pos := "ref.go:140", after := #[{ on := 1, ground := Go.Ground.data }], guard := none }) (v := ?v11) rfl (by kernel_rfl) (by kernel_rfl) (by kernel_rfl) (fun _ _ _ h => h) (Or.inl ⟨by rfl, ?hy11⟩) (by assumption) ?rest11
                    case hy11 =>
                      intro w hSw
                      (try dsimp only at hSw)
                      go_simp
                      try with_reducible rfl
                    try simp only [Act.put, List.setIfInBounds_toArray, List.set_cons_zero, List.set_cons_succ]
                    refine wpAnyH_take (i := 3) (oi := { dst := some 198, op := Go.Op.fieldAddr 25 (Go.Operand.tmp 2) 0, type := 0, pos := "ref.go:140", after := #[], guard := none }) (v := ?v12) rfl (by kernel_rfl) (by kernel_rfl) (by kernel_rfl) (fun _ _ _ h => h) (Or.inl ⟨by rfl, ?hy12⟩) (by assumption) ?rest12
                    case hy12 =>
                      intro w hSw
                      (try dsimp only at hSw)
                      go_simp
                      try with_reducible rfl
                    try simp only [Act.put, List.setIfInBounds_toArray, List.set_cons_zero, List.set_cons_succ]
                    refine wpAnyH_take (i := 4) (oi := { dst := some 199, op := Go.Op.load 23 (Go.Operand.tmp 198), type := 23, pos := "ref.go:140", after := #[{ on := 3, ground := Go.Ground.data }], guard := none }) (v := ?v13) rfl (by kernel_rfl) (by kernel_rfl) (by kernel_rfl) (fun _ _ _ h => h) (Or.inl ⟨by rfl, ?hy13⟩) (by assumption) ?rest13
                    case hy13 =>
                      intro w hSw
                      (try dsimp only at hSw)
                      go_simp
                      try with_reducible rfl
                    try simp only [Act.put, List.setIfInBounds_toArray, List.set_cons_zero, List.set_cons_succ]
                    refine wpAnyH_take (i := 5) (oi := { dst := some 200, op := Go.Op.move (Go.Operand.tmp 19), type := 3, pos := "ref.go:140", after := #[], guard := none }) (v := ?v14) rfl (by kernel_rfl) (by kernel_rfl) (by kernel_rfl) (fun _ _ _ h => h) (Or.inl ⟨by rfl, ?hy14⟩) (by assumption) ?rest14
                    case hy14 =>
                      intro w hSw
                      (try dsimp only at hSw)
                      go_simp
                      try with_reducible rfl
                    try simp only [Act.put, List.setIfInBounds_toArray, List.set_cons_zero, List.set_cons_succ]
                    refine wpAnyH_take (i := 6) (oi := { dst := some 201, op := Go.Op.indexAddr 23 (Go.Operand.tmp 199) (Go.Operand.tmp 200), type := 0, pos := "ref.go:140", after := #[{ on := 4, ground := Go.Ground.data }, { on := 5, ground := Go.Ground.data }], guard := none }) (v := ?v15) rfl (by kernel_rfl) (by kernel_rfl) (by kernel_rfl) (fun _ _ _ h => h) (Or.inl ⟨by rfl, ?hy15⟩) (by assumption) ?rest15
                    case hy15 =>
                      intro w hSw
                      (try dsimp only at hSw)
                      go_simp
                      try with_reducible rfl
                    try simp only [Act.put, List.setIfInBounds_toArray, List.set_cons_zero, List.set_cons_succ]
                    refine' wpAnyH_take (i := 7) (oi := { dst := some 202, op := Go.Op.load 43 (Go.Operand.tmp 201), type := 43, pos := "ref.go:140", after := #[{ on := 6, ground := Go.Ground.data }], guard := none }) (v := _) rfl (by kernel_rfl) (by kernel_rfl) (by kernel_rfl) (fun _ _ _ h => h) (yieldsIf_load_mid (by rfl) _ _ rfl _ _ rfl _ _ ?hS2 ?hu2 ?hd2 ?hi2) (by assumption) ?restm2
                    case hS2 => intro w hSw; (try dsimp only at hSw); exact hSw.2.2
                    case hu2 => exact undNode
                    case hd2 => rfl
                    case hi2 => exact sizeNode
                    try simp only [Act.put, List.setIfInBounds_toArray, List.set_cons_zero, List.set_cons_succ]
                    refine wpAnyH_take (i := 8) (oi := { dst := some 203, op := Go.Op.move (Go.Operand.tmp 18), type := 39, pos := "ref.go:140", after := #[], guard := none }) (v := ?v16) rfl (by kernel_rfl) (by kernel_rfl) (by kernel_rfl) (fun _ _ _ h => h) (Or.inl ⟨by rfl, ?hy16⟩) (by assumption) ?rest16
                    case hy16 =>
                      intro w hSw
                      (try dsimp only at hSw)
                      go_simp
                      try with_reducible rfl
                    try simp only [Act.put, List.setIfInBounds_toArray, List.set_cons_zero, List.set_cons_succ]
                    refine wpAnyH_ready (rs := [9]) (by kernel_rfl) (by simp) ?_
                    refine AllReadyH.cons (o := { dst := some 204, op := Go.Op.call { callee := Go.Callee.value (Go.Operand.func 24), args := #[Go.Operand.tmp 202, Go.Operand.tmp 203], argTypes := #[43, 39] }, type := 43, pos := "ref.go:140", after := #[{ on := 7, ground := Go.Ground.data }, { on := 8, ground := Go.Ground.data }], guard := none }) rfl (fun K hK => ?_) ?_
                    · go_simp
                      go_at_call 24
                      (with_reducible refine HRN.out.mono ?_)
                      rintro e w5 ⟨m5, rfl, hm5, hk5, hl5, hb5⟩
                      have B5 := Lib.hid hb5
                      have HT5 := Lib.hid (HTD.out.1.kept hb5)
                      have HM5 := Lib.hid (And.intro hm5 (And.intro hk5 (own_base hl5 (show w3.heap.size + 1 ≤ wd.heap.size from HTD.out.1.nb.lt))))
                      clear hm5 hk5 hl5 hb5
                      obtain ⟨cs, hcs⟩ : ∃ cs, m5.cells = cs := ⟨_, rfl⟩
                      have HCS := Lib.hid hcs
                      have hone5 : ∀ u ∈ cs, u.oneCell' = true := by rw [← hcs]; exact one_cells m5 HM5.out.2.1
                      have hcl : cs.length = 1 * 19 := by rw [← hcs]; rfl
                      rw [hcs]
                      clear hcs
                      refine hK.out _ _ ?_ (fun hHeld => ?_)
                      · exact ⟨keepc B5.out HSD.out.1, keepc B5.out HSD.out.2.1, range_kept B5.out HSD.out.2.2⟩
                      · clear hK K
                        try simp only [Act.put, List.setIfInBounds_toArray, List.set_cons_zero, List.set_cons_succ]
                        refine wpAnyH_ready (rs := [10]) (by kernel_rfl) (by simp) ?_
                        refine AllReadyH.cons (o := { dst := some 205, op := Go.Op.buildSlice 23 1 #[(0, Go.Operand.tmp 204)], type := 23, pos := "ref.go:140", after := #[{ on := 9, ground := Go.Ground.data }], guard := none }) rfl (fun K hK => ?_) ?_
                        · go_simp
                          rw [fold_nd cs (by rw [hcl])]
                          have hal : Below w5.heap.size w5 (w5.alloc (.cells cs.toArray 43)) := (Below.refl _ _).alloc (Nat.le_refl _) _
                          have B6 := Lib.hid (chain B5.out hal)
                          have HT6 := Lib.hid (And.intro (HT5.out.kept hal) (And.intro (HM5.out.2.1.kept hal) (own_kept HM5.out.2.2 hal)))
                          have HNW := Lib.hid (show ∀ (j : Nat) u, cs[j]? = some u → (w5.alloc (.cells cs.toArray 43)).cell? ((⟨w5.heap.size, 0, none⟩ : Addr).add j) = some u from fun j u hu => blk_cells (Blk.new w5 43 cs.toArray) j u (by simpa using hu))
                          clear hal
                          generalize hw6 : w5.alloc _ = w6 at B6 HT6 HNW ⊢
                          clear hw6
                          refine hK.out _ _ ?_ (fun hHeld => ?_)
                          · exact ⟨keepc B6.out HSD.out.1, keepc B6.out HSD.out.2.1, range_kept B6.out HSD.out.2.2⟩
                          · clear hK K
                            try simp only [Act.put, List.setIfInBounds_toArray, List.set_cons_zero, List.set_cons_succ]
                            refine wpAnyH_ready (rs := [11]) (by kernel_rfl) (by simp) ?_
                            refine AllReadyH.cons (o := { dst := some 206, op := Go.Op.call { callee := Go.Callee.builtin Go.Builtin.append, args := #[Go.Operand.tmp 197, Go.Operand.tmp 205], argTypes := #[23, 23] }, type := 23, pos := "ref.go:140", after := #[{ on := 2, ground := Go.Ground.data }, { on := 10, ground := Go.Ground.data }, { on := 9, ground := Go.Ground.chain }], guard := none }) rfl (fun K hK => ?_) ?_
                            · obtain ⟨mso, q1, q2, q3⟩ := HT6.out.1.out
                              have HMS := Lib.hid (And.intro q1 (And.intro q2 q3))
                              clear q1 q2 q3
                              refine step_append_lies _ (by rfl) _ _ _ (by rfl) (w3.heap.size + 1) 43 i0 _ 19 216 (by kernel_rfl) hi0 hz0 hz1 hz2 (by rfl) (by decide) _ (takeP ns (inRest ns push) (restNode ns push) i).2.length (cellsM mso) (by rfl) HMS.out.2.1 ⟨w5.heap.size, 0, none⟩ 1 1 cs (by rfl) hcl HNW.out hone5 (by decide) (by unfold maxLen; omega) (by omega) HT6.out.1.nb.lt _ rfl ?_
                              intro gq2 cq2 w7 ho hgr _ _
                              have HG := Lib.hid (HT6.out.1.grow (m := m5) HMS.out.1 HMS.out.2.1 HMS.out.2.2 HT6.out.2.1 HT6.out.2.2 hgr (by rw [HCS.out]; exact ho))
                              have B7 := Lib.hid (show Below (w3.heap.size) w6 w7 from (Below.refl _ _).grown hgr (Nat.le_of_lt HT6.out.1.nb.lt) (fun b hb => by have := (HMS.out.2.1.lt b hb).1; omega))
                              clear ho hgr
                              refine hK.out _ _ ?_ (fun hHeld => ?_)
                              · exact ⟨HG.out.1.cell 1, (B7.out.cell (p := ⟨W.heap.size, 0, none⟩) HV1.out.rw_.qb.lt).trans (keepc B6.out HSD.out.2.1), fun j u hj => (B7.out.cell (p := ⟨g, i * 19 + j, none⟩) hgl).trans (range_kept B6.out HSD.out.2.2 j u hj)⟩
                              · clear hK K
                                try simp only [Act.put, List.setIfInBounds_toArray, List.set_cons_zero, List.set_cons_succ]
                                refine wpAnyH_take (i := 12) (oi := { dst := some 207, op := Go.Op.fieldAddr 31 (Go.Operand.tmp 13) 1, type := 0, pos := "ref.go:140", after := #[{ on := 0, ground := Go.Ground.phase }, { on := 1, ground := Go.Ground.phase }, { on := 2, ground := Go.Ground.phase }, { on := 3, ground := Go.Ground.phase }, { on := 4, ground := Go.Ground.phase }, { on := 5, ground := Go.Ground.phase }, { on := 6, ground := Go.Ground.phase }, { on := 7, ground := Go.Ground.phase }, { on := 8, ground := Go.Ground.phase }, { on := 9, ground := Go.Ground.phase }, { on := 10, ground := Go.Ground.phase }, { on := 11, ground := Go.Ground.phase }], guard := none }) (v := ?v17) rfl (by kernel_rfl) (by kernel_rfl) (by kernel_rfl) (fun _ _ _ h => h) (Or.inl ⟨by rfl, ?hy17⟩) (by assumption) ?rest17
                                case hy17 =>
                                  intro w hSw
                                  (try dsimp only at hSw)
                                  go_simp
                                  try with_reducible rfl
                                try simp only [Act.put, List.setIfInBounds_toArray, List.set_cons_zero, List.set_cons_succ]
                                refine wpAnyH_take (i := 13) (oi := { dst := some 208, op := Go.Op.fieldAddr 25 (Go.Operand.tmp 207) 0, type := 0, pos := "ref.go:140", after := #[{ on := 12, ground := Go.Ground.data }, { on := 0, ground := Go.Ground.phase }, { on := 1, ground := Go.Ground.phase }, { on := 2, ground := Go.Ground.phase }, { on := 3, ground := Go.Ground.phase }, { on := 4, ground := Go.Ground.phase }, { on := 5, ground := Go.Ground.phase }, { on := 6, ground := Go.Ground.phase }, { on := 7, ground := Go.Ground.phase }, { on := 8, ground := Go.Ground.phase }, { on := 9, ground := Go.Ground.phase }, { on := 10, ground := Go.Ground.phase }, { on := 11, ground := Go.Ground.phase }], guard := none }) (v := ?v18) rfl (by kernel_rfl) (by kernel_rfl) (by kernel_rfl) (fun _ _ _ h => h) (Or.inl ⟨by rfl, ?hy18⟩) (by assumption) ?rest18
                                case hy18 =>
                                  intro w hSw
                                  (try dsimp only at hSw)
                                  go_simp
                                  try with_reducible rfl
                                try simp only [Act.put, List.setIfInBounds_toArray, List.set_cons_zero, List.set_cons_succ]
                                refine wpAnyH_done (by kernel_rfl) ?_ _
                                have dq : w7.cell? ⟨pb, 1, none⟩ = some (.slice oq (takeP ns (inRest ns push) (restNode ns push) i).2.length cq) := HG.out.1.cell 1
                                have dq1 := HG.out.1.free 1
                                refine then_step (fun K hK => ?_)
                                go_simp
                                refine hK.out _ _ ?_
                                clear hK K dq dq1
                                have HT8 := Lib.hid (show TZ w3 (w7.setCell ⟨pb, 1, none⟩ (.slice (some ⟨gq2, 0, none⟩) ((takeP ns (inRest ns push) (restNode ns push) i).2.length + 1) cq2)) pb (.slice o7 (splitParts ns push).length cp7) ns.length (takeP ns (inRest ns push) (restNode ns push) (i + 1)).1 (takeP ns (inRest ns push) (restNode ns push) (i + 1)).2 (.slice (some ⟨gq2, 0, none⟩) ((takeP ns (inRest ns push) (restNode ns push) i).2.length + 1) cq2) from by
                                  have h := HG.out.2
                                  rw [HM5.out.1, HME.out.1, renN_set HQ.out.tree HN1.out] at h
                                  rw [HSO.out, HRE.out]
                                  exact h)
                                generalize w7.setCell _ _ = w8 at HT8 ⊢
                                clear HG HT6 HNW HT5 HM5 HMS B5 B6 B7
                                go_wp2_with fail
                                go_roundg (ns.length - i)
                                case measure => omega
                                case rel => exact ⟨i + 1, _, by omega, by omega, rfl, HT8.out⟩
                            exact AllReadyH.nil
                        exact AllReadyH.nil
                    exact AllReadyH.nil
                  · have hlg := lasts_get (push := push) hj
                    have hkk2 := some_lt hlg
                    obtain ⟨k2, hk2⟩ : ∃ k2 : Nat, k2 = kk + 1 := ⟨_, rfl⟩
                    have HK2 := Lib.hid hk2
                    have cl : wr.cell? ⟨lg, k2, none⟩ = some (.int .i64 (lastOf ns push j : Int)) := HWq.out.last_at (by rw [hk2]; exact lastL_get hlg)
                    have cx2 : wr.cell? ⟨ib, i, none⟩ = some (.int .i64 (k2 : Int)) := by rw [hk2]; exact cx
                    clear cx
                    have HLG := Lib.hid hlg
                    have u0 : (0 : Int) ≤ (k2 : Int) := by omega
                    have u1 : (0 : Int) < (k2 : Int) := by omega
                    have u2 : decide ((0 : Int) < (k2 : Int)) = true := decide_eq_true u1
                    have u2' : decide (0 < k2) = true := decide_eq_true (by omega)
                    have u3 : (k2 : Int) < (k1 : Int) := by have := HKN.out; omega
                    have w6_ : IntKind.i64.wrap ((k2 : Int) - 1) = (k2 : Int) - 1 := IntWalk.i64_in _ (by omega)
                    clear hlg hk2
                    by_cases hL : lastOf ns push j = i
                    · have y1 : ((lastOf ns push j : Int) != (i : Int)) = false := by rw [hL]; simp
                      have y2 : (lastOf ns push j : Int) = (i : Int) := by rw [hL]
                      have HSO := Lib.hid (take_yes (ns := ns) (made := restNode ns push) (show inRest ns push i = true by unfold inRest; rw [HXP.out, Int.toNat_natCast, HLG.out, hL]; simp))
                      have HRE := Lib.hid (show restNode ns push i = { node 9 [] with n := (k2 : Int) - 1 } by unfold restNode; rw [HXP.out, if_neg (by omega), HK2.out]; simp)
                      clear hL
                      go_upto_region 42 with fail
                      generalize wr.setCell _ _ = w4 at HT4 ⊢
                      clear d2 d3 d4 c0 cx2 cl
                      have c4 : w4.cell? ⟨pb, 1, none⟩ = some (.slice oq (takeP ns (inRest ns push) (restNode ns push) i).2.length cq) := HT4.out.pl.cell 1
                      obtain ⟨i0, hi0, hz0, hz1, hz2⟩ := info_parts infoNode
                      have hal : Below w4.heap.size w4 (w4.alloc (.cells (leafM 9 [] ((k2 : Int) - 1) noVal).cells.toArray 43)) := (Below.refl _ _).alloc (Nat.le_refl _) _
                      have HT6 := Lib.hid (HT4.out.kept hal)
                      have HNW := Lib.hid (show ∀ (j : Nat) u, (leafM 9 [] ((k2 : Int) - 1) noVal).cells[j]? = some u → (w4.alloc (.cells (leafM 9 [] ((k2 : Int) - 1) noVal).cells.toArray 43)).cell? ((⟨w4.heap.size, 0, none⟩ : Addr).add j) = some u from fun j u hu => blk_cells (Blk.new w4 43 (leafM 9 [] ((k2 : Int) - 1) noVal).cells.toArray) j u (by simpa using hu))
                      obtain ⟨mso, q1, q2, q3⟩ := HT6.out.out
                      have HMS := Lib.hid (And.intro q1 (And.intro q2 q3))
                      have HON := Lib.hid (show ∀ u ∈ (leafM 9 [] ((k2 : Int) - 1) noVal).cells, u.oneCell' = true from one_cells (W := w4) (base := 0) _ ⟨nil_row, nil_row, nil_row⟩)
                      clear q1 q2 q3 hal
                      go_wp2_with (at_builtin; refine wpList_append_own _ rfl _ _ _ rfl (w3.heap.size + 1) 43 i0 _ 19 216 (by kernel_rfl) hi0 hz0 hz1 hz2 rfl (by decide) _ (takeP ns (inRest ns push) (restNode ns push) i).2.length (cellsM mso) rfl HMS.out.2.1 ⟨w4.heap.size, 0, none⟩ 1 1 (leafM 9 [] ((k2 : Int) - 1) noVal).cells rfl rfl HNW.out HON.out (by simp only [maxLen]; omega) (by omega) HT6.out.nb.lt ?_)
                      intro v' w7 ho hgr _
                      have HG := Lib.hid (HT6.out.grow (m := leafM 9 [] ((k2 : Int) - 1) noVal) HMS.out.1 HMS.out.2.1 HMS.out.2.2 ⟨nil_row, nil_row, nil_row⟩ nil_row hgr ho)
                      have HT8 := Lib.hid (show TZ w3 (w7.setCell ⟨pb, 1, none⟩ v') pb (.slice o7 (splitParts ns push).length cp7) ns.length (takeP ns (inRest ns push) (restNode ns push) (i + 1)).1 (takeP ns (inRest ns push) (restNode ns push) (i + 1)).2 v' from by
                        have h := HG.out.2
                        rw [HSO.out, HRE.out]
                        exact h)
                      obtain ⟨o8, cp8, rfl⟩ := row_slice ho
                      have e0 : w7.cell? ⟨pb, 1, none⟩ = some (.slice oq (takeP ns (inRest ns push) (restNode ns push) i).2.length cq) := HG.out.1.cell 1
                      have e1 := HG.out.1.free 1
                      clear ho hgr c4
                      go_wp2_with fail
                      go_roundg (ns.length - i)
                      case measure => omega
                      case rel => exact ⟨i + 1, _, by omega, by omega, rfl, HT8.out⟩
                    · have y1 : ((lastOf ns push j : Int) != (i : Int)) = true := by rw [bne_iff_ne]; omega
                      have y2 : ¬ (lastOf ns push j : Int) = (i : Int) := by omega
                      have HSO := Lib.hid (take_no (ns := ns) (made := restNode ns push) (show inRest ns push i = false by
                        unfold inRest
                        rw [HXP.out, Int.toNat_natCast, HLG.out]
                        simp
                        omega))
                      clear hL
                      go_wp2_with fail
                      go_roundg (ns.length - i)
                      case measure => omega
                      case rel => exact ⟨i + 1, _, by omega, by omega, rfl, by rw [HSO.out]; exact HT.out⟩
                · have hin : i = ns.length := by omega
                  subst hin
                  have z1 : ¬ (ns.length : Int) < (ns.length : Int) := by omega
                  have z2 : decide ((ns.length : Int) < (ns.length : Int)) = false := decide_eq_false z1
                  have d0 : wr.cell? ⟨pb, 0, none⟩ = some (.slice o7 (splitParts ns push).length cp7) := HT.out.pl.cell 0
                  have d1 : wr.cell? ⟨pb, 1, none⟩ = some (.slice oq (takeP ns (inRest ns push) (restNode ns push) ns.length).2.length cq) := HT.out.pl.cell 1
                  have r0 := HWq.out.res.cell 0
                  have r1 := HWq.out.res.cell 1
                  have s0 := HWq.out.res.free 0
                  have s1 := HWq.out.res.free 1
                  have hne : pb ≠ W.heap.size + 1 := by have := HWq.out.ltb; have := HWq.out.lti; have := HV1.out.lt; omega
                  have hne2 : W.heap.size + 1 ≠ pb := fun e => hne e.symm
                  have HEN := Lib.hid (plan_put HWq.out.res (HQR.out.zero.mvp HV1.out.pl HT.out.mv) HT.out.out.zero HWq.out.low (Nat.le_succ _))
                  clear htz
                  go_wp2_with fail
                  exact bodyPost_ret (res_plan Try.results8 rfl rfl HEN.out.1) rfl ⟨_, _, vs, rfl, HEN.out.2⟩
        · obtain ⟨i, rfl⟩ : ∃ j, i = j + 1 := ⟨i - 1, by omega⟩
          have hlt2 : i < ns.length := by omega
          obtain ⟨n1, hn1⟩ : ∃ n1, ns[i]? = some n1 := ⟨ns[i], List.getElem?_eq_getElem hlt2⟩
          obtain ⟨_, _, _, hnd⟩ := nr_node HS2.out.nr hn1
          have hck : wr.cell? ⟨g, i * 19, none⟩ = some (.int .i64 (n1.kind : Int)) := hnd.kind
          rw [show (((i + 1 : Nat) : Int) - 1) = (i : Int) from by omega]
          have t0 : (0 : Int) ≤ (i : Int) := by omega
          have t1 : (i : Int) < (ns.length : Int) := by omega
          have w3_ : IntKind.i64.wrap ((i : Int) - 1) = (i : Int) - 1 := IntWalk.i64_in _ (by omega)
          have HK := Lib.hid (kindAt_of hn1)
          clear hnd hn1
          by_cases hk : 11 ≤ n1.kind
          · have v1 : decide (11 ≤ n1.kind) = true := decide_eq_true hk
            have v2 : decide ((11 : Int) ≤ (n1.kind : Int)) = true := decide_eq_true (by omega)
            obtain ⟨_, _, _, hu1, hu2, hu3⟩ := up_of HQ.out (cond_not_last HQ.out hlt2 (by rw [HK.out]; exact hk))
            obtain ⟨x, hx⟩ : ∃ x, part[upP ns i]? = some x := ⟨part[upP ns i]'(by rw [HS2.out.pl]; exact hu2), List.getElem?_eq_getElem _⟩
            obtain ⟨x0, hx0⟩ : ∃ x0, part[i]? = some x0 := ⟨part[i]'(by rw [HS2.out.pl]; exact hlt2), List.getElem?_eq_getElem _⟩
            have HC2 := Lib.hid (show condP ns i (part.set i x) = partS ns push from by
              rw [← HCO.out]
              show _ = condP ns i (if 11 ≤ kindAt ns i then _ else _)
              rw [if_pos (by rw [HK.out]; exact hk), hx]
              rfl)
            have cu := intsZ_get HS2.out.kb hu3
            have cx := intsZ_get HS2.out.ki (up1_get hx)
            have ci := intsZ_get HS2.out.ki (up1_get hx0)
            have fi := HS2.out.ki.free i
            have u0 : (0 : Int) ≤ (upP ns i : Int) := by omega
            have u1 : (upP ns i : Int) < (ns.length : Int) := by omega
            have HS6 := Lib.hid (HS2.out.put_in i x)
            generalize upP ns i = up at cu cx hu1 hu2 u0 u1
            clear hx hx0 hu3 hk
            go_wp2_with fail
            go_roundg (i + 1)
            case measure => omega
            case rel => exact ⟨i, _, by omega, by omega, rfl, HS6.out, HC2.out⟩
          · have v1 : decide (11 ≤ n1.kind) = false := decide_eq_false hk
            have v2 : decide ((11 : Int) ≤ (n1.kind : Int)) = false := decide_eq_false (by omega)
            have HC2 := Lib.hid (show condP ns i part = partS ns push from by
              rw [← HCO.out]
              show _ = condP ns i (if 11 ≤ kindAt ns i then _ else _)
              rw [if_neg (by rw [HK.out]; exact hk)])
            clear hk
            go_wp2_with fail
            go_roundg (i + 1)
            case measure => omega
            case rel => exact ⟨i, part, by omega, by omega, rfl, HS2.out, HC2.out⟩
end Go.Proofs.Ytjpogmomgmjmbaa
