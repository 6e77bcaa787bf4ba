/- The walk of the law PlanNodes. -/
import Derived.Test.YtjpogmomgmjmbaaN26
/-! The walk of the law PlanNodes. -/
namespace Go.Proofs.Ytjpogmomgmjmbaa
open Go.RowKit LexS ParS BigFrame
set_option maxHeartbeats 4000000
set_option linter.unusedVariables false
set_option linter.unusedSimpArgs false
attribute [local go_sem] World.cell?_alloc_some cell_drewN_new free_drewN_new cell_drew_new free_drew_new

theorem take_sum_le (l : List (List Nd)) (i : Nat) : ((l.take i).map List.length).sum ≤ (l.map List.length).sum := by
  have e : l.map List.length = (l.take i).map List.length ++ (l.drop i).map List.length := by rw [← List.map_append, List.take_append_drop]
  rw [e, List.sum_append]
  omega
/-- What the law PlanNodes looks at. -/
structure PN (w W : World) (qa g cap : Nat) (ns : List Nd) (push : Bool) (pa gq cq : Nat) (rv : Value) (vs : List Value) : Prop where
  low : Below w.heap.size w W
  qb : W.cell? ⟨qa, 0, none⟩ = some (.slice (some ⟨g, 0, none⟩) ns.length cap)
  nr : NR W (.slice (some ⟨g, 0, none⟩) ns.length cap) ns
  pl : PlanIs W pa (.slice (some ⟨gq, 0, none⟩) (splitParts ns push).length cq) rv vs (splitParts ns push) (splitRest ns push)
theorem part_row {W : World} {gq cq i : Nat} {vs : List Value} {nss : List (List Nd)} {p : List Nd} (h : QRow W 0 (.slice (some ⟨gq, 0, none⟩) nss.length cq) vs nss) (hi : nss[i]? = some p) (hp : 0 < p.length) :
    ∃ g c, W.cell? ⟨gq, i, none⟩ = some (.slice (some ⟨g, 0, none⟩) p.length c) ∧ ∀ (j : Nat) (nd : Nd), p[j]? = some nd → W.cell? ⟨g, j * 19, none⟩ = some (.int .i64 (nd.kind : Int)) := by
  obtain ⟨g', c', u, h1, h2, h3⟩ := qrow_get h hi
  injection h1 with e1 e2 e3
  injection e1 with e1
  injection e1 with e1
  subst e1
  have h4 := h3.nr
  obtain ⟨q, cap, h5, _, _, h6⟩ := h3.nr
  obtain ⟨g, rfl, _⟩ := h6 (List.length_pos_iff.1 hp)
  rw [h5] at h2 h4
  refine ⟨g, cap, h2, fun j nd hj => ?_⟩
  obtain ⟨_, _, _, hn⟩ := nr_node h4 hj
  exact hn.kind
theorem rest_row {W : World} {rv : Value} {rest : List Nd} (h : NO W 0 rv rest) (hp : 0 < rest.length) :
    ∃ g c, rv = .slice (some ⟨g, 0, none⟩) rest.length c ∧ ∀ (j : Nat) (nd : Nd), rest[j]? = some nd → W.cell? ⟨g, j * 19, none⟩ = some (.int .i64 (nd.kind : Int)) ∧ W.cell? ⟨g, j * 19 + 2, none⟩ = some (.int .i64 nd.n) := by
  obtain ⟨q, cap, h5, _, _, h6⟩ := h.nr
  obtain ⟨g, rfl, hc⟩ := h6 (List.length_pos_iff.1 hp)
  refine ⟨g, cap, h5, fun j nd hj => ?_⟩
  obtain ⟨m, b, rfl, _, hr⟩ := hc j nd hj
  have := hr 0 _ rfl
  rw [Nat.add_zero] at this
  exact ⟨this, hr 2 _ rfl⟩
set_option maxRecDepth 100000 in
theorem nodes21_any (s : ByteArray) (push : Bool) (hs : s.size ≤ 140737488351232) (w : World) :
    Calls Try.prog 4 #[.string s, .bool push] w fun e w' => e = .returned (.bool true) ∧ Below w.heap.size w w' := by
  obtain ⟨⟨ns, a, er⟩, hx⟩ : ∃ x, queryS s.data.toList = x := ⟨_, rfl⟩
  have HT := Lib.hid (rquery_text s hs)
  have HX := Lib.hid hx
  clear hx
  go_enter Try.func4, Try.ntmps4
  go_wp2_with fail
  refine (shown_21 _).mono ?_
  rintro e w1 ⟨rfl, b1⟩
  have HB1 := Lib.hid b1
  clear b1
  go_wp2_with fail
  refine (HT.out _).mono ?_
  rw [HX.out]
  rintro e w2 ⟨nv, rfl, hns, b2⟩
  dsimp only at hns ⊢
  obtain ⟨o1, cp1, rfl⟩ := hns.slice
  by_cases he : er = 0
  case neg =>
    have v1 : ((er : Int) != 0) = true := by rw [bne_iff_ne]; omega
    have v2 : ¬ (er : Int) = 0 := by omega
    have HF := Lib.hid (chain (chain HB1.out b2) ((Below.refl w2.heap.size w2).alloc (Nat.le_refl _) (.cells #[.slice o1 ns.length cp1] 25)))
    clear he hns b2
    go_wp2_with fail
    go_ret
    exact ⟨rfl, HF.out⟩
  case pos =>
    subst he
    obtain ⟨hq, h128⟩ := query_qns HX.out
    have HQ := Lib.hid hq
    have hpos : 0 < ns.length := List.length_pos_iff.2 hq.tree.ne
    obtain ⟨pz, cz, hz1, hz2, _, hz4⟩ := hns.nr
    obtain ⟨g, hg, _⟩ := hz4 hq.tree.ne
    rw [hg] at hz1
    injection hz1 with e1 e2 e3
    subst e1 e3
    have hal : Below w2.heap.size w2 (w2.alloc (.cells #[.slice (some ⟨g, 0, none⟩) ns.length cp1] 25)) := (Below.refl _ _).alloc (Nat.le_refl _) _
    have HN2 := Lib.hid (show NR (w2.alloc (.cells #[.slice (some ⟨g, 0, none⟩) ns.length cp1] 25)) _ ns ∧ Below w.heap.size w (w2.alloc (.cells #[.slice (some ⟨g, 0, none⟩) ns.length cp1] 25)) ∧ Blk (w2.alloc (.cells #[.slice (some ⟨g, 0, none⟩) ns.length cp1] 25)) w2.heap.size 25 #[.slice (some ⟨g, 0, none⟩) ns.length cp1] from
      ⟨(hns.kept hal).nr, chain (chain HB1.out b2) hal, Blk.new _ _ _⟩)
    clear hns b2 hal hz2 hz4 hg e2 hq
    go_upto_region 5 with fail
    obtain ⟨qa, hqa⟩ : ∃ b, b = w2.heap.size := ⟨_, rfl⟩
    rw [← hqa] at HN2 ⊢
    generalize w2.alloc _ = u2 at HN2 ⊢
    clear hqa
    have q0 : u2.cell? ⟨qa, 0, none⟩ = some (.slice (some ⟨g, 0, none⟩) ns.length cp1) := HN2.out.2.2.cell 0
    go_wp2_with fail
    refine (split_nr HN2.out.1 HQ.out h128).mono ?_
    rintro e w3 ⟨pv, rv, vs, rfl, hqr, hno, b3⟩
    have hlp := last_pos HQ.out push
    have hpl : (splitParts ns push).length = (lastS ns push).length := by simp [splitParts]
    obtain ⟨e0, he0⟩ : ∃ e0, (splitParts ns push)[0]? = some e0 := ⟨(splitParts ns push)[0]'(by omega), List.getElem?_eq_getElem _⟩
    obtain ⟨gq, cq, _, rfl, _, _⟩ := qrow_get hqr he0
    obtain ⟨o3, cp3, rfl⟩ := hno.slice
    have hpn := plan_new hqr hno (chain HN2.out.2.1 b3)
    have hal : Below w3.heap.size w3 (w3.alloc (.cells #[.slice (some ⟨gq, 0, none⟩) (splitParts ns push).length cq, .slice o3 (splitRest ns push).length cp3] 31)) := (Below.refl _ _).alloc (Nat.le_refl _) _
    have HP := Lib.hid (show PN w (w3.alloc (.cells #[.slice (some ⟨gq, 0, none⟩) (splitParts ns push).length cq, .slice o3 (splitRest ns push).length cp3] 31)) qa g cp1 ns push w3.heap.size gq cq (.slice o3 (splitRest ns push).length cp3) vs from
      ⟨hpn.2, keepc (chain b3 hal) q0, NR.stay (chain b3 hal) HN2.out.1, hpn.1⟩)
    clear hqr hno b3 hpn hal q0 HN2 he0
    have HLP := Lib.hid (And.intro hlp hpl)
    clear hlp hpl
    go_upto_region 6 with fail
    obtain ⟨pa, hpa⟩ : ∃ b, b = w3.heap.size := ⟨_, rfl⟩
    rw [← hpa] at HP ⊢
    generalize w3.alloc _ = u at HP ⊢
    clear hpa
    have c0 : u.cell? ⟨qa, 0, none⟩ = some (.slice (some ⟨g, 0, none⟩) ns.length cp1) := HP.out.qb
    have p0 : u.cell? ⟨pa, 0, none⟩ = some (.slice (some ⟨gq, 0, none⟩) (splitParts ns push).length cq) := HP.out.pl.blk.cell 0
    have p1 : u.cell? ⟨pa, 1, none⟩ = some (.slice o3 (splitRest ns push).length cp3) := HP.out.pl.blk.cell 1
    go_wp2_with fail
    go_loopg [11, 12] (ns.length + 1) (fun gk c11 c12 wr => ∃ i : Nat, i ≤ ns.length ∧ ns.length < i + gk ∧ c12 = .int .i64 (i : Int) ∧ c11 = .int .i64 ((fets ns i).length : Int) ∧ wr = u)
    case atStart => exact ⟨0, Nat.zero_le _, by omega, rfl, rfl, rfl⟩
    case round =>
      obtain ⟨i, hi, hgk, rfl, rfl, rfl⟩ := hrel
      have hfl := fets_le ns i
      have t0 : (0 : Int) ≤ (i : Int) := by omega
      by_cases hlt : i < ns.length
      · obtain ⟨n1, hn1⟩ : ∃ n1, ns[i]? = some n1 := ⟨ns[i], List.getElem?_eq_getElem hlt⟩
        obtain ⟨_, _, _, hnd⟩ := nr_node HP.out.nr hn1
        have hck : wr.cell? ⟨g, i * 19, none⟩ = some (.int .i64 (n1.kind : Int)) := hnd.kind
        have t1 : (i : Int) < (ns.length : Int) := by omega
        have t2 : decide ((i : Int) < (ns.length : Int)) = true := decide_eq_true t1
        have hfn := fets_next (ns := ns) (i := i)
        rw [kindAt_of hn1] at hfn
        have HFN := Lib.hid hfn
        clear hnd hn1 hfn
        have w1_ : IntKind.i64.wrap ((i : Int) + 1) = (i : Int) + 1 := IntWalk.i64_in _ (by omega)
        have w2_ : IntKind.i64.wrap (((fets ns i).length : Int) + 1) = ((fets ns i).length : Int) + 1 := IntWalk.i64_in _ (by omega)
        by_cases hk : n1.kind = 1
        · have v1 : ((n1.kind : Int) == 1) = true := by rw [beq_iff_eq]; omega
          have v2 : (n1.kind : Int) = 1 := by omega
          have HE := Lib.hid (show (fets ns (i + 1)).length = (fets ns i).length + 1 by rw [HFN.out, if_pos hk])
          clear hk
          go_wp2_with fail
          go_roundg (ns.length - i)
          case measure => omega
          case rel => exact ⟨i + 1, by omega, by omega, rfl, by rw [HE.out]; rfl, rfl⟩
        · have v1 : ((n1.kind : Int) == 1) = false := by rw [beq_eq_false_iff_ne]; omega
          have v2 : ¬ (n1.kind : Int) = 1 := by omega
          have HE := Lib.hid (show (fets ns (i + 1)).length = (fets ns i).length by rw [HFN.out, if_neg hk]; rfl)
          clear hk
          go_wp2_with fail
          go_roundg (ns.length - i)
          case measure => omega
          case rel => exact ⟨i + 1, by omega, by omega, rfl, by rw [HE.out], rfl⟩
      · have hin : i = ns.length := by omega
        subst hin
        have t1 : ¬ (ns.length : Int) < (ns.length : Int) := by omega
        have t2 : decide ((ns.length : Int) < (ns.length : Int)) = false := decide_eq_false t1
        have HKK := Lib.hid (show (splitParts ns push).length = (fets ns ns.length).length by rw [HLP.out.2, lasts_len])
        have v1 : (((splitParts ns push).length : Int) != ((fets ns ns.length).length : Int)) = false := by rw [HKK.out]; simp
        have hK1 : (splitParts ns push).length ≤ 128 := by rw [HKK.out]; omega
        have HSC := Lib.hid (split_count HQ.out (push := push))
        have hsl : ((splitParts ns push).map List.length).sum + (splitRest ns push).length ≤ 256 := by rw [HSC.out]; omega
        go_wp2_with fail
        go_loopg [13, 14] ((splitParts ns push).length + 1) (fun gk2 c13 c14 wr2 => ∃ k : Nat, k ≤ (splitParts ns push).length ∧ (splitParts ns push).length < k + gk2 ∧ c14 = .int .i64 (k : Int) ∧ c13 = .int .i64 ((((splitParts ns push).take k).map List.length).sum : Int) ∧ wr2 = wr)
        case atStart => exact ⟨0, Nat.zero_le _, by omega, rfl, rfl, rfl⟩
        case round =>
          obtain ⟨k, hk, hgk2, rfl, rfl, rfl⟩ := hrel
          have hts := take_sum_le (splitParts ns push) k
          have t0 : (0 : Int) ≤ (k : Int) := by omega
          by_cases hkl : k < (splitParts ns push).length
          · obtain ⟨p, hp⟩ : ∃ p, (splitParts ns push)[k]? = some p := ⟨(splitParts ns push)[k], List.getElem?_eq_getElem hkl⟩
            obtain ⟨hpp, hp1, hp2⟩ := part_kinds HQ.out hp
            obtain ⟨gp, cp, hcp, hcn⟩ := part_row HP.out.pl.qr hp hpp
            obtain ⟨n0, hn0⟩ : ∃ n0, p[0]? = some n0 := ⟨p[0], List.getElem?_eq_getElem hpp⟩
            have hc0 := hcn 0 n0 hn0
            rw [hp1 n0 hn0] at hc0
            have HCN := Lib.hid (And.intro hcn hp2)
            have HSN := Lib.hid (sum_next hp)
            have hts2 := take_sum_le (splitParts ns push) (k + 1)
            rw [HSN.out] at hts2
            have hpl : p.length ≤ 256 := by omega
            have t1 : (k : Int) < ((splitParts ns push).length : Int) := by omega
            have t2 : decide ((k : Int) < ((splitParts ns push).length : Int)) = true := decide_eq_true t1
            have t3 : ((p.length : Int) == 0) = false := by rw [beq_eq_false_iff_ne]; omega
            have t4 : ¬ (p.length : Int) = 0 := by omega
            have t5 : (0 : Int) < (p.length : Int) := by omega
            have w1_ : IntKind.i64.wrap ((k : Int) + 1) = (k : Int) + 1 := IntWalk.i64_in _ (by omega)
            have w2_ : IntKind.i64.wrap (((((splitParts ns push).take k).map List.length).sum : Int) + (p.length : Int)) = ((((splitParts ns push).take k).map List.length).sum : Int) + (p.length : Int) := IntWalk.i64_in _ (by omega)
            clear hp hp1 hp2 hcn hn0
            generalize hsum : (((splitParts ns push).take k).map List.length).sum = sm at w2_ hts hts2 HSN ⊢
            clear hsum
            go_wp2_with fail
            go_loopg [16] (p.length + 1) (fun gk3 c16 wr3 => ∃ j : Nat, 1 ≤ j ∧ j ≤ p.length ∧ p.length < j + gk3 ∧ c16 = .int .i64 (j : Int) ∧ wr3 = wr)
            case atStart => exact ⟨1, Nat.le_refl _, hpp, by omega, rfl, rfl⟩
            case round =>
              obtain ⟨j, hj1, hj, hgk3, rfl, rfl⟩ := hrel
              have z0 : (0 : Int) ≤ (j : Int) := by omega
              have w3_ : IntKind.i64.wrap ((j : Int) + 1) = (j : Int) + 1 := IntWalk.i64_in _ (by omega)
              by_cases hjl : j < p.length
              · obtain ⟨nj, hnj⟩ : ∃ nj, p[j]? = some nj := ⟨p[j], List.getElem?_eq_getElem hjl⟩
                have hcj := HCN.out.1 j nj hnj
                obtain ⟨k1, k2, k3, k4⟩ := HCN.out.2 j nj hj1 hnj
                have z1 : (j : Int) < (p.length : Int) := by omega
                have z2 : decide ((j : Int) < (p.length : Int)) = true := decide_eq_true z1
                have y1 : ((nj.kind : Int) == 1) = false := by rw [beq_eq_false_iff_ne]; omega
                have y2 : ((nj.kind : Int) == 9) = false := by rw [beq_eq_false_iff_ne]; omega
                have y3 : ((nj.kind : Int) == 7) = false := by rw [beq_eq_false_iff_ne]; omega
                have y4 : ((nj.kind : Int) == 8) = false := by rw [beq_eq_false_iff_ne]; omega
                have y5 : ¬ (nj.kind : Int) = 1 := by omega
                have y6 : ¬ (nj.kind : Int) = 9 := by omega
                have y7 : ¬ (nj.kind : Int) = 7 := by omega
                have y8 : ¬ (nj.kind : Int) = 8 := by omega
                clear hnj k1 k2 k3 k4
                go_wp2_with fail
                go_roundg (p.length - j)
                case measure => omega
                case rel => exact ⟨j + 1, by omega, by omega, by omega, rfl, rfl⟩
              · have hjn : j = p.length := by omega
                subst hjn
                have z1 : ¬ (p.length : Int) < (p.length : Int) := by omega
                have z2 : decide ((p.length : Int) < (p.length : Int)) = false := decide_eq_false z1
                go_wp2_with fail
                go_roundg ((splitParts ns push).length - k)
                case measure => omega
                case rel => exact ⟨k + 1, by omega, by omega, rfl, by rw [HSN.out]; rfl, rfl⟩
          · have hkn : k = (splitParts ns push).length := by omega
            subst hkn
            have t1 : ¬ ((splitParts ns push).length : Int) < ((splitParts ns push).length : Int) := by omega
            have t2 : decide (((splitParts ns push).length : Int) < ((splitParts ns push).length : Int)) = false := decide_eq_false t1
            rw [List.take_length] at hts ⊢
            have hra := rest_all HQ.out (push := push)
            have HRA := Lib.hid hra
            have hl0 : 0 < (splitRest ns push).length := by
              have h1 := List.length_filter_le k9 (splitRest ns push)
              have h2 := HLP.out.1
              rw [← HLP.out.2, HKK.out] at h2
              omega
            obtain ⟨gr, cr, hrv, hrn⟩ := rest_row HP.out.pl.no hl0
            injection hrv with r1 r2 r3
            subst r1 r3
            have HRN := Lib.hid hrn
            clear hrn r2 hra
            go_wp2_with fail
            go_loopg [17, 18] ((splitRest ns push).length + 1) (fun gk3 c17 c18 wr3 => ∃ j : Nat, j ≤ (splitRest ns push).length ∧ (splitRest ns push).length < j + gk3 ∧ c18 = .int .i64 (j : Int) ∧ c17 = .int .i64 ((((splitRest ns push).take j).filter k9).length : Int) ∧ wr3 = wr)
            case atStart => exact ⟨0, Nat.zero_le _, by omega, rfl, rfl, rfl⟩
            case round =>
              obtain ⟨j, hj, hgk3, rfl, rfl, rfl⟩ := hrel
              have hfl2 : (((splitRest ns push).take j).filter k9).length ≤ j := Nat.le_trans (List.length_filter_le _ _) (by rw [List.length_take]; omega)
              have z0 : (0 : Int) ≤ (j : Int) := by omega
              by_cases hjl : j < (splitRest ns push).length
              · obtain ⟨nj, hnj⟩ : ∃ nj, (splitRest ns push)[j]? = some nj := ⟨(splitRest ns push)[j], List.getElem?_eq_getElem hjl⟩
                obtain ⟨hc1, hc2⟩ := HRN.out j nj hnj
                have HFX := Lib.hid (filt_next hnj)
                have HRI := Lib.hid (rest_input HQ.out hnj)
                have z1 : (j : Int) < ((splitRest ns push).length : Int) := by omega
                have z2 : decide ((j : Int) < ((splitRest ns push).length : Int)) = true := decide_eq_true z1
                have w3_ : IntKind.i64.wrap ((j : Int) + 1) = (j : Int) + 1 := IntWalk.i64_in _ (by omega)
                have w4_ : IntKind.i64.wrap (((((splitRest ns push).take j).filter k9).length : Int) + 1) = ((((splitRest ns push).take j).filter k9).length : Int) + 1 := IntWalk.i64_in _ (by omega)
                clear hnj
                by_cases hk9 : nj.kind = 9
                · have y1 : ((nj.kind : Int) == 9) = true := by rw [beq_iff_eq]; omega
                  have y2 : (nj.kind : Int) = 9 := by omega
                  have y3 : (nj.n != ((((splitRest ns push).take j).filter k9).length : Int)) = false := by rw [HRI.out hk9]; simp
                  have HE := Lib.hid (show (((splitRest ns push).take (j + 1)).filter k9).length = (((splitRest ns push).take j).filter k9).length + 1 by rw [HFX.out, if_pos hk9])
                  clear hk9
                  generalize (((splitRest ns push).take j).filter k9).length = fl at w4_ y3 HE hfl2 ⊢
                  go_wp2_with fail
                  go_roundg ((splitRest ns push).length - j)
                  case measure => omega
                  case rel => exact ⟨j + 1, by omega, by omega, rfl, by rw [HE.out]; rfl, rfl⟩
                · have y1 : ((nj.kind : Int) == 9) = false := by rw [beq_eq_false_iff_ne]; omega
                  have y2 : ¬ (nj.kind : Int) = 9 := by omega
                  have HE := Lib.hid (show (((splitRest ns push).take (j + 1)).filter k9).length = (((splitRest ns push).take j).filter k9).length by rw [HFX.out, if_neg hk9]; rfl)
                  clear hk9
                  generalize (((splitRest ns push).take j).filter k9).length = fl at w4_ HE hfl2 ⊢
                  go_wp2_with fail
                  go_roundg ((splitRest ns push).length - j)
                  case measure => omega
                  case rel => exact ⟨j + 1, by omega, by omega, rfl, by rw [HE.out], rfl⟩
              · have hjn : j = (splitRest ns push).length := by omega
                subst hjn
                have z1 : ¬ ((splitRest ns push).length : Int) < ((splitRest ns push).length : Int) := by omega
                have z2 : decide (((splitRest ns push).length : Int) < ((splitRest ns push).length : Int)) = false := decide_eq_false z1
                rw [List.take_length, HRA.out]
                have hSC := HSC.out
                generalize ((splitParts ns push).map List.length).sum = sm at hSC hts hsl ⊢
                have w5_ : IntKind.i64.wrap ((sm : Int) + ((splitRest ns push).length : Int)) = (sm : Int) + ((splitRest ns push).length : Int) := IntWalk.i64_in _ (by omega)
                have w6_ : IntKind.i64.wrap ((sm : Int) + ((splitRest ns push).length : Int) - ((fets ns ns.length).length : Int)) = (ns.length : Int) := by
                  rw [IntWalk.i64_in _ (by omega)]
                  omega
                have hbel := HP.out.low
                clear hSC hfl2
                go_wp2_with fail
                go_ret
                exact ⟨rfl, hbel⟩
end Go.Proofs.Ytjpogmomgmjmbaa
