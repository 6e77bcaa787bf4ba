/- Several texts of the proof, joined. -/
import Derived.Test.YtnaehhpikhlppaaGreatDoorD17
import Derived.Test.YtnaehhpikhlppaaGreatDoorD18
import Derived.Test.YtnaehhpikhlppaaGreatDoorD22
import Derived.Deep.CutBlock
import Derived.Test.YtnaehhpikhlppaaGreatDoorD33
import Derived.Test.YtnaehhpikhlppaaGreatDoorD24
import Derived.Test.YtnaehhpikhlppaaGreatDoorD27
import Derived.Test.YtnaehhpikhlppaaGreatDoorD29
set_option maxHeartbeats 4000000
set_option linter.unusedVariables false
set_option linter.unusedSimpArgs false
namespace Go.Proofs.YtnaehhpikhlppaaGreatDoor
open Go.RowKit LexS ParS BigFrame

namespace ParS
theorem cut_nil (b : Bool) : cutGo b [] = 0 := by cases b <;> rfl
theorem cutF_blank {c : UInt8} {r : Bytes} (h : c.toNat = 32) : cutGo false (c :: r) = 0 := by rw [cutGo, if_pos h]
theorem cutF_quote {c : UInt8} {r : Bytes} (h : c.toNat = 34) : cutGo false (c :: r) = cutGo true r + 1 := by rw [cutGo, if_neg (by omega), if_pos h]
theorem cutF_else {c : UInt8} {r : Bytes} (h1 : c.toNat ≠ 32) (h2 : c.toNat ≠ 34) : cutGo false (c :: r) = cutGo false r + 1 := by rw [cutGo, if_neg h1, if_neg h2]
theorem cutT_one (c : UInt8) : cutGo true [c] = if c.toNat = 92 then 2 else 1 := by rw [cutGo]
theorem cutT_esc {c : UInt8} {r : Bytes} (h : c.toNat = 92) : cutGo true (c :: r) = cutGo true (r.drop 1) + 2 := by
  cases r with
  | nil => rw [cutT_one, if_pos h]; rfl
  | cons d r => rw [cut_true_cons, if_pos h]; rfl
theorem cutT_quote {c : UInt8} {r : Bytes} (h : c.toNat = 34) : cutGo true (c :: r) = cutGo false r + 1 := by
  cases r with
  | nil => rw [cutT_one, if_neg (by omega)]; rfl
  | cons d r => rw [cut_true_cons, if_neg (by omega), if_pos h]
theorem cutT_else {c : UInt8} {r : Bytes} (h1 : c.toNat ≠ 92) (h2 : c.toNat ≠ 34) : cutGo true (c :: r) = cutGo true r + 1 := by
  cases r with
  | nil => rw [cutT_one, if_neg h1]; rfl
  | cons d r => rw [cut_true_cons, if_neg h1, if_neg h2]
theorem left_len : ∀ (p : Tk) (r : List Tk), (leftR p r).length ≤ r.length
  | _, [] => Nat.le_refl _
  | p, t :: r => by
    have := left_len t r
    unfold leftR
    split
    · simp; omega
    · exact Nat.le_refl _
theorem trim_rest (l : List Tk) : Lib.trimPrefix (restT l) [32] = spell l := by
  cases l with
  | nil => rfl
  | cons t l =>
    rw [restT_cons]
    unfold Lib.trimPrefix Lib.hasPrefix
    simp
end ParS
theorem toksL_cat (a b : List Tok) : toksL (a ++ b) = toksL a ++ toksL b := by simp [toksL]
theorem toksL_ones (l : List Tok) : ∀ u ∈ toksL l, u.oneCell' = true := by
  intro u hu
  obtain ⟨t, _, hu⟩ := List.mem_flatMap.1 hu
  simp only [tokA, List.mem_cons, List.not_mem_nil, or_false] at hu
  rcases hu with rfl | rfl | rfl | rfl <;> rfl
/-- The texts that are left, and the tokens that stand. -/
def TokRel (w : World) (l : List Tk) (a0 a3 : Value) (done : List Tok) (rest : List Tk) (wr : World) : Prop :=
  a0 = .string (BA (spell rest)) ∧ l = done.map tk ++ rest ∧ wr.ownsRow w.heap.size 65 4 a3 done.length (toksL done) ∧ Below w.heap.size w wr
/-- What a call of tokens answers. -/
def TokP (l : List Tk) (w : World) (e : Ending) (w' : World) : Prop := ∃ v xs, e = .returned v ∧ xs.map tk = l ∧ w'.ownsRow w.heap.size 65 4 v xs.length (toksL xs) ∧ Below w.heap.size w w'
set_option maxRecDepth 100000 in
theorem tokens_any {l : List Tk} (h : ∀ t ∈ l, LexT t) (hn : l.length ≤ 1024) (w : World) (hg : GW w) :
    Calls Tryz.prog 28 #[.string (BA (spell l))] w (TokP l w) := by
  have HL := Lib.hid h
  have HG := Lib.hid hg
  clear h hg
  go_enter Tryz.func28, Tryz.ntmps28
  go_wp2_with fail
  go_loopg [0, 3] (l.length + 1) (fun gk a0 a3 wr => ∃ (done : List Tok) (rest : List Tk), rest.length < gk ∧ TokRel w l a0 a3 done rest wr)
  case atStart => exact ⟨[], l, by omega, rfl, rfl, World.ownsRow_nil _ _ _ _, Below.refl _ _⟩
  case round =>
    obtain ⟨done, rest, hgk, rfl, hl, ho, hb⟩ := hrel
    cases rest with
    | nil =>
      have e0 : spell [] = [] := rfl
      rw [e0]
      go_wp2_with fail
      exact bodyPost_ret (results_tmp rfl _ _ _) rfl ⟨u3, done, rfl, by rw [hl]; simp, ho, hb⟩
    | cons p r =>
      have hsub : ∀ t ∈ p :: r, LexT t := fun t ht => HL.out t (by rw [hl]; exact List.mem_append_right _ ht)
      have hlen : done.length + (r.length + 1) = l.length := by rw [hl]; simp
      obtain ⟨one, xs, q1, q2, q3, q4, q5, q6⟩ := piece_at hsub (by rw [List.length_cons]; omega)
      have hsp := spell_len hsub
      rw [List.length_cons] at hsp
      have hxl : xs.length ≤ 1 + r.length := by
        have e1 := congrArg List.length q6
        have e2 := congrArg List.length (join_left p r)
        rw [List.length_map, List.length_cons] at e1
        rw [List.length_append] at e2
        omega
      have hxne : xs ≠ [] := by
        rintro rfl
        cases q6
      obtain ⟨s, hs⟩ : ∃ s : ByteArray, s = BA (spell (p :: r)) := ⟨_, rfl⟩
      have hsl : s.data.toList = spell (p :: r) := by rw [hs]
      have hss : s.size = (spell (p :: r)).length := by rw [hs]; exact text_size _
      have hone : one.length ≤ s.size := by rw [hss, q1, List.length_append]; omega
      rw [← hs]
      have n2 : s ≠ (⟨#[]⟩ : ByteArray) := fun e => by rw [e] at hone; have : (⟨#[]⟩ : ByteArray).size = 0 := rfl; omega
      have n1 : s.toList.isEmpty = false := by
        rw [← decide_eq_emptyBytes]
        exact decide_eq_false n2
      clear n2
      rw [← hsl] at q2
      have hx1 : (s.extract 0 one.length).data.toList = one := by
        rw [list_cut, hsl, q1, List.take_left, List.drop_zero]
      have hx2 : (s.extract one.length s.size).data.toList = restT (leftR p r) := by
        rw [list_cut, hsl, hss, List.take_length, q1, List.drop_left]
      obtain ⟨n, hnn⟩ : ∃ n, n = one.length := ⟨_, rfl⟩
      have HNN := Lib.hid hnn
      have Q1 := Lib.hid q1
      have Q2 := Lib.hid q2
      have Q5 := Lib.hid q5
      have Q6 := Lib.hid q6
      have HX1 := Lib.hid hx1
      have HX2 := Lib.hid hx2
      have HO := Lib.hid ho
      have HB := Lib.hid hb
      have HLL := Lib.hid hl
      rw [← hnn] at hone q3 q4
      have z1 : s.size ≤ 200000 := by omega
      clear q1 q2 q5 q6 hx1 hx2 ho hb hl hs hsl hss hsub hsp hnn
      go_upto_block 2 with (fail)
      go_cut [4] (fun s4 wx => s4 = .int .i64 (n : Int) ∧ wx = wr)
      case first =>
        go_wp2_with fail
        go_loopg [4, 5] (s.size + 1) (fun gk a4 a5 wr2 => ∃ (i : Nat) (b : Bool), s.size < i + gk ∧ a4 = .int .i64 (i : Int) ∧ a5 = .bool b ∧ i + cutGo b (s.data.toList.drop i) = n ∧ wr2 = wr)
        case atStart => exact ⟨0, false, by omega, rfl, rfl, by rw [List.drop_zero, Q2.out, HNN.out, Nat.zero_add], rfl⟩
        case round =>
          obtain ⟨i, b, hgk2, rfl, rfl, hcut, rfl⟩ := hrel
          match hd : s.data.toList.drop i with
          | [] =>
            have he := at_end hd
            rw [hd, cut_nil] at hcut
            have k0 : ¬ (i : Int) < (s.size : Int) := by omega
            have k1 : decide ((i : Int) < (s.size : Int)) = false := decide_eq_false k0
            clear hd
            go_wp2_with fail
            go_meet
            exact ⟨by rw [← hcut, Nat.add_zero], rfl⟩
          | c :: r2 =>
            obtain ⟨hlt, hc, hr2⟩ := byte_at hd
            rw [hd] at hcut
            have k0 : (i : Int) < (s.size : Int) := by omega
            have k1 : decide ((i : Int) < (s.size : Int)) = true := decide_eq_true k0
            have k2 : (0 : Int) ≤ (i : Int) := by omega
            have v1 : IntKind.i64.wrap ((i : Int) + 1) = (i : Int) + 1 := IntWalk.i64_in _ (by omega)
            have v2 : IntKind.i64.wrap ((i : Int) + 1 + 1) = (i : Int) + 1 + 1 := IntWalk.i64_in _ (by omega)
            have R2 := Lib.hid hr2
            clear hd hr2
            cases b with
            | false =>
              by_cases h32 : c.toNat = 32
              · rw [cutF_blank h32] at hcut
                have g1 : ((c.toNat : Int) != 32) = false := by rw [h32]; rfl
                clear h32
                go_wp2_with fail
                go_meet
                exact ⟨by rw [← hcut, Nat.add_zero], rfl⟩
              · have g1 : ((c.toNat : Int) != 32) = true := by rw [bne_iff_ne]; omega
                by_cases h34 : c.toNat = 34
                · rw [cutF_quote h34] at hcut
                  have g2 : ((c.toNat : Int) == 34) = true := by rw [h34]; rfl
                  clear h34 h32
                  go_wp2_with fail
                  go_roundg (s.size - i)
                  case measure => omega
                  case rel => exact ⟨i + 1, true, by omega, by simp, rfl, by rw [R2.out]; omega, rfl⟩
                · rw [cutF_else h32 h34] at hcut
                  have g2 : ((c.toNat : Int) == 34) = false := by rw [beq_eq_false_iff_ne]; omega
                  clear h34 h32
                  go_wp2_with fail
                  go_roundg (s.size - i)
                  case measure => omega
                  case rel => exact ⟨i + 1, false, by omega, by simp, rfl, by rw [R2.out]; omega, rfl⟩
            | true =>
              by_cases h92 : c.toNat = 92
              · rw [cutT_esc h92] at hcut
                have g2 : ((c.toNat : Int) == 92) = true := by rw [h92]; rfl
                clear h92
                go_wp2_with fail
                go_roundg (s.size - i)
                case measure => omega
                case rel => exact ⟨i + 2, true, by omega, by simp; omega, rfl, by rw [show i + 2 = (i + 1) + 1 from rfl, ← List.drop_drop, R2.out]; omega, rfl⟩
              · have g1 : ((c.toNat : Int) == 92) = false := by rw [beq_eq_false_iff_ne]; omega
                by_cases h34 : c.toNat = 34
                · rw [cutT_quote h34] at hcut
                  have g2 : ((c.toNat : Int) == 34) = true := by rw [h34]; rfl
                  clear h34 h92
                  go_wp2_with fail
                  go_roundg (s.size - i)
                  case measure => omega
                  case rel => exact ⟨i + 1, false, by omega, by simp, rfl, by rw [R2.out]; omega, rfl⟩
                · rw [cutT_else h92 h34] at hcut
                  have g2 : ((c.toNat : Int) == 34) = false := by rw [beq_eq_false_iff_ne]; omega
                  clear h34 h92
                  go_wp2_with fail
                  go_roundg (s.size - i)
                  case measure => omega
                  case rel => exact ⟨i + 1, true, by omega, by simp, rfl, by rw [R2.out]; omega, rfl⟩
      case rest =>
      obtain ⟨rfl, rfl⟩ := hcut
      have k0 : (0 : Int) ≤ (n : Int) := by omega
      have k1 : (n : Int) ≤ (s.size : Int) := by omega
      have hlx := lex_any (s.extract 0 n) (by rw [ByteArray.size_extract]; omega) wc (HG.out.kept HB.out)
      rw [HNN.out, HX1.out, Q5.out] at hlx
      rw [← HNN.out] at hlx
      have HLX := Lib.hid hlx
      clear hlx
      go_wp2_with fail
      refine HLX.out.mono ?_
      rintro e w2 ⟨v, rfl, hr, hb1⟩
      obtain ⟨g, cap, rfl, hc, h1, h2, h3⟩ := row_form hr hxne
      dsimp only at hc
      have HR := Lib.hid (hr.cells (g := g) rfl)
      have HO2 := Lib.hid (own_kept HO.out hb1)
      have HB2 := Lib.hid (chain HB.out hb1)
      obtain ⟨i0, hi0, hz0, hz1, hz2⟩ := info_parts tok_info
      have hsz2 := HB2.out.size
      have HSZ := Lib.hid hsz2
      obtain ⟨o3, cp3, rfl⟩ := row_slice HO2.out
      have htp := Tryz.strings_TrimPrefix (s.extract n s.size) ⟨#[32]⟩
      rw [show (s.extract n s.size).data.toList = restT (leftR p r) by rw [HNN.out]; exact HX2.out, show (⟨#[32]⟩ : ByteArray).data.toList = [32] from rfl, trim_rest] at htp
      have HTP := Lib.hid htp
      clear hr hb1 h1 h2 h3 hsz2 htp
      go_wp2_with (at_builtin; refine wpList_append_own _ rfl _ _ _ rfl w.heap.size 65 i0 _ 4 40 (by kernel_rfl) hi0 hz0 hz1 hz2 rfl (by decide) _ done.length (toksL done) rfl HO2.out ⟨g, 0, none⟩ xs.length cap (toksL xs) rfl (by rw [toksL_len]) HR.out (toksL_ones xs) (by simp only [maxLen]; omega) (by omega) HSZ.out ?_)
      intro v' w' ho' hgr _
      have HO3 := Lib.hid ho'
      have HB3 := Lib.hid (HB2.out.grown hgr HB2.out.size (fun k hk => (HO2.out.lt k hk).1))
      clear ho' hgr
      go_wp2_with fail
      refine (HTP.out _).mono ?_
      rintro e w4 ⟨rfl, rfl⟩
      go_wp2_with fail
      go_roundg ((leftR p r).length + 1)
      case measure => have := left_len p r; simp at hgk; omega
      case rel => exact ⟨done ++ xs, leftR p r, by omega, rfl, by rw [List.map_append, Q6.out, List.append_assoc, List.cons_append, join_left]; exact HLL.out, by rw [List.length_append, toksL_cat]; exact HO3.out, HB3.out⟩
end Go.Proofs.YtnaehhpikhlppaaGreatDoor

namespace Go.Proofs.YtnaehhpikhlppaaGreatDoor
open Go.RowKit LexS ParS BigFrame

theorem qbox {w2 w3 : World} {nv : Value} (h : w2.alloc (.cells #[nv] 25) = w3) : Below w2.heap.size w2 w3 ∧ Blk w3 w2.heap.size 25 #[nv] := by
  subst h
  exact ⟨(Below.refl _ _).alloc (Nat.le_refl _) _, Blk.new w2 25 #[nv]⟩
/-- A query that was read, and may be printed and read again. -/
structure Fine (q : Qr) (ns : List Nd) : Prop extends Good q ns where
  back : parseAll (pQuery 16) q.tok = (ns, 0, 0)
theorem Fine.parse {q : Qr} {ns : List Nd} (h : Fine q ns) {xs : List Tok} (hx : xs.map tk = q.tok) : parseS xs = (ns, 0, 0) := by
  unfold parseS
  rw [hx, h.back]
theorem fine_of {s : Bytes} {ns : List Nd} {a : Nat} (h : queryS s = (ns, a, 0)) : ∃ q, Fine q ns ∧ q.deep ≤ 16 ∧ ((spell q.tok).length ≤ 2048 → queryS (spell q.tok) = (ns, 0, 0)) := by
  obtain ⟨q, h1, h2, h3, h4, h5, h6, h7, h8⟩ := text_back h
  have hp : ∃ l n, parseS l = (ns, n, 0) := by
    unfold queryS at h
    rcases hx : lexS s with ⟨l, b, e⟩
    rw [hx] at h
    dsimp only at h
    by_cases he : e ≠ 0
    · rw [if_pos he] at h
      injection h with _ h5
      injection h5 with _ h7
      exact absurd h7 he
    · rw [if_neg he] at h
      rcases hp : parseS l with ⟨ns2, n, f⟩
      rw [hp] at h
      dsimp only at h
      by_cases hf : f = 0
      · subst hf
        rw [if_pos rfl] at h
        injection h with h4 _
        subst h4
        exact ⟨l, n, hp⟩
      · rw [if_neg hf] at h
        rcases hz : l[n]? with _ | t
        all_goals
          rw [hz] at h
          injection h with _ h5
          injection h5 with _ h7
          exact absurd h7 hf
  obtain ⟨l, n, hp⟩ := hp
  obtain ⟨t1, t2, t3⟩ := parse_tree hp
  exact ⟨q, ⟨⟨h1, ⟨h2, h6, h5⟩, tree_qt t1, fits_qt t1, t3, qt_last t1⟩, h7⟩, h3, h8⟩
section
variable {q : Qr} {ns : List Nd} {g cap : Nat}
theorem Fine.spell (h : Fine q ns) : spell q.tok = q.textB := (query_mid q h.qin.ok).2
set_option maxRecDepth 100000 in
theorem check_fine (hq : Fine q ns) (w : World) (hn : NR w (.slice (some ⟨g, 0, none⟩) ns.length cap) ns) (hp : PW w) :
    Calls Tryz.prog 11 #[.agg #[.slice (some ⟨g, 0, none⟩) ns.length cap]] w fun e w' => e = .returned (.int .i64 0) ∧ Below w.heap.size w w' := by
  obtain ⟨W, hW⟩ : ∃ W, W = w.alloc (.cells #[.slice (some ⟨g, 0, none⟩) ns.length cap] 25) := ⟨_, rfl⟩
  have hbW : Below w.heap.size w W := by rw [hW]; exact (Below.refl _ _).alloc (Nat.le_refl _) _
  have x0 : Blk W w.heap.size 25 #[.slice (some ⟨g, 0, none⟩) ns.length cap] := by rw [hW]; exact Blk.new w _ _
  have c0 : W.cell? ⟨w.heap.size, 0, none⟩ = some (.slice (some ⟨g, 0, none⟩) ns.length cap) := x0.cell 0
  have HW := Lib.hid hW
  have HRW := Lib.hid (show ∀ (K : World → Prop), K W → K (w.alloc (.cells #[.slice (some ⟨g, 0, none⟩) ns.length cap] 25)) from fun K h => by rw [← HW.out]; exact h)
  have HQ := Lib.hid hq
  have HN := Lib.hid hn
  have HP := Lib.hid hp
  have HX := Lib.hid x0
  have HBW := Lib.hid hbW
  have HT := Lib.hid (text_good hq.toGood W (hn.stayP hbW) (hp.kept hbW))
  clear hW hn hp hq x0 hbW
  go_enter Tryz.func11, Tryz.ntmps11
  go_upto_region 1 with fail
  refine HRW.out _ ?_
  go_wp2_with fail
  refine HT.out.mono ?_
  rintro e w2 ⟨rfl, hb2⟩
  have HB2 := Lib.hid (HBW.out.trans (hb2.mono HBW.out.size))
  have HX2 := Lib.hid (HX.out.kept hb2)
  have htk := tokens_any HQ.out.qin.lex HQ.out.qin.few w2 (HP.out.gw.kept HB2.out)
  rw [HQ.out.spell] at htk
  have HTK := Lib.hid htk
  clear hb2 htk c0
  go_wp2_with fail
  refine HTK.out.mono ?_
  rintro e w3 ⟨v, xs, rfl, hxs, hrow, hb3⟩
  have hps := parse_any (own_base hrow (Nat.zero_le _))
  rw [HQ.out.parse hxs] at hps
  have HPS := Lib.hid hps
  have HB3 := Lib.hid (chain HB2.out hb3)
  have HX3 := Lib.hid (HX2.out.kept hb3)
  clear hps hrow hb3 hxs
  go_wp2_with fail
  refine HPS.out.mono ?_
  rintro e w4 ⟨nv, rfl, hns, hb4⟩
  dsimp only at hns
  have HNR := Lib.hid hns.nr
  have HB4 := Lib.hid (chain HB3.out hb4)
  have HX4 := Lib.hid (HX3.out.kept hb4)
  obtain ⟨po, pc, rfl⟩ : ∃ o c, nv = .slice o ns.length c := by
    obtain ⟨p, c, h, _⟩ := HNR.out
    exact ⟨p, c, h⟩
  have HBX := Lib.hid (fun w5 h5 => qbox (w2 := w4) (w3 := w5) (nv := .slice po ns.length pc) h5)
  clear hns hb4
  go_upto_region 6 with fail
  generalize hw5 : World.alloc _ _ = w5
  obtain ⟨hb5, hx5⟩ := HBX.out w5 hw5
  have c1 : w5.cell? ⟨w4.heap.size, 0, none⟩ = some (.slice po ns.length pc) := hx5.cell 0
  have c0 : w5.cell? ⟨w.heap.size, 0, none⟩ = some (.slice (some ⟨g, 0, none⟩) ns.length cap) := (HX4.out.kept hb5).cell 0
  have HB5 := Lib.hid (chain HB4.out hb5)
  have HEF := Lib.hid (equalfunc_p (HNR.out.stayP hb5) (HN.out.stayP (chain HB4.out hb5)))
  clear hw5 hb5 hx5
  go_wp2_with fail
  refine HEF.out.mono ?_
  rintro e w6 ⟨rfl, hb6⟩
  have HB6 := Lib.hid (chain HB5.out hb6)
  clear hb6 c0 c1
  go_wp2_with fail
  exact bodyPost_ret (results_tmp rfl _ _ _) rfl ⟨rfl, HB6.out⟩
/-- What is answered of a text: it, or that it is too long. -/
def shortV (t : Bytes) : Value := if 2048 < t.length then .tuple #[.string ⟨#[]⟩, .int .i64 2] else .tuple #[.string (BA t), .int .i64 0]
set_option maxRecDepth 100000 in
theorem print_fine (hq : Fine q ns) (w : World) (hn : NR w (.slice (some ⟨g, 0, none⟩) ns.length cap) ns) (hp : PW w) :
    Calls Tryz.prog 9 #[.agg #[.slice (some ⟨g, 0, none⟩) ns.length cap]] w fun e w' => e = .returned (shortV q.textB) ∧ Below w.heap.size w w' := by
  obtain ⟨W, hW⟩ : ∃ W, W = w.alloc (.cells #[.slice (some ⟨g, 0, none⟩) ns.length cap] 25) := ⟨_, rfl⟩
  have hbW : Below w.heap.size w W := by rw [hW]; exact (Below.refl _ _).alloc (Nat.le_refl _) _
  have x0 : Blk W w.heap.size 25 #[.slice (some ⟨g, 0, none⟩) ns.length cap] := by rw [hW]; exact Blk.new w _ _
  have c0 : W.cell? ⟨w.heap.size, 0, none⟩ = some (.slice (some ⟨g, 0, none⟩) ns.length cap) := x0.cell 0
  have HW := Lib.hid hW
  have HRW := Lib.hid (show ∀ (K : World → Prop), K W → K (w.alloc (.cells #[.slice (some ⟨g, 0, none⟩) ns.length cap] 25)) from fun K h => by rw [← HW.out]; exact h)
  have HX := Lib.hid x0
  have HBW := Lib.hid hbW
  have HC := Lib.hid (check_fine hq W (hn.stayP hbW) (hp.kept hbW))
  have HT := Lib.hid (fun w' (hb : Below W.heap.size W w') => text_good hq.toGood w' ((hn.stayP hbW).stayP hb) ((hp.kept hbW).kept hb))
  have hsh := short_any (BA q.textB)
  rw [text_size] at hsh
  obtain ⟨tt, htt⟩ : ∃ tt, tt = q.textB := ⟨_, rfl⟩
  rw [← htt] at hsh HT ⊢
  have HSH := Lib.hid hsh
  clear hW hn hp hq x0 hbW hsh htt
  go_enter Tryz.func9, Tryz.ntmps9
  go_upto_region 1 with fail
  refine HRW.out _ ?_
  go_wp2_with fail
  refine HC.out.mono ?_
  rintro e w2 ⟨rfl, hb2⟩
  have HB2 := Lib.hid hb2
  have c0 : w2.cell? ⟨w.heap.size, 0, none⟩ = some (.slice (some ⟨g, 0, none⟩) ns.length cap) := (HX.out.kept hb2).cell 0
  clear hb2
  go_wp2_with fail
  refine (HT.out _ HB2.out).mono ?_
  rintro e w3 ⟨rfl, hb3⟩
  have HB3 := Lib.hid (HBW.out.trans ((chain HB2.out hb3).mono HBW.out.size))
  clear hb3 c0
  go_wp2_with fail
  refine (HSH.out _).mono ?_
  rintro e w4 ⟨rfl, rfl⟩
  by_cases hl : 2048 < tt.length
  · rw [if_pos hl]
    go_wp2_with fail
    exact bodyPost_ret (v := .tuple #[.string ⟨#[]⟩, .int .i64 2]) (by simp [results, Tryz.results9, go_sem]) rfl ⟨by unfold shortV; rw [if_pos hl], HB3.out⟩
  · rw [if_neg hl]
    go_wp2_with fail
    exact bodyPost_ret (v := .tuple #[.string (BA tt), .int .i64 0]) (by simp [results, Tryz.results9, go_sem]) rfl ⟨by unfold shortV; rw [if_neg hl], HB3.out⟩
end
end Go.Proofs.YtnaehhpikhlppaaGreatDoor

namespace Go.Proofs.YtnaehhpikhlppaaGreatDoor
open LexS ParS

theorem brkN_ge (r w n : Nat) : n ≤ brkN r w n := by
  unfold brkN
  split <;> omega
/-- A condition's node is the last of a condition. -/
def SubC (ns : List Nd) (i : Nat) : Prop := ∃ (d : Cd) (e : Nat), i + 1 = e + d.len ∧ CondIn 0 d ∧ d.deepB ≤ 16 ∧ At ns e (d.flat e)
theorem cond_sub {ns : List Nd} {i : Nat} : ∀ (c : Cd) (b w : Nat), CondIn w c → c.deepB ≤ 16 → At ns b (c.flat b) → b ≤ i → i < b + c.len → SubC ns i
  | .cmp s n v, b, w, h, hd, ha, h1, h2 => ⟨.cmp s n v, b, by have e : Cd.len (.cmp s n v) = 1 := rfl; omega, h.base, hd, ha⟩
  | .has s t, b, w, h, hd, ha, h1, h2 => ⟨.has s t, b, by have e : Cd.len (.has s t) = 1 := rfl; omega, h.base, hd, ha⟩
  | .not c, b, w, h, hd, ha, h1, h2 => by
    have e : Cd.len (.not c) = c.len + 1 := rfl
    have hd2 : brkN c.rank 3 c.deepB + 1 ≤ 16 := hd
    have := brkN_ge c.rank 3 c.deepB
    by_cases hi : i = b + c.len
    · exact ⟨.not c, b, by omega, h.base, hd, ha⟩
    · exact cond_sub c b 3 h.inNot (by omega) ha.left h1 (by omega)
  | .and x y, b, w, h, hd, ha, h1, h2 => by
    have e : Cd.len (.and x y) = x.len + y.len + 1 := rfl
    have hd2 : max (brkN x.rank 2 x.deepB) (brkN y.rank 3 y.deepB) ≤ 16 := hd
    have := brkN_ge x.rank 2 x.deepB
    have := brkN_ge y.rank 3 y.deepB
    have ha2 := ha.left.right
    rw [Cd.flat_len] at ha2
    by_cases hi : i = b + x.len + y.len
    · exact ⟨.and x y, b, by omega, h.base, hd, ha⟩
    · by_cases hx : i < b + x.len
      · exact cond_sub x b 2 h.inAnd.1 (by omega) ha.left.left h1 hx
      · exact cond_sub y (b + x.len) 3 h.inAnd.2 (by omega) ha2 (by omega) (by omega)
  | .or x y, b, w, h, hd, ha, h1, h2 => by
    have e : Cd.len (.or x y) = x.len + y.len + 1 := rfl
    have hd2 : max (brkN x.rank 1 x.deepB) (brkN y.rank 2 y.deepB) ≤ 16 := hd
    have := brkN_ge x.rank 1 x.deepB
    have := brkN_ge y.rank 2 y.deepB
    have ha2 := ha.left.right
    rw [Cd.flat_len] at ha2
    by_cases hi : i = b + x.len + y.len
    · exact ⟨.or x y, b, by omega, h.base, hd, ha⟩
    · by_cases hx : i < b + x.len
      · exact cond_sub x b 1 h.inOr.1 (by omega) ha.left.left h1 hx
      · exact cond_sub y (b + x.len) 2 h.inOr.2 (by omega) ha2 (by omega) (by omega)
/-- A node of rows. -/
def SubR (ns : List Nd) (i : Nat) : Prop := ∃ nd, ns[i]? = some nd ∧ nd.kind < 11
theorem query_sub {ns : List Nd} {i : Nat} : ∀ (q : Qr) (b : Nat), QueryIn q → q.deep ≤ 16 → At ns b (q.flat b) → b ≤ i → i < b + q.len → SubR ns i ∨ SubC ns i
  | .fetch s f t, b, h, hd, ha, h1, h2 => by
    have e : Qr.len (.fetch s f t) = 1 := rfl
    obtain rfl : i = b := by omega
    exact .inl ⟨_, ha.one, by show 1 < 11; omega⟩
  | .where_ q c, b, h, hd, ha, h1, h2 => by
    have e : Qr.len (.where_ q c) = q.len + c.len + 1 := rfl
    have hd2 : max q.deep (c.deep 0) ≤ 16 := hd
    rw [Cd.deep0] at hd2
    have ha2 := ha.left.right
    rw [Qr.flat_len] at ha2
    have ha3 := ha.right.one
    rw [List.length_append, Qr.flat_len, Cd.flat_len] at ha3
    by_cases hi : i = b + q.len + c.len
    · subst hi
      exact .inl ⟨_, by rw [Nat.add_assoc]; exact ha3, by show 2 < 11; omega⟩
    · by_cases hx : i < b + q.len
      · exact query_sub q b h.inWhere.1 (by omega) ha.left.left h1 hx
      · exact .inr (cond_sub c (b + q.len) 0 h.inWhere.2 (by omega) ha2 (by omega) (by omega))
  | .keep q l, b, h, hd, ha, h1, h2 => by
    have e : Qr.len (.keep q l) = q.len + 1 := rfl
    have ha3 := ha.right.one
    rw [Qr.flat_len] at ha3
    by_cases hi : i = b + q.len
    · subst hi
      exact .inl ⟨_, ha3, by show 3 < 11; omega⟩
    · exact query_sub q b h.inKeep.1 hd ha.left h1 (by omega)
  | .align q n, b, h, hd, ha, h1, h2 => by
    have e : Qr.len (.align q n) = q.len + 1 := rfl
    have ha3 := ha.right.one
    rw [Qr.flat_len] at ha3
    by_cases hi : i = b + q.len
    · subst hi
      exact .inl ⟨_, ha3, by show 4 < 11; omega⟩
    · exact query_sub q b h.inAlign.1 hd ha.left h1 (by omega)
  | .group q l g, b, h, hd, ha, h1, h2 => by
    have e : Qr.len (.group q l g) = q.len + 1 := rfl
    have ha3 := ha.right.one
    rw [Qr.flat_len] at ha3
    by_cases hi : i = b + q.len
    · subst hi
      exact .inl ⟨_, ha3, by show 5 < 11; omega⟩
    · exact query_sub q b h.inGroup.1 hd ha.left h1 (by omega)
  | .top q n s, b, h, hd, ha, h1, h2 => by
    have e : Qr.len (.top q n s) = q.len + 1 := rfl
    have ha3 := ha.right.one
    rw [Qr.flat_len] at ha3
    by_cases hi : i = b + q.len
    · subst hi
      exact .inl ⟨_, ha3, by show 6 < 11; omega⟩
    · exact query_sub q b h.inTop.1 hd ha.left h1 (by omega)
  | .join q r, b, h, hd, ha, h1, h2 => by
    have e : Qr.len (.join q r) = q.len + r.len + 1 := rfl
    have hd2 : max q.deep (r.deep + 1) ≤ 16 := hd
    have ha2 := ha.left.right
    rw [Qr.flat_len] at ha2
    have ha3 := ha.right.one
    rw [List.length_append, Qr.flat_len, Qr.flat_len] at ha3
    by_cases hi : i = b + q.len + r.len
    · subst hi
      exact .inl ⟨_, by rw [Nat.add_assoc]; exact ha3, by show 7 < 11; omega⟩
    · by_cases hx : i < b + q.len
      · exact query_sub q b h.inJoin.1 (by omega) ha.left.left h1 hx
      · exact query_sub r (b + q.len) h.inJoin.2 (by omega) ha2 (by omega) (by omega)
  | .union q r, b, h, hd, ha, h1, h2 => by
    have e : Qr.len (.union q r) = q.len + r.len + 1 := rfl
    have hd2 : max q.deep (r.deep + 1) ≤ 16 := hd
    have ha2 := ha.left.right
    rw [Qr.flat_len] at ha2
    have ha3 := ha.right.one
    rw [List.length_append, Qr.flat_len, Qr.flat_len] at ha3
    by_cases hi : i = b + q.len + r.len
    · subst hi
      exact .inl ⟨_, by rw [Nat.add_assoc]; exact ha3, by show 8 < 11; omega⟩
    · by_cases hx : i < b + q.len
      · exact query_sub q b h.inUnion.1 (by omega) ha.left.left h1 hx
      · exact query_sub r (b + q.len) h.inUnion.2 (by omega) ha2 (by omega) (by omega)
/-- A node further behind. -/
def shN (k : Nat) (nd : Nd) : Nd := { nd with l := nd.l.map (· + k) }
theorem flat_shift : ∀ (c : Cd) (b k : Nat), c.flat (b + k) = (c.flat b).map (shN k)
  | .cmp _ _ _, _, _ => rfl
  | .has _ _, _, _ => rfl
  | .not c, b, k => by
    have hp := c.pos
    show c.flat (b + k) ++ [node 13 [b + k + c.len - 1]] = (c.flat b ++ [node 13 [b + c.len - 1]]).map (shN k)
    rw [List.map_append, ← flat_shift c b k, show b + k + c.len - 1 = b + c.len - 1 + k by omega]
    rfl
  | .and x y, b, k => by
    have hp := x.pos
    have hq := y.pos
    show x.flat (b + k) ++ y.flat (b + k + x.len) ++ [node 11 [b + k + x.len - 1, b + k + x.len + y.len - 1]] = (x.flat b ++ y.flat (b + x.len) ++ [node 11 [b + x.len - 1, b + x.len + y.len - 1]]).map (shN k)
    rw [List.map_append, List.map_append, ← flat_shift x b k, ← flat_shift y (b + x.len) k, show b + k + x.len = b + x.len + k by omega, show b + x.len + k - 1 = b + x.len - 1 + k by omega, show b + x.len + k + y.len - 1 = b + x.len + y.len - 1 + k by omega]
    rfl
  | .or x y, b, k => by
    have hp := x.pos
    have hq := y.pos
    show x.flat (b + k) ++ y.flat (b + k + x.len) ++ [node 12 [b + k + x.len - 1, b + k + x.len + y.len - 1]] = (x.flat b ++ y.flat (b + x.len) ++ [node 12 [b + x.len - 1, b + x.len + y.len - 1]]).map (shN k)
    rw [List.map_append, List.map_append, ← flat_shift x b k, ← flat_shift y (b + x.len) k, show b + k + x.len = b + x.len + k by omega, show b + x.len + k - 1 = b + x.len - 1 + k by omega, show b + x.len + k + y.len - 1 = b + x.len + y.len - 1 + k by omega]
    rfl
/-- A condition's nodes, as it is read by itself. -/
theorem sub_nodes {ns : List Nd} {d : Cd} {e : Nat} (h : At ns e (d.flat e)) {k : Nat} {nd : Nd} (hk : (d.flat 0)[k]? = some nd) : ns[e + k]? = some (shN e nd) := by
  refine h k _ ?_
  have := flat_shift d 0 e
  rw [Nat.zero_add] at this
  rw [this, List.getElem?_map, hk]
  rfl
theorem sub_kinds : ∀ (d : Cd) (b : Nat), ∀ nd ∈ d.flat b, 11 ≤ nd.kind
  | .cmp s n v, b, nd, h => by
    have e : nd = { node 14 [] with s := s, n := (n : Int), v := v } := by simpa [Cd.flat] using h
    subst e
    show 11 ≤ 14
    omega
  | .has s t, b, nd, h => by
    have e : nd = { node 15 [] with s := s, v := ⟨2, 0, t⟩ } := by simpa [Cd.flat] using h
    subst e
    show 11 ≤ 15
    omega
  | .not c, b, nd, h => by
    rcases List.mem_append.1 h with h | h
    · exact sub_kinds c b nd h
    · rw [List.mem_singleton] at h
      subst h
      show 11 ≤ 13
      omega
  | .and x y, b, nd, h => by
    rcases List.mem_append.1 h with h | h
    · rcases List.mem_append.1 h with h | h
      · exact sub_kinds x b nd h
      · exact sub_kinds y _ nd h
    · rw [List.mem_singleton] at h
      subst h
      exact Nat.le_refl 11
  | .or x y, b, nd, h => by
    rcases List.mem_append.1 h with h | h
    · rcases List.mem_append.1 h with h | h
      · exact sub_kinds x b nd h
      · exact sub_kinds y _ nd h
    · rw [List.mem_singleton] at h
      subst h
      show 11 ≤ 12
      omega
/-- The text of a condition is cut and read as its own nodes. -/
theorem sub_back {ns : List Nd} (h128 : ns.length ≤ 128) {i e : Nat} (hi : i < ns.length) {d : Cd} (he : i + 1 = e + d.len) (hc : CondIn 0 d) (hd : d.deepB ≤ 16) (hl : (d.textB 0).length ≤ 2048) :
    ∃ xs, lexS (d.textB 0) = (xs, 0, 0) ∧ condS xs = (d.flat 0, 0, 0) := by
  have ht := (cond_text hc.ok 0).2
  rw [← ht] at hl ⊢
  obtain ⟨xs, h1, h2⟩ := lex_spell hc.lex hl
  refine ⟨xs, h1, ?_⟩
  unfold condS
  rw [h2, Cd.tok0]
  have hf := hc.few
  rw [Cd.tok0] at hf
  exact condparse_back hc.ok (by omega) hf hd
end Go.Proofs.YtnaehhpikhlppaaGreatDoor
