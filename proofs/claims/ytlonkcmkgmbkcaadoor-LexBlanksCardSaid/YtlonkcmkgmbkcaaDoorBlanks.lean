/- LexBlanks: the walk. -/
import Derived.Test.YtlonkcmkgmbkcaaDoorSame
import Derived.Test.YtlonkcmkgmbkcaaDoorBlanksP
import Derived.Laws.AppendOwnNone
namespace Go.Proofs.YtlonkcmkgmbkcaaDoor
open Go.RowKit LexS
set_option maxHeartbeats 4000000

def bl (j : Nat) : UInt8 := [32, 10, 9, 13].getD (j % 4) 32
def cyc : Nat → Bytes
  | 0 => []
  | k + 1 => cyc k ++ [bl k]
theorem cyc_len (k : Nat) : (cyc k).length = k := by induction k with
  | zero => rfl
  | succ k ih => simp [cyc, ih]
theorem bl_blank (j : Nat) : blankB (bl j) = true := by
  have h : j % 4 = 0 ∨ j % 4 = 1 ∨ j % 4 = 2 ∨ j % 4 = 3 := by omega
  unfold bl
  rcases h with h | h | h | h <;> rw [h] <;> decide
theorem cyc_blank (k : Nat) : ∀ c ∈ cyc k, blankB c = true := by induction k with
  | zero => intro c h; cases h
  | succ k ih =>
    intro c h
    simp only [cyc, List.mem_append, List.mem_singleton] at h
    rcases h with h | rfl
    · exact ih c h
    · exact bl_blank k
theorem cut_blank (j : Nat) : (⟨#[32, 10, 9, 13]⟩ : ByteArray).extract (j % 4) (j % 4 + 1) = ⟨#[bl j]⟩ := by
  have h : j % 4 = 0 ∨ j % 4 = 1 ∨ j % 4 = 2 ∨ j % 4 = 3 := by omega
  unfold bl
  rcases h with h | h | h | h <;> rw [h] <;> rfl

theorem append_row {P : Program} {w : World} {ops : Array Oper} {rest : List Oper} {o : Oper} {a : Act} {Q : Exit → Act → World → Prop} (hgd : o.guard = none) (s x : Operand) (t : TypeId)
    (ho : o.op = .call { callee := .builtin .append, args := #[s, x], argTypes := #[t, t] })
    (base : Nat) (e : TypeId) (i : TypeInfo) (z : Value) (size bytes : Nat) (ht : P.underlying t = some (.slice e)) (hi : P.info? e = some i) (hz : i.zero = some z)
    (hsize : i.size = size) (hby : i.bytes = bytes) (hzs : z.cells.size = size) (hsz : 0 < size)
    (v : Value) (n : Nat) (xs : List Value) (hs : a.eval s = v) (hown : w.ownsRow base e size v n xs)
    (b2 : Nat) (v2 : Value) (m : Nat) (ys : List Value) (hx : a.eval x = v2) (ho2 : w.ownsRow b2 e size v2 m ys) (h1 : ∀ u ∈ ys, u.oneCell' = true)
    (h63 : n + m ≤ maxLen) (hbytes : (n + m) * bytes ≤ 140737488355328) (hbase : base ≤ w.heap.size)
    (h : ∀ v' w', w'.ownsRow base e size v' (n + m) (xs ++ ys) → w.grownBy w' v.ownBlock → wpList P ops Q rest (a.put o.dst v') w') : wpList P ops Q (o :: rest) a w := by
  rcases ho2.2 with ⟨rfl, rfl⟩ | ⟨g, cap, cur, rfl, _⟩
  · have hy : ys = [] := List.eq_nil_of_length_eq_zero (by simpa using ho2.1)
    subst hy
    exact wpList_append_own_none hgd s x t ho base e i size ht hi v n xs hs hown hx (h v w (by simpa using hown) (World.grownBy.refl w _))
  · exact wpList_append_own w hgd s x t ho base e i z size bytes ht hi hz hsize hby hzs hsz v n xs hs hown ⟨g, 0, none⟩ m cap ys hx ho2.1 (ho2.cells rfl) h1 h63 hbytes hbase (fun v' w' h2 h3 _ => h v' w' h2 h3)
theorem toksL_one (l : List Tok) : ∀ u ∈ toksL l, u.oneCell' = true := by
  intro u hu
  simp only [toksL, List.mem_flatMap] at hu
  obtain ⟨t, _, h⟩ := hu
  simp [tokA] at h
  rcases h with rfl | rfl | rfl | rfl <;> rfl
theorem toksL_both (l r : List Tok) : toksL l ++ toksL r = toksL (l ++ r) := by simp [toksL]
theorem empty_row (w W : World) (h : w.heap.size ≤ W.heap.size) : (W.alloc (.cells #[] 32)).ownsRow w.heap.size 32 4 (.slice (some ⟨W.heap.size, 0, none⟩) 0 0) 0 [] :=
  ⟨rfl, .inr ⟨W.heap.size, 0, #[], rfl, h, heap_alloc_new W _, Nat.le_refl _, Nat.zero_le _, rfl, rfl⟩⟩
theorem same_of_strip {x y : List Tok} (h : x.map strip = y.map strip) : SameToks false x y := by
  refine ⟨by simpa using congrArg List.length h, fun i t u ht hu => ?_⟩
  have h2 := congrArg (·[i]?) h
  simp only [List.getElem?_map, ht, hu, Option.map_some, Option.some.injEq] at h2
  have := congrArg Tok.kind h2
  have := congrArg Tok.s h2
  have := congrArg Tok.n h2
  exact ⟨by assumption, by assumption, by assumption, fun h => by cases h⟩
theorem lexS_few (l : Bytes) (xs : List Tok) (h : lexS l = (xs, 0, 0)) : xs.length ≤ 2048 := by
  have hg := lexS_good l
  have hs := lexS_small l (by rw [h])
  rw [h] at hg
  rcases hg with ⟨_, _, hg⟩ | ⟨h0, _⟩
  · rcases Nat.lt_or_ge l.length xs.length with hl | hl
    · exfalso
      have key : ∀ k, k < xs.length → ∀ t, xs[k]? = some t → k ≤ t.at_ := by
        intro k
        induction k with
        | zero => intro _ t _; exact Nat.zero_le _
        | succ k ih =>
          intro hk t ht
          obtain ⟨u, hu⟩ : ∃ u, xs[k]? = some u := ⟨xs[k]'(by omega), List.getElem?_eq_getElem (by omega)⟩
          have h1 := ih (by omega) u hu
          have h2 := (hg (k + 1) t ht).2.1 k u (by omega) hu
          omega
      obtain ⟨u, hu⟩ : ∃ u, xs[l.length]? = some u := ⟨xs[l.length]'hl, List.getElem?_eq_getElem hl⟩
      have h1 := key l.length hl u hu
      have h2 := (hg l.length u hu).1
      omega
    · omega
  · exact absurd rfl h0

set_option maxRecDepth 100000 in
theorem blanks_any (s t : ByteArray) (n : Int) (hs : s.size ≤ 140737488351232) (ht : t.size ≤ 140737488351232) (hn : (Lit.int .i64 n).wf = true) (w : World) (hg : GW w) :
    Calls Tryd.prog 4 #[.string s, .string t, .int .i64 n] w fun e w' => e = .returned (.bool true) ∧ Below w.heap.size w w' := by
  have hsh := shown_any w hg
  have bn : -9223372036854775808 ≤ n ∧ n ≤ 9223372036854775807 := by
    have h := hn
    simp [Lit.wf, IntKind.min, IntKind.max, IntKind.signed, IntKind.bits] at h
    omega
  go_enter Tryd.func4, Tryd.ntmps4
  go_wp2_with fail
  refine hsh.mono ?_
  rintro e w1 ⟨rfl, b1⟩
  have hg1 := hg.kept b1
  clear hsh hg hn
  by_cases h9 : s.size > 900 ∨ t.size > 900
  · have HB := Lib.hid b1
    by_cases hs9 : 900 < s.size
    · have q1 : (900 : Int) < (s.size : Int) := by omega
      have q2 : decide ((900 : Int) < (s.size : Int)) = true := decide_eq_true q1
      have q3 : decide (900 < s.size) = true := decide_eq_true hs9
      clear h9
      go_wp2_with fail
      exact bodyPost_ret (results_tmp rfl _ _ _) rfl ⟨rfl, HB.out⟩
    · have q1 : ¬ (900 : Int) < (s.size : Int) := by omega
      have q2 : decide ((900 : Int) < (s.size : Int)) = false := decide_eq_false q1
      have q3 : decide (900 < s.size) = false := decide_eq_false hs9
      have q4 : (900 : Int) < (t.size : Int) := by omega
      have q5 : decide ((900 : Int) < (t.size : Int)) = true := decide_eq_true q4
      have q6 : decide (900 < t.size) = true := decide_eq_true (by omega)
      clear h9
      go_wp2_with fail
      exact bodyPost_ret (results_tmp rfl _ _ _) rfl ⟨rfl, HB.out⟩
  · have p1 : ¬ (900 : Int) < (s.size : Int) := by omega
    have p2 : decide ((900 : Int) < (s.size : Int)) = false := decide_eq_false p1
    have p3 : decide (900 < s.size) = false := decide_eq_false (by omega)
    have p4 : ¬ (900 : Int) < (t.size : Int) := by omega
    have p5 : decide ((900 : Int) < (t.size : Int)) = false := decide_eq_false p4
    have p6 : decide (900 < t.size) = false := decide_eq_false (by omega)
    have s9 : s.size ≤ 900 := by omega
    have t9 : t.size ≤ 900 := by omega
    clear h9
    go_upto_if 31 with (fail)
    go_cut [2] (fun s0 wx => (∃ n : Nat, (n : Int) ≤ 9223372036854775807 ∧ s0 = .int .i64 (n : Int)) ∧ Below w.heap.size w wx ∧ GW wx)
    case first =>
      have H2 := Lib.hid (And.intro b1 hg1)
      clear b1 hg1
      by_cases h0 : n < 0
      · have g : decide (n < 0) = true := decide_eq_true h0
        go_wp2_with fail
        go_meet
        exact ⟨⟨(-(n + 1)).toNat, by omega, by go_num⟩, H2.out⟩
      · have g : decide (n < 0) = false := decide_eq_false h0
        go_wp2_with fail
        go_meet
        exact ⟨⟨n.toNat, by omega, by go_num⟩, H2.out⟩
    case rest =>
      obtain ⟨⟨m, hm, rfl⟩, hb2, hg2⟩ := hcut
      clear bn b1 hg1
      have t40 : Int.tmod (m : Int) 40 = ((m % 40 : Nat) : Int) := (Int.ofNat_tmod m 40).symm
      have h40 : m % 40 < 40 := Nat.mod_lt _ (by omega)
      obtain ⟨j, hj⟩ : ∃ j, j = m % 40 := ⟨_, rfl⟩
      rw [← hj] at t40 h40
      clear hj hm
      have HB := Lib.hid hb2
      have HG := Lib.hid hg2
      clear hb2 hg2
      go_wp2_with fail
      go_loopg [8, 9] (j + 2) (fun gk sv c wr => ∃ i : Nat, i ≤ j + 1 ∧ j + 1 < i + gk ∧ sv = .string ⟨(cyc i).toArray⟩ ∧ c = .int .i64 (i : Int) ∧ wr = wc)
      case atStart => exact ⟨0, by omega, by omega, rfl, rfl, rfl⟩
      case round =>
        obtain ⟨i, hi, hgk, rfl, rfl, rfl⟩ := hrel
        by_cases hij : i ≤ j
        · have i1 : (i : Int) ≤ (j : Int) := by omega
          have i2 : decide ((i : Int) ≤ (j : Int)) = true := decide_eq_true i1
          have i3 : decide (i ≤ j) = true := decide_eq_true hij
          have t4 : Int.tmod (i : Int) 4 = ((i % 4 : Nat) : Int) := (Int.ofNat_tmod i 4).symm
          have h4 : i % 4 < 4 := Nat.mod_lt _ (by omega)
          have hcb := cut_blank i
          have hcat : (⟨(cyc i).toArray⟩ : ByteArray) ++ ⟨#[bl i]⟩ = ⟨(cyc (i + 1)).toArray⟩ := ByteArray.mk_append_mk (cyc i) [bl i]
          have hz : (⟨(cyc i).toArray⟩ : ByteArray).size = i := by simp [ByteArray.size, cyc_len]
          obtain ⟨d, hd⟩ : ∃ d, d = i % 4 := ⟨_, rfl⟩
          rw [← hd] at t4 h4 hcb
          obtain ⟨C, hC⟩ : ∃ C : ByteArray, C = ⟨(cyc i).toArray⟩ := ⟨_, rfl⟩
          obtain ⟨E, hE⟩ : ∃ E : ByteArray, E = ⟨#[bl i]⟩ := ⟨_, rfl⟩
          have hEs : E.size = 1 := by rw [hE]; rfl
          rw [← hC] at hcat hz ⊢
          rw [← hE] at hcb hcat
          have a1 : (0 : Int) ≤ (d : Int) + 1 := by omega
          have a2 : (d : Int) ≤ (d : Int) + 1 := by omega
          have a3 : (d : Int) + 1 ≤ 4 := by omega
          have a4 : ((d : Int) + 1).toNat = d + 1 := by omega
          have a5 : (0 : Int) ≤ (d : Int) := by omega
          have a6 : IntKind.i64.wrap ((d : Int) + 1) = (d : Int) + 1 := IntWalk.i64_in _ (by omega)
          have a7 : IntKind.i64.wrap ((i : Int) + 1) = (i : Int) + 1 := IntWalk.i64_in _ (by omega)
          have HC := Lib.hid hC
          have HT := Lib.hid hcat
          clear hC hE hd hcat
          go_wp2_with fail
          go_roundg (j + 1 - i)
          case measure => omega
          case rel => exact ⟨i + 1, by omega, by omega, by rw [HT.out], rfl, rfl⟩
        · have hie : i = j + 1 := by omega
          have i1 : ¬ (i : Int) ≤ (j : Int) := by omega
          have i2 : decide ((i : Int) ≤ (j : Int)) = false := decide_eq_false i1
          have i3 : decide (i ≤ j) = false := decide_eq_false hij
          have hz : (⟨(cyc i).toArray⟩ : ByteArray).size = i := by simp [ByteArray.size, cyc_len]
          have hcb := cyc_blank i
          have hcn : cyc i ≠ [] := by intro h; have := cyc_len i; rw [h] at this; simp at this; omega
          have hcl := cyc_len i
          obtain ⟨C, hC⟩ : ∃ C : ByteArray, C = ⟨(cyc i).toArray⟩ := ⟨_, rfl⟩
          rw [← hC] at hz ⊢
          have hlist : (C ++ s ++ C ++ t ++ C).data.toList = cyc i ++ s.data.toList ++ cyc i ++ t.data.toList ++ cyc i := by
            rw [hC]; simp
          have hsz : (C ++ s ++ C ++ t ++ C).size = i + s.size + i + t.size + i := by simp [ByteArray.size_append, hz]
          have k1 := lex_any s hs
          have k2 := lex_any t ht
          have k3 := lex_any (C ++ s ++ C ++ t ++ C) (by rw [hsz]; omega)
          rw [hlist] at k3
          have hgs := lexS_good s.data.toList
          have hgt := lexS_good t.data.toList
          have hbl := lex_blanks (cyc i) s.data.toList t.data.toList
          have hll : (cyc i ++ s.data.toList ++ cyc i ++ t.data.toList ++ cyc i).length ≤ 2048 := by
            have e1 := size_list s
            have e2 := size_list t
            simp only [List.length_append] at *
            omega
          have hf1 := lexS_few s.data.toList
          have hf2 := lexS_few t.data.toList
          obtain ⟨⟨xs, ax, ex⟩, hx⟩ : ∃ q, q = lexS s.data.toList := ⟨_, rfl⟩
          obtain ⟨⟨ys, ay, ey⟩, hy⟩ : ∃ q, q = lexS t.data.toList := ⟨_, rfl⟩
          obtain ⟨⟨zs, az, ez⟩, hzz⟩ : ∃ q, q = lexS (cyc i ++ s.data.toList ++ cyc i ++ t.data.toList ++ cyc i) := ⟨_, rfl⟩
          rw [← hx] at k1 hgs hbl hf1
          rw [← hy] at k2 hgt hbl hf2
          rw [← hzz] at k3 hbl
          dsimp only at hgs hgt
          have z1 : (C.size : Int) ≤ 40 := by omega
          have z2 : (s.size : Int) ≤ 900 := by omega
          have z3 : (t.size : Int) ≤ 900 := by omega
          have z4 : (C ++ s : ByteArray).size = C.size + s.size := ByteArray.size_append
          have z5 : (C ++ s ++ C : ByteArray).size = C.size + s.size + C.size := by simp [ByteArray.size_append]
          have z6 : (C ++ s ++ C ++ t : ByteArray).size = C.size + s.size + C.size + t.size := by simp [ByteArray.size_append]
          have HBL := Lib.hid (hbl · · hcb hcn · · hll)
          have HF1 := Lib.hid hf1
          have HF2 := Lib.hid hf2
          have HGS := Lib.hid hgs
          have HGT := Lib.hid hgt
          clear hC hcb hcn hcl hlist hsz hx hy hzz hbl hll hie hij hf1 hf2 hgs hgt hz
          go_wp2_with fail
          refine (k1 _ HG.out).mono ?_
          rintro e w2 ⟨v1, rfl, o1, c1⟩
          have hg2 := HG.out.kept c1
          dsimp only at o1 ⊢
          go_wp2_with fail
          refine (k2 _ hg2).mono ?_
          rintro e w3 ⟨v2, rfl, o2, c2⟩
          have hg3 := hg2.kept c2
          dsimp only at o2 ⊢
          go_wp2_with fail
          refine (k3 _ hg3).mono ?_
          rintro e w4 ⟨v3, rfl, o3, c3⟩
          dsimp only at o3 ⊢
          have HB2 := Lib.hid (chain (chain (chain HB.out c1) c2) c3)
          have O1 := own_kept (own_kept o1 c2) c3
          have O2 := own_kept o2 c3
          clear o1 o2 c1 c2 c3 k1 k2 k3 hg2 hg3 z4 z5 z6
          by_cases hex : ex = 0
          · subst hex
            obtain rfl : ax = 0 := by
              rcases HGS.out with h | h
              · exact h.2.1
              · exact absurd rfl h.1
            by_cases hey : ey = 0
            · subst hey
              obtain rfl : ay = 0 := by
                rcases HGT.out with h | h
                · exact h.2.1
                · exact absurd rfl h.1
              obtain ⟨us, hus, hst⟩ := HBL.out xs ys rfl rfl
              obtain ⟨rfl, rfl, rfl⟩ : zs = us ∧ az = 0 ∧ ez = 0 := by simpa using hus
              have HSM := Lib.hid (same_of_strip hst)
              have l1 := HF1.out xs rfl
              have l2 := HF2.out ys rfl
              have E0 := empty_row w4 w4 (Nat.le_refl _)
              obtain ⟨i0, hi, hz0, hz1, hz2⟩ := info_parts tok_info
              clear hus hst HBL HGS HGT HF1 HF2
              go_wp2_with (at_builtin; refine append_row rfl _ _ _ rfl w4.heap.size 32 i0 _ 4 40 (by kernel_rfl) hi hz0 hz1 hz2 rfl (by decide) _ 0 [] rfl E0 _ v1 xs.length (toksL xs) rfl (O1.alloc _) (toksL_one xs) (by simp only [maxLen]; omega) (by omega) (by rw [World.size_alloc]; omega) ?_)
              intro v4 w5 o4 gr4
              have o4 : w5.ownsRow w4.heap.size 32 4 v4 xs.length (toksL xs) := by simpa using o4
              have B5 : Below w4.heap.size w4 w5 := ((Below.refl _ _).alloc (Nat.le_refl _) _).grown gr4 (by rw [World.size_alloc]; omega) (fun k hk => (E0.lt k hk).1)
              have O2' := own_kept O2 B5
              clear gr4 E0 O1 O2
              go_wp2_with (at_builtin; refine append_row rfl _ _ _ rfl w4.heap.size 32 i0 _ 4 40 (by kernel_rfl) hi hz0 hz1 hz2 rfl (by decide) v4 xs.length (toksL xs) rfl o4 _ v2 ys.length (toksL ys) rfl O2' (toksL_one ys) (by simp only [maxLen]; omega) (by omega) B5.size ?_)
              intro v5 w6 o5 gr5
              have o5 : w6.ownsRow w4.heap.size 32 4 v5 (xs ++ ys).length (toksL (xs ++ ys)) := by rw [← toksL_both, List.length_append]; exact o5
              have B6 : Below w4.heap.size w4 w6 := B5.grown gr5 B5.size (fun k hk => (o4.lt k hk).1)
              have O3 := own_kept o3 B6
              have HB6 := Lib.hid (chain HB2.out B6)
              have hsame := same_any false zs (xs ++ ys) v3 v5 _ _ w6 O3 o5 HSM.out
              clear gr5 o4 o5 O2' o3 O3 B5 B6 l1 l2
              go_wp2_with fail
              refine hsame.mono ?_
              rintro e w7 ⟨rfl, k, rfl⟩
              have HB7 := below_drewN HB6.out k
              clear hsame
              go_wp2_with fail
              exact bodyPost_ret (results_tmp rfl _ _ _) rfl ⟨rfl, HB7⟩
            · have q1 : ((ey : Int) != 0) = true := by rw [bne_iff_ne]; omega
              have HE := Lib.hid hey
              clear hey O1 O2 o3
              go_wp2_with fail
              exact bodyPost_ret (results_tmp rfl _ _ _) rfl ⟨rfl, HB2.out⟩
          · have q1 : ((ex : Int) != 0) = true := by rw [bne_iff_ne]; omega
            have HE := Lib.hid hex
            clear hex O1 O2 o3
            go_wp2_with fail
            exact bodyPost_ret (results_tmp rfl _ _ _) rfl ⟨rfl, HB2.out⟩
end Go.Proofs.YtlonkcmkgmbkcaaDoor
