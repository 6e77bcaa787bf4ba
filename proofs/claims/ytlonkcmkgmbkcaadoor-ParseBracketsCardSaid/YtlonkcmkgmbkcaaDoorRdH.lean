/- The walk of package parse's not. -/
import Derived.Test.YtlonkcmkgmbkcaaDoorRdG
namespace Go.Proofs.YtlonkcmkgmbkcaaDoor
open Go.RowKit LexS ParS BigFrame
set_option maxHeartbeats 4000000
set_option linter.unusedVariables false
set_option linter.unusedSimpArgs false
attribute [local go_sem] field_tok1 field_tok2
attribute [local go_sem] World.cell?_alloc_some cell_drewN_new free_drewN_new cell_drew_new free_drew_new

section
variable {p q : M Nat} {a : Nat} {ts ts1 ts2 ts3 : List Tk} {ns ns1 ns2 : List Nd} {er : Er} {t u : Tk} {k : Nat} {v : Val}
theorem bind_eq {α β : Type} {p : M α} {f : α → M β} {a : α} (h : p ts ns = .ok (a, ts1, ns1)) : M.bind p f ts ns = f a ts1 ns1 := by
  unfold M.bind
  rw [h]
theorem notOf_neg_err (h : sees kw_not ts = some ts1) (h2 : p ts1 ns = .error er) : notOf p q ts ns = .error er := by
  unfold notOf M.bind
  rw [h]
  dsimp only
  rw [h2]
theorem notOf_neg_ok (h : sees kw_not ts = some ts1) (h2 : p ts1 ns = .ok (a, ts2, ns2)) : notOf p q ts ns = .ok (ns2.length, ts2, ns2 ++ [node 13 [a]]) := by
  unfold notOf M.bind
  rw [h]
  dsimp only
  rw [h2]
  rfl
theorem notOf_open (h : sees kw_not ts = none) (h2 : sees kw_open ts = some ts1) : notOf p q ts ns = q ts1 ns := by
  unfold notOf
  rw [h]
  dsimp only
  rw [h2]
theorem notOf_leaf (h : sees kw_not ts = none) (h2 : sees kw_open ts = none) : notOf p q ts ns = leaf ts ns := by
  unfold notOf
  rw [h]
  dsimp only
  rw [h2]
theorem leaf_bad (h : ∀ t ts1, ts = t :: ts1 → t.kind ≠ 1) : leaf ts ns = .error (ts.length, false) := by
  unfold leaf M.bind
  rw [take_bad h]
theorem leaf_word (ht : ts = t :: ts1) (hk : t.kind = 1) : leaf ts ns = (match sees kw_has ts1 with
  | some ts2 => M.bind (take 3) (fun u => lay { node 15 [] with s := t.s, v := ⟨2, 0, u.s⟩ }) ts2 ns
  | none => match choice kw_signs 1 ts1 with
    | (0, _) => .error (ts1.length, false)
    | (k + 1, ts2) => M.bind value (fun v => lay { node 14 [] with s := t.s, n := ((k + 1 : Nat) : Int), v := v }) ts2 ns) := by
  exact bind_eq (by rw [ht]; exact take_ok hk)
theorem leaf_has_bad (ht : ts = t :: ts1) (hk : t.kind = 1) (h : sees kw_has ts1 = some ts2) (h3 : ∀ t ts1, ts2 = t :: ts1 → t.kind ≠ 3) : leaf ts ns = .error (ts2.length, false) := by
  rw [leaf_word ht hk, h]
  dsimp only
  unfold M.bind
  rw [take_bad h3]
theorem leaf_has (ht : ts = t :: ts1) (hk : t.kind = 1) (h : sees kw_has ts1 = some ts2) (h3 : ts2 = u :: ts3) (hu : u.kind = 3) : leaf ts ns = .ok (ns.length, ts3, ns ++ [{ node 15 [] with s := t.s, v := ⟨2, 0, u.s⟩ }]) := by
  rw [leaf_word ht hk, h]
  dsimp only
  unfold M.bind
  rw [h3, take_ok hu]
  rfl
theorem leaf_sign_bad (ht : ts = t :: ts1) (hk : t.kind = 1) (h : sees kw_has ts1 = none) (h3 : choice kw_signs 1 ts1 = (0, ts2)) : leaf ts ns = .error (ts1.length, false) := by
  rw [leaf_word ht hk, h]
  dsimp only
  rw [h3]
theorem leaf_cmp_err (ht : ts = t :: ts1) (hk : t.kind = 1) (h : sees kw_has ts1 = none) (h3 : choice kw_signs 1 ts1 = (k + 1, ts2)) (hv : value ts2 ns = .error er) : leaf ts ns = .error er := by
  rw [leaf_word ht hk, h]
  dsimp only
  rw [h3]
  dsimp only
  unfold M.bind
  rw [hv]
theorem leaf_cmp (ht : ts = t :: ts1) (hk : t.kind = 1) (h : sees kw_has ts1 = none) (h3 : choice kw_signs 1 ts1 = (k + 1, ts2)) (hv : value ts2 ns = .ok (v, ts3, ns2)) :
    leaf ts ns = .ok (ns2.length, ts3, ns2 ++ [{ node 14 [] with s := t.s, n := ((k + 1 : Nat) : Int), v := v }]) := by
  rw [leaf_word ht hk, h]
  dsimp only
  rw [h3]
  dsimp only
  unfold M.bind
  rw [hv]
  rfl
end
section
variable {base r deep : Nat} {tv nv nv' : Value} {T : List Tok} {ts ts1 : List Tk} {ns : List Nd} {W W' : World}
/-- The box of the reader's pointer. -/
theorem box_start (h : RS base r tv T deep ts ns nv W) : ∃ W0, W0 = W.alloc (.cells #[RP r] 62) ∧ RS base r tv T deep ts ns nv W0 ∧ Blk W0 W.heap.size 62 #[RP r] ∧ Mv r W W0 ∧ W.heap.size ≠ r ∧ Below W.heap.size W W0 := by
  have hb : Below W.heap.size W (W.alloc (.cells #[RP r] 62)) := (Below.refl _ _).alloc (Nat.le_refl _) _
  exact ⟨_, rfl, h.kept hb, Blk.new W _ _, Stp.of hb, (Nat.ne_of_lt h.box.lt).symm, hb⟩
set_option maxRecDepth 100000 in
theorem not_neg {inNot inCond : M Nat} (h1 : WithN inNot deep) (n1 : Nice inNot) (h : RS base r tv T deep ts ns nv W) (hbase : base ≤ W.heap.size) (hB : ns.length + ts.length ≤ 5000) (hs : sees kw_not ts = some ts1) :
    Calls Tryd.prog 68 #[RP r] W (PostN base r tv T deep nv W (notOf inNot inCond ts ns)) := by
  have hmf := hmfA
  obtain ⟨W0, hW0, h0, x0, m0, hne, hb0⟩ := box_start h
  have HS := Lib.hid (sees_yes h0 hs)
  have hl := sees_len hs
  have hsh := h.short
  have HQ := Lib.hid hs
  have H1 := Lib.hid h1
  have N1 := Lib.hid n1
  have X0 := Lib.hid x0
  have M0 := Lib.hid m0
  have HW := Lib.hid hW0
  have c0 : W0.cell? ⟨W.heap.size, 0, none⟩ = some (RP r) := x0.cell 0
  clear h h0 x0 m0 hs h1 n1 hb0
  go_enter Tryd.func68, Tryd.ntmps68
  go_wp2_with fail
  rw [show W.alloc (.cells #[RP r] 62) = W0 from HW.out.symm]
  clear hW0
  refine HS.out.mono ?_
  rintro e w1 ⟨rfl, h1, m1⟩
  have x1 := m1.blk X0.out hne
  have M1 := Lib.hid (M0.out.trans m1)
  have hb1 : base ≤ w1.heap.size := Nat.le_trans hbase M1.out.size
  have X1 := Lib.hid (And.intro x1 (bx_apart h1 x1))
  have c1 : w1.cell? ⟨W.heap.size, 0, none⟩ = some (RP r) := x1.cell 0
  have HC := Lib.hid (H1.out _ _ _ _ _ _ _ _ h1 hb1 (by omega) (by omega))
  clear h1 m1 x1 c0
  go_wp2_with fail
  refine HC.out.mono ?_
  rintro e w2 hp
  rcases hr : inNot ts1 ns with ⟨k, long⟩ | ⟨a, ts2, ns2⟩
  · rw [hr] at hp
    obtain ⟨rfl, nv1, s1⟩ := hp
    have HF := Lib.hid (And.intro (notOf_neg_err (q := inCond) HQ.out hr) ((Mv.stp M1.out nv).trans s1))
    clear hr s1
    unfold Bad
    go_wp2_with fail
    exact ⟨rfl, by rw [HF.out.1]; exact ⟨rfl, _, HF.out.2⟩⟩
  · rw [hr] at hp
    obtain ⟨nv1, rfl, h2, s2⟩ := hp
    have hc := N1.out.1 _ _ _ _ _ hr
    have c2 : w2.cell? ⟨W.heap.size, 0, none⟩ = some (RP r) := (s2.blk X1.out.1 hne X1.out.2).cell 0
    have HE := Lib.hid (notOf_neg_ok (q := inCond) HQ.out hr)
    have S2 := Lib.hid ((Mv.stp M1.out nv).trans s2)
    have hb2 : base ≤ w2.heap.size := Nat.le_trans hbase S2.out.size
    have hbw : Below w2.heap.size w2 (w2.alloc (.cells #[.int .i64 (a : Int)] 3)) := (Below.refl _ _).alloc (Nat.le_refl _) _
    have HL := Lib.hid (lay_any (ndM 13 [a] w2.heap.size) (h2.kept hbw) (ndM_ok (Blk.new w2 _ _) hb2 (by simp)) (by omega) (Nat.le_trans hb2 hbw.size))
    have S4 := Lib.hid (S2.out.trans (Stp.of (r := r) hbw))
    clear hr h2 s2 hbw c1
    go_wp2_with fail
    refine HL.out.mono ?_
    rintro e w4 ⟨nv4, rfl, h4, s4⟩
    have HN := Lib.hid (And.intro h4 (S4.out.trans s4))
    clear h4 s4
    go_wp2_with fail
    exact bodyPost_ret (results_tmp rfl _ _ _) rfl (by rw [HE.out]; exact ⟨_, rfl, HN.out⟩)
set_option maxRecDepth 100000 in
theorem not_open {inNot inCond : M Nat} (h2 : WithC 88 inCond deep) (h : RS base r tv T deep ts ns nv W) (hbase : base ≤ W.heap.size) (hB : ns.length + ts.length ≤ 5000) (hs : sees kw_not ts = none) (ho : sees kw_open ts = some ts1) :
    Calls Tryd.prog 68 #[RP r] W (PostN base r tv T deep nv W (notOf inNot inCond ts ns)) := by
  have hmf := hmfA
  obtain ⟨W0, hW0, h0, x0, m0, hne, hb0⟩ := box_start h
  have HS := Lib.hid (sees_no h0 hs)
  have hl := sees_len ho
  have hsh := h.short
  have HQ := Lib.hid (notOf_open (p := inNot) (q := inCond) (ns := ns) hs ho)
  have HO := Lib.hid ho
  have H1 := Lib.hid h2
  have X0 := Lib.hid x0
  have M0 := Lib.hid m0
  have HW := Lib.hid hW0
  have c0 : W0.cell? ⟨W.heap.size, 0, none⟩ = some (RP r) := x0.cell 0
  clear h h0 x0 m0 hs h2 hb0 ho
  go_enter Tryd.func68, Tryd.ntmps68
  go_wp2_with fail
  rw [show W.alloc (.cells #[RP r] 62) = W0 from HW.out.symm]
  clear hW0
  refine HS.out.mono ?_
  rintro e w1 ⟨rfl, h1, m1⟩
  have x1 := m1.blk X0.out hne
  have M1 := Lib.hid (M0.out.trans m1)
  have X1 := Lib.hid x1
  have c1 : w1.cell? ⟨W.heap.size, 0, none⟩ = some (RP r) := x1.cell 0
  have HS2 := Lib.hid (sees_yes h1 HO.out)
  clear h1 m1 x1 c0
  go_wp2_with fail
  refine HS2.out.mono ?_
  rintro e w2 ⟨rfl, h2, m2⟩
  have x2 := m2.blk X1.out hne
  have M2 := Lib.hid (M1.out.trans m2)
  have hb2 : base ≤ w2.heap.size := Nat.le_trans hbase M2.out.size
  have c2 : w2.cell? ⟨W.heap.size, 0, none⟩ = some (RP r) := x2.cell 0
  have HC := Lib.hid (H1.out _ _ _ _ _ _ _ _ _ h2 hb2 (by omega) (by omega) x2 hne hbase)
  clear h2 m2 x2 c1
  go_wp2_with fail
  refine HC.out.mono ?_
  rintro e w3 hp
  rcases hr : inCond ts1 ns with ⟨k, long⟩ | ⟨a, ts2, ns2⟩
  · rw [hr] at hp
    obtain ⟨rfl, nv1, s1⟩ := hp
    have HF := Lib.hid (And.intro (HQ.out.trans hr) ((Mv.stp M2.out nv).trans s1))
    clear hr s1
    unfold Bad
    go_wp2_with fail
    exact ⟨rfl, by rw [HF.out.1]; exact ⟨rfl, _, HF.out.2⟩⟩
  · rw [hr] at hp
    obtain ⟨nv1, rfl, h3, s3⟩ := hp
    have HF := Lib.hid (And.intro (HQ.out.trans hr) (And.intro h3 ((Mv.stp M2.out nv).trans s3)))
    clear hr h3 s3
    go_wp2_with fail
    exact bodyPost_ret (results_tmp rfl _ _ _) rfl (by rw [HF.out.1]; exact ⟨_, rfl, HF.out.2⟩)
end
end Go.Proofs.YtlonkcmkgmbkcaaDoor
