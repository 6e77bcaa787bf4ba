/- Several texts of the proof, joined. -/
import Derived.Test.YtnaehhpikhlppaaGreatDoorD18
set_option maxHeartbeats 4000000
set_option linter.unusedVariables false
set_option linter.unusedSimpArgs false
namespace Go.Proofs.YtnaehhpikhlppaaGreatDoor
open Go.RowKit LexS ParS BigFrame
attribute [local go_sem] field_tok1 field_tok2
attribute [local go_sem] World.cell?_alloc_some cell_drewN_new free_drewN_new cell_drew_new free_drew_new

section
variable {p : M Nat} {a : Nat} {ts ts1 ts2 : List Tk} {ns ns1 : List Nd} {er : Er}
theorem shut_err (h : p ts ns = .error er) : shut p ts ns = .error er := by
  unfold shut M.bind
  rw [h]
theorem shut_bad (h : p ts ns = .ok (a, ts1, ns1)) (h2 : sees kw_shut ts1 = none) : shut p ts ns = .error (ts1.length, false) := by
  unfold shut M.bind wants
  rw [h]
  dsimp only
  rw [h2]
theorem shut_ok (h : p ts ns = .ok (a, ts1, ns1)) (h2 : sees kw_shut ts1 = some ts2) : shut p ts ns = .ok (a, ts2, ns1) := by
  unfold shut M.bind wants
  rw [h]
  dsimp only
  rw [h2]
  rfl
end
/-- A closure over the reader reads what p reads. -/
def ReadsC (K : FuncId) (p : M Nat) (deep : Nat) : Prop := ∀ (base r bx : Nat) (tv nv : Value) (T : List Tok) (ts : List Tk) (ns : List Nd) (W : World), RS base r tv T deep ts ns nv W → base ≤ W.heap.size → ns.length + ts.length ≤ 5000 → Blk W bx 112 #[RP r] → bx ≠ r → base ≤ bx →
  Calls Tryz.prog K #[.pointer (some ⟨bx, 0, none⟩)] W (PostN base r tv T deep nv W (p ts ns))
theorem bx_apart {base r deep bx : Nat} {tv nv : Value} {T : List Tok} {ts : List Tk} {ns : List Nd} {W : World} (h : RS base r tv T deep ts ns nv W) (hb : Blk W bx 112 #[RP r]) : nv.ownBlock ≠ some bx := fun e => by
  obtain ⟨_, cur, hc⟩ := h.nodes.block e
  have := block_types hc hb
  cases this
section
variable {base r deep : Nat} {tv nv nv' : Value} {T : List Tok} {ts ts1 : List Tk} {ns : List Nd} {W W' : World}
set_option maxRecDepth 100000 in
theorem cond_c {q : M Nat} (hq : Reads 144 q deep) : ReadsC 206 (shut q) deep := by
  intro base r bx tv nv T ts ns W h hbase hB hbx hne hbb
  have c0 : W.cell? ⟨bx, 0, none⟩ = some (RP r) := hbx.cell 0
  have HI := Lib.hid (hq _ _ _ _ _ _ _ _ h hbase hB)
  have HX := Lib.hid (And.intro hbx (bx_apart h hbx))
  clear h hbx
  go_enter Tryz.func206, Tryz.ntmps206
  go_wp2_with fail
  refine HI.out.mono ?_
  rintro e w1 hp
  rcases hr : q ts ns with ⟨k, long⟩ | ⟨a, ts1, ns1⟩
  · rw [hr] at hp
    obtain ⟨rfl, nv1, s1⟩ := hp
    have HF := Lib.hid (And.intro (shut_err hr) s1)
    clear hr s1
    unfold Bad
    go_wp2_with fail
    exact ⟨rfl, by rw [HF.out.1]; exact ⟨rfl, _, HF.out.2⟩⟩
  · rw [hr] at hp
    obtain ⟨nv1, rfl, h1, s1⟩ := hp
    have c0 : w1.cell? ⟨bx, 0, none⟩ = some (RP r) := (s1.blk HX.out.1 hne HX.out.2).cell 0
    rcases hs : sees kw_shut ts1 with _ | ts2
    · have HF := Lib.hid (And.intro (shut_bad hr hs) s1)
      have HW := Lib.hid (wants_no h1 hs)
      clear hr hs s1 h1
      go_wp2_with fail
      refine HW.out.mono ?_
      rintro e w2 ⟨rfl, m2⟩
      have HM := Lib.hid (HF.out.2.trans (m2.stp _))
      clear m2
      unfold Bad
      go_wp2_with fail
      exact ⟨rfl, by rw [HF.out.1]; exact ⟨rfl, _, HM.out⟩⟩
    · have HF := Lib.hid (And.intro (shut_ok hr hs) s1)
      have HW := Lib.hid (wants_yes h1 hs)
      clear hr hs s1 h1
      go_wp2_with fail
      refine HW.out.mono ?_
      rintro e w2 ⟨rfl, h2, m2⟩
      have HM := Lib.hid (And.intro h2 (HF.out.2.trans (m2.stp _)))
      clear h2 m2
      go_wp2_with fail
      exact bodyPost_ret (results_tmp rfl _ _ _) rfl (by rw [HF.out.1]; exact ⟨_, rfl, HM.out⟩)
set_option maxRecDepth 100000 in
theorem query_c {q : M Nat} (hq : Reads 53 q deep) : ReadsC 175 (shut q) deep := by
  intro base r bx tv nv T ts ns W h hbase hB hbx hne hbb
  have c0 : W.cell? ⟨bx, 0, none⟩ = some (RP r) := hbx.cell 0
  have HI := Lib.hid (hq _ _ _ _ _ _ _ _ h hbase hB)
  have HX := Lib.hid (And.intro hbx (bx_apart h hbx))
  clear h hbx
  go_enter Tryz.func175, Tryz.ntmps175
  go_wp2_with fail
  refine HI.out.mono ?_
  rintro e w1 hp
  rcases hr : q ts ns with ⟨k, long⟩ | ⟨a, ts1, ns1⟩
  · rw [hr] at hp
    obtain ⟨rfl, nv1, s1⟩ := hp
    have HF := Lib.hid (And.intro (shut_err hr) s1)
    clear hr s1
    unfold Bad
    go_wp2_with fail
    exact ⟨rfl, by rw [HF.out.1]; exact ⟨rfl, _, HF.out.2⟩⟩
  · rw [hr] at hp
    obtain ⟨nv1, rfl, h1, s1⟩ := hp
    have c0 : w1.cell? ⟨bx, 0, none⟩ = some (RP r) := (s1.blk HX.out.1 hne HX.out.2).cell 0
    rcases hs : sees kw_shut ts1 with _ | ts2
    · have HF := Lib.hid (And.intro (shut_bad hr hs) s1)
      have HW := Lib.hid (wants_no h1 hs)
      clear hr hs s1 h1
      go_wp2_with fail
      refine HW.out.mono ?_
      rintro e w2 ⟨rfl, m2⟩
      have HM := Lib.hid (HF.out.2.trans (m2.stp _))
      clear m2
      unfold Bad
      go_wp2_with fail
      exact ⟨rfl, by rw [HF.out.1]; exact ⟨rfl, _, HM.out⟩⟩
    · have HF := Lib.hid (And.intro (shut_ok hr hs) s1)
      have HW := Lib.hid (wants_yes h1 hs)
      clear hr hs s1 h1
      go_wp2_with fail
      refine HW.out.mono ?_
      rintro e w2 ⟨rfl, h2, m2⟩
      have HM := Lib.hid (And.intro h2 (HF.out.2.trans (m2.stp _)))
      clear h2 m2
      go_wp2_with fail
      exact bodyPost_ret (results_tmp rfl _ _ _) rfl (by rw [HF.out.1]; exact ⟨_, rfl, HM.out⟩)
end
/-- within, with not itself; with a closure over the reader. -/
def WithN (p : M Nat) (deep : Nat) : Prop := ∀ (base r : Nat) (tv nv : Value) (T : List Tok) (ts : List Tk) (ns : List Nd) (W : World), RS base r tv T deep ts ns nv W → base ≤ W.heap.size → ns.length + ts.length ≤ 5000 → ts.length + 1 ≤ T.length →
  Calls Tryz.prog 174 #[RP r, .func (.func 190) #[RP r] #[]] W (PostN base r tv T deep nv W (p ts ns))
def WithC (K : FuncId) (p : M Nat) (deep : Nat) : Prop := ∀ (base r bx : Nat) (tv nv : Value) (T : List Tok) (ts : List Tk) (ns : List Nd) (W : World), RS base r tv T deep ts ns nv W → base ≤ W.heap.size → ns.length + ts.length ≤ 5000 → ts.length + 1 ≤ T.length → Blk W bx 112 #[RP r] → bx ≠ r → base ≤ bx →
  Calls Tryz.prog 174 #[RP r, .func (.func K) #[] #[.pointer (some ⟨bx, 0, none⟩)]] W (PostN base r tv T deep nv W (p ts ns))
theorem deep_post {base r deep : Nat} {tv nv : Value} {T : List Tok} {ts : List Tk} {ns : List Nd} {W : World} {e : Ending} {w' : World} (h : e = Bad T (ts.length + 1) true ∧ W = w') : PostN base r tv T deep nv W ((M.deep : M Nat) ts ns) e w' := by
  obtain ⟨rfl, rfl⟩ := h
  exact ⟨rfl, nv, Stp.refl _ _ _⟩
theorem withN_deep {deep : Nat} (hd : deep = 16) : WithN M.deep deep := fun base r tv nv T ts ns W h hb hB ht => (within_deep h (by omega) (by omega) ht).mono fun e w' hp => deep_post hp
theorem withC_deep {K : FuncId} {deep : Nat} (hd : deep = 16) : WithC K M.deep deep := fun base r bx tv nv T ts ns W h hb hB ht _ _ _ => (within_deep h (by omega) (by omega) ht).mono fun e w' hp => deep_post hp
theorem withN_go {p : M Nat} {deep : Nat} (hd : deep < 16) (hr : Reads 190 p (deep + 1)) : WithN p deep := fun base r tv nv T ts ns W h hb hB ht =>
  within_not h hd fun W1 h1 hs => hr _ _ _ _ _ _ _ _ h1 (Nat.le_trans hb hs) hB
theorem withC_cond {p : M Nat} {deep : Nat} (hd : deep < 16) (hr : ReadsC 206 p (deep + 1)) : WithC 206 p deep := fun base r bx tv nv T ts ns W h hb hB ht hbx hne hbb =>
  within_cond h hd hbx hne fun W1 h1 hs hx => hr _ _ _ _ _ _ _ _ _ h1 (Nat.le_trans hb hs) hB hx hne hbb
theorem withC_query {p : M Nat} {deep : Nat} (hd : deep < 16) (hr : ReadsC 175 p (deep + 1)) : WithC 175 p deep := fun base r bx tv nv T ts ns W h hb hB ht hbx hne hbb =>
  within_query h hd hbx hne fun W1 h1 hs hx => hr _ _ _ _ _ _ _ _ _ h1 (Nat.le_trans hb hs) hB hx hne hbb
end Go.Proofs.YtnaehhpikhlppaaGreatDoor

namespace Go.Proofs.YtnaehhpikhlppaaGreatDoor
open Go.RowKit LexS ParS BigFrame
attribute [local go_sem] field_tok1 field_tok2
attribute [local go_sem] World.cell?_alloc_some cell_drewN_new free_drewN_new cell_drew_new free_drew_new

section
variable {p q : M Nat} {a : Nat} {ts ts1 ts2 ts3 : List Tk} {ns ns1 ns2 : List Nd} {er : Er} {t u : Tk} {k : Nat} {v : Val}
theorem bind_eq {α β : Type} {p : M α} {f : α → M β} {a : α} (h : p ts ns = .ok (a, ts1, ns1)) : M.bind p f ts ns = f a ts1 ns1 := by
  unfold M.bind
  rw [h]
theorem notOf_neg_err (h : sees kw_not ts = some ts1) (h2 : p ts1 ns = .error er) : notOf p q ts ns = .error er := by
  unfold notOf M.bind
  rw [h]
  dsimp only
  rw [h2]
theorem notOf_neg_ok (h : sees kw_not ts = some ts1) (h2 : p ts1 ns = .ok (a, ts2, ns2)) : notOf p q ts ns = .ok (ns2.length, ts2, ns2 ++ [node 13 [a]]) := by
  unfold notOf M.bind
  rw [h]
  dsimp only
  rw [h2]
  rfl
theorem notOf_open (h : sees kw_not ts = none) (h2 : sees kw_open ts = some ts1) : notOf p q ts ns = q ts1 ns := by
  unfold notOf
  rw [h]
  dsimp only
  rw [h2]
theorem notOf_leaf (h : sees kw_not ts = none) (h2 : sees kw_open ts = none) : notOf p q ts ns = leaf ts ns := by
  unfold notOf
  rw [h]
  dsimp only
  rw [h2]
theorem leaf_bad (h : ∀ t ts1, ts = t :: ts1 → t.kind ≠ 1) : leaf ts ns = .error (ts.length, false) := by
  unfold leaf M.bind
  rw [take_bad h]
theorem leaf_word (ht : ts = t :: ts1) (hk : t.kind = 1) : leaf ts ns = (match sees kw_has ts1 with
  | some ts2 => M.bind (take 3) (fun u => lay { node 15 [] with s := t.s, v := ⟨2, 0, u.s⟩ }) ts2 ns
  | none => match choice kw_signs 1 ts1 with
    | (0, _) => .error (ts1.length, false)
    | (k + 1, ts2) => M.bind value (fun v => lay { node 14 [] with s := t.s, n := ((k + 1 : Nat) : Int), v := v }) ts2 ns) := by
  exact bind_eq (by rw [ht]; exact take_ok hk)
theorem leaf_has_bad (ht : ts = t :: ts1) (hk : t.kind = 1) (h : sees kw_has ts1 = some ts2) (h3 : ∀ t ts1, ts2 = t :: ts1 → t.kind ≠ 3) : leaf ts ns = .error (ts2.length, false) := by
  rw [leaf_word ht hk, h]
  dsimp only
  unfold M.bind
  rw [take_bad h3]
theorem leaf_has (ht : ts = t :: ts1) (hk : t.kind = 1) (h : sees kw_has ts1 = some ts2) (h3 : ts2 = u :: ts3) (hu : u.kind = 3) : leaf ts ns = .ok (ns.length, ts3, ns ++ [{ node 15 [] with s := t.s, v := ⟨2, 0, u.s⟩ }]) := by
  rw [leaf_word ht hk, h]
  dsimp only
  unfold M.bind
  rw [h3, take_ok hu]
  rfl
theorem leaf_sign_bad (ht : ts = t :: ts1) (hk : t.kind = 1) (h : sees kw_has ts1 = none) (h3 : choice kw_signs 1 ts1 = (0, ts2)) : leaf ts ns = .error (ts1.length, false) := by
  rw [leaf_word ht hk, h]
  dsimp only
  rw [h3]
theorem leaf_cmp_err (ht : ts = t :: ts1) (hk : t.kind = 1) (h : sees kw_has ts1 = none) (h3 : choice kw_signs 1 ts1 = (k + 1, ts2)) (hv : value ts2 ns = .error er) : leaf ts ns = .error er := by
  rw [leaf_word ht hk, h]
  dsimp only
  rw [h3]
  dsimp only
  unfold M.bind
  rw [hv]
theorem leaf_cmp (ht : ts = t :: ts1) (hk : t.kind = 1) (h : sees kw_has ts1 = none) (h3 : choice kw_signs 1 ts1 = (k + 1, ts2)) (hv : value ts2 ns = .ok (v, ts3, ns2)) :
    leaf ts ns = .ok (ns2.length, ts3, ns2 ++ [{ node 14 [] with s := t.s, n := ((k + 1 : Nat) : Int), v := v }]) := by
  rw [leaf_word ht hk, h]
  dsimp only
  rw [h3]
  dsimp only
  unfold M.bind
  rw [hv]
  rfl
end
section
variable {base r deep : Nat} {tv nv nv' : Value} {T : List Tok} {ts ts1 : List Tk} {ns : List Nd} {W W' : World}
/-- The box of the reader's pointer. -/
theorem box_start (h : RS base r tv T deep ts ns nv W) : ∃ W0, W0 = W.alloc (.cells #[RP r] 112) ∧ RS base r tv T deep ts ns nv W0 ∧ Blk W0 W.heap.size 112 #[RP r] ∧ Mv r W W0 ∧ W.heap.size ≠ r ∧ Below W.heap.size W W0 := by
  have hb : Below W.heap.size W (W.alloc (.cells #[RP r] 112)) := (Below.refl _ _).alloc (Nat.le_refl _) _
  exact ⟨_, rfl, h.kept hb, Blk.new W _ _, Stp.of hb, (Nat.ne_of_lt h.box.lt).symm, hb⟩
set_option maxRecDepth 100000 in
theorem not_neg {inNot inCond : M Nat} (h1 : WithN inNot deep) (n1 : Nice inNot) (h : RS base r tv T deep ts ns nv W) (hbase : base ≤ W.heap.size) (hB : ns.length + ts.length ≤ 5000) (hs : sees kw_not ts = some ts1) :
    Calls Tryz.prog 190 #[RP r] W (PostN base r tv T deep nv W (notOf inNot inCond ts ns)) := by
  have hmf := hmfA
  obtain ⟨W0, hW0, h0, x0, m0, hne, hb0⟩ := box_start h
  have HS := Lib.hid (sees_yes h0 hs)
  have hl := sees_len hs
  have hsh := h.short
  have HQ := Lib.hid hs
  have H1 := Lib.hid h1
  have N1 := Lib.hid n1
  have X0 := Lib.hid x0
  have M0 := Lib.hid m0
  have HW := Lib.hid hW0
  have c0 : W0.cell? ⟨W.heap.size, 0, none⟩ = some (RP r) := x0.cell 0
  clear h h0 x0 m0 hs h1 n1 hb0
  go_enter Tryz.func190, Tryz.ntmps190
  go_wp2_with fail
  rw [show W.alloc (.cells #[RP r] 112) = W0 from HW.out.symm]
  clear hW0
  refine HS.out.mono ?_
  rintro e w1 ⟨rfl, h1, m1⟩
  have x1 := m1.blk X0.out hne
  have M1 := Lib.hid (M0.out.trans m1)
  have hb1 : base ≤ w1.heap.size := Nat.le_trans hbase M1.out.size
  have X1 := Lib.hid (And.intro x1 (bx_apart h1 x1))
  have c1 : w1.cell? ⟨W.heap.size, 0, none⟩ = some (RP r) := x1.cell 0
  have HC := Lib.hid (H1.out _ _ _ _ _ _ _ _ h1 hb1 (by omega) (by omega))
  clear h1 m1 x1 c0
  go_wp2_with fail
  refine HC.out.mono ?_
  rintro e w2 hp
  rcases hr : inNot ts1 ns with ⟨k, long⟩ | ⟨a, ts2, ns2⟩
  · rw [hr] at hp
    obtain ⟨rfl, nv1, s1⟩ := hp
    have HF := Lib.hid (And.intro (notOf_neg_err (q := inCond) HQ.out hr) ((Mv.stp M1.out nv).trans s1))
    clear hr s1
    unfold Bad
    go_wp2_with fail
    exact ⟨rfl, by rw [HF.out.1]; exact ⟨rfl, _, HF.out.2⟩⟩
  · rw [hr] at hp
    obtain ⟨nv1, rfl, h2, s2⟩ := hp
    have hc := N1.out.1 _ _ _ _ _ hr
    have c2 : w2.cell? ⟨W.heap.size, 0, none⟩ = some (RP r) := (s2.blk X1.out.1 hne X1.out.2).cell 0
    have HE := Lib.hid (notOf_neg_ok (q := inCond) HQ.out hr)
    have S2 := Lib.hid ((Mv.stp M1.out nv).trans s2)
    have hb2 : base ≤ w2.heap.size := Nat.le_trans hbase S2.out.size
    have hbw : Below w2.heap.size w2 (w2.alloc (.cells #[.int .i64 (a : Int)] 3)) := (Below.refl _ _).alloc (Nat.le_refl _) _
    have HL := Lib.hid (lay_any (ndM 13 [a] w2.heap.size) (h2.kept hbw) (ndM_ok (Blk.new w2 _ _) hb2 (by simp)) (by omega) (Nat.le_trans hb2 hbw.size))
    have S4 := Lib.hid (S2.out.trans (Stp.of (r := r) hbw))
    clear hr h2 s2 hbw c1
    go_wp2_with fail
    refine HL.out.mono ?_
    rintro e w4 ⟨nv4, rfl, h4, s4⟩
    have HN := Lib.hid (And.intro h4 (S4.out.trans s4))
    clear h4 s4
    go_wp2_with fail
    exact bodyPost_ret (results_tmp rfl _ _ _) rfl (by rw [HE.out]; exact ⟨_, rfl, HN.out⟩)
set_option maxRecDepth 100000 in
theorem not_open {inNot inCond : M Nat} (h2 : WithC 206 inCond deep) (h : RS base r tv T deep ts ns nv W) (hbase : base ≤ W.heap.size) (hB : ns.length + ts.length ≤ 5000) (hs : sees kw_not ts = none) (ho : sees kw_open ts = some ts1) :
    Calls Tryz.prog 190 #[RP r] W (PostN base r tv T deep nv W (notOf inNot inCond ts ns)) := by
  have hmf := hmfA
  obtain ⟨W0, hW0, h0, x0, m0, hne, hb0⟩ := box_start h
  have HS := Lib.hid (sees_no h0 hs)
  have hl := sees_len ho
  have hsh := h.short
  have HQ := Lib.hid (notOf_open (p := inNot) (q := inCond) (ns := ns) hs ho)
  have HO := Lib.hid ho
  have H1 := Lib.hid h2
  have X0 := Lib.hid x0
  have M0 := Lib.hid m0
  have HW := Lib.hid hW0
  have c0 : W0.cell? ⟨W.heap.size, 0, none⟩ = some (RP r) := x0.cell 0
  clear h h0 x0 m0 hs h2 hb0 ho
  go_enter Tryz.func190, Tryz.ntmps190
  go_wp2_with fail
  rw [show W.alloc (.cells #[RP r] 112) = W0 from HW.out.symm]
  clear hW0
  refine HS.out.mono ?_
  rintro e w1 ⟨rfl, h1, m1⟩
  have x1 := m1.blk X0.out hne
  have M1 := Lib.hid (M0.out.trans m1)
  have X1 := Lib.hid x1
  have c1 : w1.cell? ⟨W.heap.size, 0, none⟩ = some (RP r) := x1.cell 0
  have HS2 := Lib.hid (sees_yes h1 HO.out)
  clear h1 m1 x1 c0
  go_wp2_with fail
  refine HS2.out.mono ?_
  rintro e w2 ⟨rfl, h2, m2⟩
  have x2 := m2.blk X1.out hne
  have M2 := Lib.hid (M1.out.trans m2)
  have hb2 : base ≤ w2.heap.size := Nat.le_trans hbase M2.out.size
  have c2 : w2.cell? ⟨W.heap.size, 0, none⟩ = some (RP r) := x2.cell 0
  have HC := Lib.hid (H1.out _ _ _ _ _ _ _ _ _ h2 hb2 (by omega) (by omega) x2 hne hbase)
  clear h2 m2 x2 c1
  go_wp2_with fail
  refine HC.out.mono ?_
  rintro e w3 hp
  rcases hr : inCond ts1 ns with ⟨k, long⟩ | ⟨a, ts2, ns2⟩
  · rw [hr] at hp
    obtain ⟨rfl, nv1, s1⟩ := hp
    have HF := Lib.hid (And.intro (HQ.out.trans hr) ((Mv.stp M2.out nv).trans s1))
    clear hr s1
    unfold Bad
    go_wp2_with fail
    exact ⟨rfl, by rw [HF.out.1]; exact ⟨rfl, _, HF.out.2⟩⟩
  · rw [hr] at hp
    obtain ⟨nv1, rfl, h3, s3⟩ := hp
    have HF := Lib.hid (And.intro (HQ.out.trans hr) (And.intro h3 ((Mv.stp M2.out nv).trans s3)))
    clear hr h3 s3
    go_wp2_with fail
    exact bodyPost_ret (results_tmp rfl _ _ _) rfl (by rw [HF.out.1]; exact ⟨_, rfl, HF.out.2⟩)
end
end Go.Proofs.YtnaehhpikhlppaaGreatDoor

namespace Go.Proofs.YtnaehhpikhlppaaGreatDoor
open Go.RowKit LexS ParS BigFrame
attribute [local go_sem] field_tok1 field_tok2
attribute [local go_sem] World.cell?_alloc_some cell_drewN_new free_drewN_new cell_drew_new free_drew_new

theorem sizeVal : (Tryz.prog.info? 37).map (·.size) = some 11 := by kernel_rfl
theorem valA_one (v : Val) : (valA v).all (·.oneCell') = true := by simp [valA, Value.oneCell']
/-- A leaf's node. -/
abbrev leafM (kd : Nat) (s : Bytes) (n : Int) (v : Val) : NodeM := ⟨{ node kd [] with s := s, n := n, v := v }, .slice none 0 0, .slice none 0 0, .slice none 0 0⟩
theorem leafM_ok (W : World) (base kd : Nat) (s : Bytes) (n : Int) (v : Val) : MOk W base (leafM kd s n v) := ⟨nil_row, nil_row, nil_row⟩
theorem leafM_one (kd : Nat) (s : Bytes) (n : Int) (v : Val) : (leafM kd s n v).cells.toArray.all (·.oneCell') = true := one_nd kd s n 0 0 v rfl rfl rfl [] [] []
section
variable {base r deep : Nat} {tv nv nv' : Value} {T : List Tok} {ts ts1 ts2 : List Tk} {ns : List Nd} {W W' : World}
theorem below_puts {B b : Nat} {W0 : World} (hb : B ≤ b) : ∀ (vs : List Value) {W : World} (o : Nat), Below B W0 W → Below B W0 (W.setCells b o vs)
  | [], W, o, h => h
  | v :: r, W, o, h => below_puts hb r (o + 1) (h.setCell hb v)
theorem nd_stored {w3 w4 : World} {m : NodeM} (hw : (w3.alloc (.cells zeroNd 42)).setCells w3.heap.size 0 m.cells = w4) : Below w3.heap.size w3 w4 ∧ Blk w4 w3.heap.size 42 m.cells.toArray := by
  subst hw
  exact ⟨below_puts (Nat.le_refl _) _ _ ((Below.refl _ _).alloc (Nat.le_refl _) _), nd_new w3 m⟩
theorem val_stored {w6 w7 : World} {b kd : Nat} {s : Bytes} {n : Int} {v0 v : Val} (hb : Blk w6 b 42 (leafM kd s n v0).cells.toArray) (hw : w6.setCells b 5 (valA v).toList = w7) : Blk w7 b 42 (leafM kd s n v).cells.toArray := by
  subst hw
  exact box_puts _ 5 hb
theorem kind_stored {w6 : World} {b kd k2 : Nat} {s : Bytes} {n : Int} {v : Val} (hb : Blk w6 b 42 (leafM kd s n v).cells.toArray) : Blk (w6.setCell ⟨b, 0, none⟩ (.int .i64 (k2 : Int))) b 42 (leafM k2 s n v).cells.toArray := box_put hb 0 _
theorem n_stored {w6 : World} {b kd : Nat} {s : Bytes} {n n2 : Int} {v : Val} (hb : Blk w6 b 42 (leafM kd s n v).cells.toArray) : Blk (w6.setCell ⟨b, 2, none⟩ (.int .i64 n2)) b 42 (leafM kd s n2 v).cells.toArray := box_put hb 2 _
theorem RS.puts {b : Nat} (hr : b ≠ r) (hn : nv.ownBlock ≠ some b) : ∀ (vs : List Value) {W : World} {l : List Value} (o : Nat), RS base r tv T deep ts ns nv W → Blk W b 42 l.toArray → RS base r tv T deep ts ns nv (W.setCells b o vs)
  | [], W, l, o, h, hb => h
  | v :: s, W, l, o, h, hb => RS.puts hr hn s (o + 1) (h.far hb (by decide) hn hr o v) (box_put hb o v)
set_option maxRecDepth 100000 in
theorem not_leaf (h : RS base r tv T deep ts ns nv W) (hbase : base ≤ W.heap.size) (hB : ns.length + ts.length ≤ 5000) (hs : sees kw_not ts = none) (ho : sees kw_open ts = none) :
    Calls Tryz.prog 190 #[RP r] W (PostN base r tv T deep nv W (leaf ts ns)) := by
  have hmf := hmfA
  obtain ⟨W0, hW0, h0, x0, m0, hne, hb0⟩ := box_start h
  have HS := Lib.hid (sees_no h0 hs)
  have HO := Lib.hid ho
  have X0 := Lib.hid x0
  have M0 := Lib.hid m0
  have HW := Lib.hid hW0
  have HH := Lib.hid h
  have c0 : W0.cell? ⟨W.heap.size, 0, none⟩ = some (RP r) := x0.cell 0
  clear h h0 x0 m0 hs hb0 ho
  go_enter Tryz.func190, Tryz.ntmps190
  go_wp2_with fail
  rw [show W.alloc (.cells #[RP r] 112) = W0 from HW.out.symm]
  clear hW0
  refine HS.out.mono ?_
  rintro e w1 ⟨rfl, h1, m1⟩
  have x1 := m1.blk X0.out hne
  have M1 := Lib.hid (M0.out.trans m1)
  have X1 := Lib.hid x1
  have c1 : w1.cell? ⟨W.heap.size, 0, none⟩ = some (RP r) := x1.cell 0
  have HS2 := Lib.hid (sees_no h1 HO.out)
  clear h1 m1 x1 c0
  go_wp2_with fail
  refine HS2.out.mono ?_
  rintro e w2 ⟨rfl, h2, m2⟩
  have x2 := m2.blk X1.out hne
  have M2 := Lib.hid (M1.out.trans m2)
  have X2 := Lib.hid x2
  have H2 := Lib.hid h2
  have c2 : w2.cell? ⟨W.heap.size, 0, none⟩ = some (RP r) := x2.cell 0
  clear h2 m2 x2 c1
  rcases take_cases 1 ts with ⟨t, ts1, ht, hk⟩ | hk
  · have HN := Lib.hid (word_yes H2.out ht hk)
    have HT := Lib.hid (And.intro ht hk)
    have hl1 : ts1.length + 1 = ts.length := by rw [ht]; rfl
    clear ht hk
    go_wp2_with fail
    refine HN.out.mono ?_
    rintro e w3 ⟨rfl, h3, m3⟩
    have M3 := Lib.hid (M2.out.trans m3)
    have X3 := Lib.hid (m3.blk X2.out hne)
    have H3 := Lib.hid h3
    have hbn : w3.heap.size ≠ r := (Nat.ne_of_lt h3.box.lt).symm
    have hbx : w3.heap.size ≠ W.heap.size := (Nat.ne_of_lt X3.out.lt).symm
    have hnn := Lib.hid (show nv.ownBlock ≠ some w3.heap.size from fun e => by
      obtain ⟨_, cur, hc⟩ := h3.nodes.block e
      exact absurd (Array.getElem?_eq_some_iff.1 hc).1 (Nat.lt_irrefl _))
    have c3 : w3.cell? ⟨W.heap.size, 0, none⟩ = some (RP r) := X3.out.cell 0
    have hth := nd_there w3
    clear h3 m3 c2
    go_wp2_with (refine wpList_store_mid (by rfl) 42 (.tmp 4) (.tmp 25) (by rfl) w3.heap.size 0 (leafM 14 t.s 0 noVal).cells.toArray (by rfl) (by rfl) hth sizeNode (leafM_one _ _ _ _) ?_
                 generalize hw4 : World.setCells _ _ _ _ = w4
                 have F4 := Lib.hid (nd_stored (m := leafM 14 t.s 0 noVal) hw4)
                 have c4 : w4.cell? ⟨W.heap.size, 0, none⟩ = some (RP r) := (X3.out.kept F4.out.1).cell 0
                 clear hw4 c3)
    have B4 := Lib.hid F4.out.2
    have M4 := Lib.hid (M3.out.trans (Stp.of (r := r) (nv := .slice none 0 0) F4.out.1))
    have H4 := Lib.hid (H3.out.kept F4.out.1)
    have X4 := Lib.hid (X3.out.kept F4.out.1)
    rcases hh : sees kw_has ts1 with _ | ts2
    · have HS4 := Lib.hid (sees_no H4.out hh)
      have HH4 := Lib.hid hh
      clear hh
      refine HS4.out.mono ?_
      rintro e w5 ⟨rfl, h5, m5⟩
      have M5 := Lib.hid (M4.out.trans m5)
      have X5 := Lib.hid (m5.blk X4.out hne)
      have B5 := Lib.hid (m5.blk B4.out hbn)
      have H5 := Lib.hid h5
      have c5 : w5.cell? ⟨W.heap.size, 0, none⟩ = some (RP r) := X5.out.cell 0
      obtain ⟨w6, hw6⟩ : ∃ w6, w6 = w5.alloc (.cells #[.string ⟨#[61]⟩, .string ⟨#[33, 61]⟩, .string ⟨#[60]⟩, .string ⟨#[60, 61]⟩, .string ⟨#[62]⟩, .string ⟨#[62, 61]⟩] 9) := ⟨_, rfl⟩
      have hb6 : Below w5.heap.size w5 w6 := by rw [hw6]; exact (Below.refl _ _).alloc (Nat.le_refl _) _
      have hl6 : Blk w6 w5.heap.size 9 (strsL kw_signs).toArray := by rw [hw6]; exact Blk.new w5 _ _
      have HC := Lib.hid (choice_any (h5.kept hb6) hl6 (by decide))
      have HB6 := Lib.hid hb6
      have HW6 := Lib.hid hw6
      clear h5 m5 c4 hb6 hl6
      go_wp2_with fail
      rw [show w5.alloc (.cells #[.string ⟨#[61]⟩, .string ⟨#[33, 61]⟩, .string ⟨#[60]⟩, .string ⟨#[60, 61]⟩, .string ⟨#[62]⟩, .string ⟨#[62, 61]⟩] 9) = w6 from HW6.out.symm]
      clear hw6
      refine HC.out.mono ?_
      rintro e w7 ⟨rfl, h7, m7⟩
      rcases hch : choice kw_signs 1 ts1 with ⟨k, ts2⟩
      rw [hch] at h7
      dsimp only at h7
      dsimp only
      have M7 := Lib.hid ((M5.out.trans (Stp.of (r := r) (nv := .slice none 0 0) HB6.out)).trans m7)
      have X7 := Lib.hid (m7.blk (X5.out.kept HB6.out) hne)
      have B7 := Lib.hid (m7.blk (B5.out.kept HB6.out) hbn)
      have e2 : w7.cell? ⟨w3.heap.size, 2, none⟩ = some (.int .i64 0) := B7.out.cell 2
      have f2 := B7.out.free 2
      have c7 : w7.cell? ⟨W.heap.size, 0, none⟩ = some (RP r) := X7.out.cell 0
      have B8 := Lib.hid (n_stored (n2 := (k : Int)) B7.out)
      have H8 := Lib.hid (h7.far B7.out (by decide) hnn.out hbn 2 (.int .i64 (k : Int)))
      have X8 := Lib.hid (X7.out.far hbx.symm (p := ⟨w3.heap.size, 2, none⟩) (.int .i64 (k : Int)))
      have M8 := Lib.hid (Mv.far M7.out (b := w3.heap.size) M3.out.size 2 (.int .i64 (k : Int)))
      have e8 : (w7.setCell ⟨w3.heap.size, 2, none⟩ (.int .i64 (k : Int))).cell? ⟨w3.heap.size, 2, none⟩ = some (.int .i64 (k : Int)) := B8.out.cell 2
      have c8 : (w7.setCell ⟨w3.heap.size, 2, none⟩ (.int .i64 (k : Int))).cell? ⟨W.heap.size, 0, none⟩ = some (RP r) := X8.out.cell 0
      clear h7 m7 c5
      match k, hch, B8, H8, X8, M8, e8, c8 with
      | 0, hch, B8, H8, X8, M8, e8, c8 =>
        have HE := Lib.hid (leaf_sign_bad (ns := ns) HT.out.1 HT.out.2 HH4.out hch)
        have hz : ts2 = ts1 := choice_zero (by decide) hch
        subst hz
        have HF := Lib.hid (fail_any H8.out)
        clear hch
        go_wp2_with fail
        refine HF.out.mono ?_
        rintro e w9 ⟨rfl, rfl⟩
        unfold Bad
        go_wp2_with fail
        exact ⟨rfl, by rw [HE.out]; exact ⟨rfl, nv, Mv.stp M8.out nv⟩⟩
      | k + 1, hch, B8, H8, X8, M8, e8, c8 =>
        have q1 : (((k + 1 : Nat) : Int) == 0) = false := by rw [beq_eq_false_iff_ne]; omega
        have HV := Lib.hid (value_any H8.out)
        have HCH := Lib.hid hch
        clear hch
        go_wp2_with fail
        refine HV.out.mono ?_
        rintro e w9 hp
        rcases hr : value ts2 ns with ⟨k2, long⟩ | ⟨v, ts3, ns3⟩
        · rw [hr] at hp
          obtain ⟨rfl, m9⟩ := hp
          have HE := Lib.hid (leaf_cmp_err HT.out.1 HT.out.2 HH4.out HCH.out hr)
          have M9 := Lib.hid (M8.out.trans m9)
          clear hr m9
          unfold Bad
          go_wp2_with fail
          exact ⟨rfl, by rw [HE.out]; exact ⟨rfl, nv, Mv.stp M9.out nv⟩⟩
        · rw [hr] at hp
          obtain ⟨_, rfl, rfl, h9, m9⟩ := hp
          have hns : ns3 = ns := still_value _ _ _ _ _ hr
          subst hns
          have HE := Lib.hid (leaf_cmp HT.out.1 HT.out.2 HH4.out HCH.out hr)
          have M9 := Lib.hid (M8.out.trans m9)
          have X9 := Lib.hid (m9.blk X8.out hne)
          have B9 := Lib.hid (m9.blk B8.out hbn)
          have H9 := Lib.hid h9
          have c9 : w9.cell? ⟨W.heap.size, 0, none⟩ = some (RP r) := X9.out.cell 0
          have ht9 : w9.there w3.heap.size 5 11 := box_there B9.out (show 16 ≤ 19 by decide)
          clear hr h9 m9
          go_wp2_with (first
            | (refine wpList_store_mid (by rfl) 37 (.tmp 48) (.tmp 47) (by rfl) w3.heap.size 5 (valA v) (by rfl) (by rfl) ht9 sizeVal (valA_one _) ?_
               generalize hwa : World.setCells _ _ _ _ = wa
               have BA := Lib.hid (val_stored (v := v) B9.out hwa)
               have HA := Lib.hid (show RS base r tv T deep ts3 ns3 nv wa from hwa ▸ RS.puts hbn hnn.out _ 5 H9.out B9.out)
               have MA := Lib.hid (show Mv r W wa from hwa ▸ mv_puts M3.out.size _ 5 M9.out)
               have ca : wa.cell? ⟨W.heap.size, 0, none⟩ = some (RP r) := (show Blk wa W.heap.size 112 #[RP r] from hwa ▸ far_puts hbx.symm _ 5 X9.out).cell 0
               clear hwa c9)
            | (refine wpList_load_mid (by rfl) 42 (.tmp 4) (by rfl) w3.heap.size 0 (by rfl) (leafM 14 t.s ((k + 1 : Nat) : Int) v).cells _ (box_range BA.out) undNode (by rfl) sizeNode ?_))
          refine (lay_any' (leafM 14 t.s ((k + 1 : Nat) : Int) v) HA.out (leafM_ok _ _ _ _ _ _) (by omega) (Nat.le_trans hbase MA.out.size)).mono ?_
          rintro e wb ⟨nvb, rfl, hb, sb⟩
          have HF := Lib.hid (And.intro hb ((Mv.stp MA.out nv).trans sb))
          clear hb sb
          go_wp2_with fail
          exact bodyPost_ret (results_tmp rfl _ _ _) rfl (by rw [HE.out]; exact ⟨_, rfl, HF.out⟩)
    · have HS4 := Lib.hid (sees_yes H4.out hh)
      have HH4 := Lib.hid hh
      have hl2 := sees_len hh
      clear hh
      refine HS4.out.mono ?_
      rintro e w5 ⟨rfl, h5, m5⟩
      have M5 := Lib.hid (M4.out.trans m5)
      have X5 := Lib.hid (m5.blk X4.out hne)
      have B5 := Lib.hid (m5.blk B4.out hbn)
      have H5 := Lib.hid h5
      have c5 : w5.cell? ⟨W.heap.size, 0, none⟩ = some (RP r) := X5.out.cell 0
      clear h5 m5 c4
      rcases take_cases 3 ts2 with ⟨u, ts3, hu, hk3⟩ | hk3
      · have HN3 := take_yes H5.out hu
        rw [hk3] at HN3
        have HN3 := Lib.hid HN3
        have HE := Lib.hid (leaf_has (ns := ns) HT.out.1 HT.out.2 HH4.out hu hk3)
        clear hu hk3
        go_wp2_with fail
        refine HN3.out.mono ?_
        rintro e w6 ⟨v6, rfl, ⟨a6, rfl⟩, h6, m6⟩
        have M6 := Lib.hid (M5.out.trans m6)
        have X6 := Lib.hid (m6.blk X5.out hne)
        have B6 := Lib.hid (m6.blk B5.out hbn)
        have e0 : w6.cell? ⟨w3.heap.size, 0, none⟩ = some (.int .i64 14) := B6.out.cell 0
        have f0 := B6.out.free 0
        have H6 := Lib.hid h6
        have B7 := Lib.hid (kind_stored (k2 := 15) B6.out)
        have H7 := Lib.hid (h6.far B6.out (by decide) hnn.out hbn 0 (.int .i64 ((15 : Nat) : Int)))
        have X7 := Lib.hid (X6.out.far hbx.symm (p := ⟨w3.heap.size, 0, none⟩) (.int .i64 ((15 : Nat) : Int)))
        have M7 := Lib.hid (Mv.far M6.out (b := w3.heap.size) M3.out.size 0 (.int .i64 ((15 : Nat) : Int)))
        have ht7 : (w6.setCell ⟨w3.heap.size, 0, none⟩ (.int .i64 15)).there w3.heap.size 5 11 := box_there B7.out (show 16 ≤ 19 by decide)
        clear h6 m6 c5
        go_wp2_with (first
          | (refine wpList_store_mid (by rfl) 37 (.tmp 33) (.tmp 31) (by rfl) w3.heap.size 5 (valA ⟨2, 0, u.s⟩) (by rfl) (by rfl) ht7 sizeVal (valA_one _) ?_
             generalize hwa : World.setCells _ _ _ _ = wa
             have BA := Lib.hid (val_stored (v := ⟨2, 0, u.s⟩) B7.out hwa)
             have HA := Lib.hid (show RS base r tv T deep ts3 ns nv wa from hwa ▸ RS.puts hbn hnn.out _ 5 H7.out B7.out)
             have MA := Lib.hid (show Mv r W wa from hwa ▸ mv_puts M3.out.size _ 5 M7.out)
             have ca : wa.cell? ⟨W.heap.size, 0, none⟩ = some (RP r) := (show Blk wa W.heap.size 112 #[RP r] from hwa ▸ far_puts hbx.symm _ 5 X7.out).cell 0
             clear hwa)
          | (refine wpList_load_mid (by rfl) 42 (.tmp 4) (by rfl) w3.heap.size 0 (by rfl) (leafM 15 t.s 0 ⟨2, 0, u.s⟩).cells _ (box_range BA.out) undNode (by rfl) sizeNode ?_))
        refine (lay_any' (leafM 15 t.s 0 ⟨2, 0, u.s⟩) HA.out (leafM_ok _ _ _ _ _ _) (by omega) (Nat.le_trans hbase MA.out.size)).mono ?_
        rintro e wb ⟨nvb, rfl, hb, sb⟩
        have HF := Lib.hid (And.intro hb ((Mv.stp MA.out nv).trans sb))
        clear hb sb
        go_wp2_with fail
        exact bodyPost_ret (results_tmp rfl _ _ _) rfl (by rw [HE.out]; exact ⟨_, rfl, HF.out⟩)
      · have HN3 := Lib.hid (take_no H5.out hk3)
        have HE := Lib.hid (leaf_has_bad (ns := ns) HT.out.1 HT.out.2 HH4.out hk3)
        clear hk3
        go_wp2_with fail
        refine HN3.out.mono ?_
        rintro e w6 ⟨rfl, m6⟩
        have M6 := Lib.hid (M5.out.trans m6)
        clear m6
        unfold Bad
        go_wp2_with fail
        exact ⟨rfl, by rw [HE.out]; exact ⟨rfl, nv, Mv.stp M6.out nv⟩⟩
  · have HN := Lib.hid (word_no H2.out hk)
    have HE := Lib.hid (leaf_bad (ns := ns) hk)
    clear hk
    go_wp2_with fail
    refine HN.out.mono ?_
    rintro e w3 ⟨rfl, m3⟩
    have M3 := Lib.hid (M2.out.trans m3)
    clear m3
    unfold Bad
    go_wp2_with fail
    exact ⟨rfl, by rw [HE.out]; exact ⟨rfl, nv, Mv.stp M3.out nv⟩⟩
end
/-- not, at whatever depth. -/
theorem not_walk {inNot inCond : M Nat} {deep : Nat} (h1 : WithN inNot deep) (n1 : Nice inNot) (h2 : WithC 206 inCond deep) : Reads 190 (notOf inNot inCond) deep := by
  intro base r tv nv T ts ns W h hbase hB
  rcases hs : sees kw_not ts with _ | ts1
  · rcases ho : sees kw_open ts with _ | ts1
    · rw [notOf_leaf hs ho]
      exact not_leaf h hbase hB hs ho
    · exact not_open h2 h hbase hB hs ho
  · exact not_neg h1 n1 h hbase hB hs
theorem nice_deep : Nice M.deep := ⟨cost_deep 0 0, rel_deep⟩
theorem not_reads : ∀ (d deep : Nat), deep + d = 16 → Reads 190 (pNot d) deep
  | 0, deep, h => not_walk (withN_deep (by omega)) nice_deep (withC_deep (by omega))
  | d + 1, deep, h => not_walk (withN_go (by omega) (not_reads d (deep + 1) (by omega))) (nice_not d) (withC_cond (by omega) (cond_c (cond_reads (not_reads d (deep + 1) (by omega)) (nice_not d))))
theorem pCond_reads (d deep : Nat) (h : deep + d = 16) : Reads 144 (pCond d) deep := cond_reads (not_reads d deep h) (nice_not d)
end Go.Proofs.YtnaehhpikhlppaaGreatDoor
