/- The walks of package parse's bracketed, step. -/
import Derived.Test.YtlonkcmkgmbkcaaDoorRdL
import Derived.Deep.RegionLawGrows
namespace Go.Proofs.YtlonkcmkgmbkcaaDoor
open Go.RowKit LexS ParS BigFrame
set_option maxHeartbeats 4000000
set_option linter.unusedVariables false
set_option linter.unusedSimpArgs false
attribute [local go_sem] field_tok1 field_tok2
attribute [local go_sem] World.cell?_alloc_some cell_drewN_new free_drewN_new cell_drew_new free_drew_new

theorem infoInt : (Tryd.prog.info? 3).map (fun i => (i.zero, i.size, i.bytes)) = some (some (.int .i64 0), 1, 8) := by kernel_rfl
section
variable {inner cond : M Nat} {rows c i : Nat} {ts ts1 ts2 ts3 ts4 : List Tk} {ns ns2 : List Nd} {er : Er} {t u : Tk} {l : List Bytes} {ag : List (Nat × Bytes)}
theorem bind_err {α β : Type} {p : M α} {f : α → M β} (h : p ts ns = .error er) : M.bind p f ts ns = .error er := by
  unfold M.bind
  rw [h]
theorem bind_assoc' {α β γ : Type} {p : M α} {f : α → M β} {g : β → M γ} : M.bind p (fun a => M.bind (f a) g) ts ns = M.bind (M.bind p f) g ts ns := by
  unfold M.bind
  rcases p ts ns with er | ⟨a, ts1, ns1⟩ <;> rfl
def brk (inner : M Nat) : M Nat := M.bind (wants kw_open) fun _ => inner
theorem s1_err (h : choice kw_steps 1 ts = (1, ts1)) (hc : cond ts1 ns = .error er) : stepOf inner cond rows ts ns = .error er := by
  unfold stepOf
  rw [h]
  exact bind_err hc
theorem s1_ok (h : choice kw_steps 1 ts = (1, ts1)) (hc : cond ts1 ns = .ok (c, ts2, ns2)) : stepOf inner cond rows ts ns = .ok (ns2.length, ts2, ns2 ++ [node 2 [rows, c]]) := by
  unfold stepOf
  rw [h]
  exact (bind_eq hc).trans rfl
theorem s2_err (h : choice kw_steps 1 ts = (2, ts1)) (hc : names ts1 ns = .error er) : stepOf inner cond rows ts ns = .error er := by
  unfold stepOf
  rw [h]
  exact bind_err hc
theorem s2_ok (h : choice kw_steps 1 ts = (2, ts1)) (hc : names ts1 ns = .ok (l, ts2, ns2)) : stepOf inner cond rows ts ns = .ok (ns2.length, ts2, ns2 ++ [{ node 3 [rows] with names := l }]) := by
  unfold stepOf
  rw [h]
  exact (bind_eq hc).trans rfl
theorem s3_err (h : choice kw_steps 1 ts = (3, ts1)) (hk : ∀ t ts2, ts1 = t :: ts2 → t.kind ≠ 2) : stepOf inner cond rows ts ns = .error (ts1.length, false) := by
  unfold stepOf
  rw [h]
  exact bind_err (take_bad hk)
theorem s3_ok (h : choice kw_steps 1 ts = (3, ts1)) (ht : ts1 = t :: ts2) (hk : t.kind = 2) : stepOf inner cond rows ts ns = .ok (ns.length, ts2, ns ++ [{ node 4 [rows] with n := t.n }]) := by
  unfold stepOf
  rw [h]
  exact (bind_eq (by rw [ht]; exact take_ok hk)).trans rfl
/-- The names of a group. -/
def gnames : M (List Bytes) := fun ts2 ns2 => match sees kw_colon ts2 with
  | some _ => .ok ([], ts2, ns2)
  | none => names ts2 ns2
theorem s4_eq (h : choice kw_steps 1 ts = (4, ts1)) : stepOf inner cond rows ts ns = M.bind gnames (fun l => M.bind (wants kw_colon) fun _ => M.bind aggs fun a => lay { node 5 [rows] with names := l, aggs := a }) ts1 ns := by
  unfold stepOf
  rw [h]
  rfl
theorem s4_err1 (h : choice kw_steps 1 ts = (4, ts1)) (hc : gnames ts1 ns = .error er) : stepOf inner cond rows ts ns = .error er := by
  rw [s4_eq h]
  exact bind_err hc
theorem s4_err2 (h : choice kw_steps 1 ts = (4, ts1)) (hc : gnames ts1 ns = .ok (l, ts2, ns)) (h2 : sees kw_colon ts2 = none) : stepOf inner cond rows ts ns = .error (ts2.length, false) := by
  rw [s4_eq h, bind_eq hc]
  refine bind_err ?_
  unfold wants
  rw [h2]
theorem wants_ok {w : Bytes} (h2 : sees w ts2 = some ts3) : wants w ts2 ns = .ok ((), ts3, ns) := by
  unfold wants
  rw [h2]
theorem wants_bad {w : Bytes} (h2 : sees w ts2 = none) : wants w ts2 ns = .error (ts2.length, false) := by
  unfold wants
  rw [h2]
theorem s4_err3 (h : choice kw_steps 1 ts = (4, ts1)) (hc : gnames ts1 ns = .ok (l, ts2, ns)) (h2 : sees kw_colon ts2 = some ts3) (ha : aggs ts3 ns = .error er) : stepOf inner cond rows ts ns = .error er := by
  rw [s4_eq h, bind_eq hc, bind_eq (wants_ok h2)]
  exact bind_err ha
theorem s4_ok (h : choice kw_steps 1 ts = (4, ts1)) (hc : gnames ts1 ns = .ok (l, ts2, ns)) (h2 : sees kw_colon ts2 = some ts3) (ha : aggs ts3 ns = .ok (ag, ts4, ns)) : stepOf inner cond rows ts ns = .ok (ns.length, ts4, ns ++ [{ node 5 [rows] with names := l, aggs := ag }]) := by
  rw [s4_eq h, bind_eq hc, bind_eq (wants_ok h2), bind_eq ha]
  rfl
theorem s5_eq (h : choice kw_steps 1 ts = (5, ts1)) : stepOf inner cond rows ts ns = M.bind (take 2) (fun t => M.bind (wants kw_by) fun _ => M.bind (take 1) fun u => lay { node 6 [rows] with n := t.n, s := u.s }) ts1 ns := by
  unfold stepOf
  rw [h]
  rfl
theorem s5_err1 (h : choice kw_steps 1 ts = (5, ts1)) (hk : ∀ t ts2, ts1 = t :: ts2 → t.kind ≠ 2) : stepOf inner cond rows ts ns = .error (ts1.length, false) := by
  rw [s5_eq h]
  exact bind_err (take_bad hk)
theorem s5_err2 (h : choice kw_steps 1 ts = (5, ts1)) (ht : ts1 = t :: ts2) (hk : t.kind = 2) (h2 : sees kw_by ts2 = none) : stepOf inner cond rows ts ns = .error (ts2.length, false) := by
  rw [s5_eq h, bind_eq (by rw [ht]; exact take_ok hk)]
  exact bind_err (wants_bad h2)
theorem s5_err3 (h : choice kw_steps 1 ts = (5, ts1)) (ht : ts1 = t :: ts2) (hk : t.kind = 2) (h2 : sees kw_by ts2 = some ts3) (hk3 : ∀ t ts2, ts3 = t :: ts2 → t.kind ≠ 1) : stepOf inner cond rows ts ns = .error (ts3.length, false) := by
  rw [s5_eq h, bind_eq (by rw [ht]; exact take_ok hk), bind_eq (wants_ok h2)]
  exact bind_err (take_bad hk3)
theorem s5_ok (h : choice kw_steps 1 ts = (5, ts1)) (ht : ts1 = t :: ts2) (hk : t.kind = 2) (h2 : sees kw_by ts2 = some ts3) (hu : ts3 = u :: ts4) (hk3 : u.kind = 1) : stepOf inner cond rows ts ns = .ok (ns.length, ts4, ns ++ [{ node 6 [rows] with n := t.n, s := u.s }]) := by
  rw [s5_eq h, bind_eq (by rw [ht]; exact take_ok hk), bind_eq (wants_ok h2), bind_eq (by rw [hu]; exact take_ok hk3)]
  rfl
theorem s67_err {k : Nat} (hk : k = 6 ∨ k = 7) (h : choice kw_steps 1 ts = (k, ts1)) (hc : brk inner ts1 ns = .error er) : stepOf inner cond rows ts ns = .error er := by
  rcases hk with rfl | rfl
  all_goals
    unfold stepOf
    rw [h]
    exact bind_assoc'.trans (bind_err hc)
theorem s6_ok (h : choice kw_steps 1 ts = (6, ts1)) (hc : brk inner ts1 ns = .ok (i, ts2, ns2)) : stepOf inner cond rows ts ns = .ok (ns2.length, ts2, ns2 ++ [node 7 [rows, i]]) := by
  unfold stepOf
  rw [h]
  exact bind_assoc'.trans ((bind_eq hc).trans rfl)
theorem s7_ok (h : choice kw_steps 1 ts = (7, ts1)) (hc : brk inner ts1 ns = .ok (i, ts2, ns2)) : stepOf inner cond rows ts ns = .ok (ns2.length, ts2, ns2 ++ [node 8 [rows, i]]) := by
  unfold stepOf
  rw [h]
  exact bind_assoc'.trans ((bind_eq hc).trans rfl)
theorem s0_err (h : choice kw_steps 1 ts = (0, ts1)) : stepOf inner cond rows ts ns = .error (ts.length, false) := by
  unfold stepOf
  rw [h]
  rfl
end
section
variable {base r deep : Nat} {tv nv nv' : Value} {T : List Tok} {ts ts1 : List Tk} {ns ns1 : List Nd} {W W' Wx : World}
set_option maxRecDepth 100000 in
theorem bracketed_any {inner : M Nat} (h2 : WithC 104 inner deep) : Reads 86 (brk inner) deep := by
  intro base r tv nv T ts ns W h hbase hB
  have hmf := hmfA
  obtain ⟨W0, hW0, h0, x0, m0, hne, hb0⟩ := box_start h
  have hsh := h.short
  have H2 := Lib.hid h2
  have X0 := Lib.hid x0
  have M0 := Lib.hid m0
  have HW := Lib.hid hW0
  have c0 : W0.cell? ⟨W.heap.size, 0, none⟩ = some (RP r) := x0.cell 0
  rcases hs : sees kw_open ts with _ | ts1
  · have HE := Lib.hid (show brk inner ts ns = .error (ts.length, false) from bind_err (wants_bad hs))
    have HS := Lib.hid (wants_no h0 hs)
    clear h h0 x0 m0 hs h2 hb0
    go_enter Tryd.func86, Tryd.ntmps86
    go_wp2_with fail
    rw [show W.alloc (.cells #[RP r] 62) = W0 from HW.out.symm]
    clear hW0
    refine HS.out.mono ?_
    rintro e w1 ⟨rfl, m1⟩
    have M1 := Lib.hid (M0.out.trans m1)
    clear m1
    unfold Bad
    go_wp2_with fail
    exact ⟨rfl, by rw [HE.out]; exact ⟨rfl, nv, Mv.stp M1.out nv⟩⟩
  · have HE := Lib.hid (show brk inner ts ns = inner ts1 ns from bind_eq (wants_ok hs))
    have HS := Lib.hid (wants_yes h0 hs)
    have hl := sees_len hs
    clear h h0 x0 m0 hs h2 hb0
    go_enter Tryd.func86, Tryd.ntmps86
    go_wp2_with fail
    rw [show W.alloc (.cells #[RP r] 62) = W0 from HW.out.symm]
    clear hW0
    refine HS.out.mono ?_
    rintro e w1 ⟨rfl, h1, m1⟩
    have M1 := Lib.hid (M0.out.trans m1)
    have x1 := m1.blk X0.out hne
    have c1 : w1.cell? ⟨W.heap.size, 0, none⟩ = some (RP r) := x1.cell 0
    have HC := Lib.hid (H2.out _ _ _ _ _ _ _ _ _ h1 (Nat.le_trans hbase M1.out.size) (by omega) (by omega) x1 hne hbase)
    clear h1 m1 x1 c0
    go_wp2_with fail
    refine HC.out.mono ?_
    rintro e w2 hp
    rcases hr : inner ts1 ns with ⟨k, long⟩ | ⟨a, ts2, ns2⟩
    · rw [hr] at hp
      obtain ⟨rfl, nv1, s1⟩ := hp
      have HF := Lib.hid (And.intro (HE.out.trans hr) ((Mv.stp M1.out nv).trans s1))
      clear hr s1
      unfold Bad
      go_wp2_with fail
      exact ⟨rfl, by rw [HF.out.1]; exact ⟨rfl, _, HF.out.2⟩⟩
    · rw [hr] at hp
      obtain ⟨nv1, rfl, h3, s3⟩ := hp
      have HF := Lib.hid (And.intro (HE.out.trans hr) (And.intro h3 ((Mv.stp M1.out nv).trans s3)))
      clear hr h3 s3
      go_wp2_with fail
      exact bodyPost_ret (results_tmp rfl _ _ _) rfl (by rw [HF.out.1]; exact ⟨_, rfl, HF.out.2⟩)
end
end Go.Proofs.YtlonkcmkgmbkcaaDoor
