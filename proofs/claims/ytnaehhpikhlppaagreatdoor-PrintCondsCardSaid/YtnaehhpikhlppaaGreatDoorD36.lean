/- Several texts of the proof, joined. -/
import Derived.Test.YtnaehhpikhlppaaGreatDoorD35
set_option maxHeartbeats 4000000
set_option linter.unusedVariables false
set_option linter.unusedSimpArgs false
namespace Go.Proofs.YtnaehhpikhlppaaGreatDoor
open Go.RowKit LexS ParS BigFrame
attribute [local go_sem] World.cell?_alloc_some cell_drewN_new free_drewN_new cell_drew_new free_drew_new

/-- The token that is taken. -/
def tokR (k : Nat) (st : RSt) : Tk := match goP (take k) st with
  | .ok (t, _, _) => t
  | .error _ => ⟨0, [], 0⟩
def Kind (base r : Nat) (tv : Value) (T : List Tok) (deep : Nat) (st : RSt) (nv : Value) (W : World) (k : Nat) (e : Ending) (W' : World) : Prop :=
  ∃ v, e = .returned v ∧ TokIs (tokR k st) v ∧ RF base r tv T deep (run (take k) st) nv W' ∧ Mv r W W'
abbrev zTok : Array Value := #[.int .i64 0, .string ⟨#[]⟩, .int .i64 0, .int .i64 0]
section
variable {base r deep : Nat} {tv nv nv' : Value} {T : List Tok} {st : RSt} {ts ts1 : List Tk} {ns : List Nd} {W W' w1 w2 : World}
theorem RF.far {b : Nat} {t : TypeId} {cs : Array Value} (h : RF base r tv T deep st nv W) (hb : Blk W b t cs) (h1 : t ≠ 3 ∧ t ≠ 9 ∧ t ≠ 85) (ht : tv.ownBlock ≠ some b) (hn : nv.ownBlock ≠ some b) (hr : b ≠ r) (i : Nat) (u : Value) : RF base r tv T deep st nv (W.setCell ⟨b, i, none⟩ u) := by
  have row : ∀ {b2 size n : Nat} {e : TypeId} {v : Value} {xs : List Value}, W.ownsRow b2 e size v n xs → (e ≠ t ∨ v.ownBlock ≠ some b) → (W.setCell ⟨b, i, none⟩ u).ownsRow b2 e size v n xs := by
    intro b2 size n e v xs ho hne
    refine ⟨ho.1, ?_⟩
    rcases ho.2 with h4 | ⟨g, cap, cur, rfl, h5, h6, h7⟩
    · exact .inl h4
    · refine .inr ⟨g, cap, cur, rfl, h5, ?_, h7⟩
      rw [← h6]
      simp only [World.setCell, Array.getElem?_modify]
      rw [if_neg (fun e1 => by
        rcases hne with hne | hne
        · rw [← e1] at h6
          exact hne (block_types h6 hb)
        · exact hne (by rw [e1]; rfl))]
  obtain ⟨ns, ⟨ms, k1, k2, k3⟩, k5, k4⟩ := h.nodes
  exact ⟨h.box.far (Ne.symm hr) _, h.le, row h.toks (.inr ht), h.left, h.suf, h.few, ns, ⟨ms, k1, row k2 (.inr hn), fun m hm => ⟨row (k3 m hm).l (.inl (Ne.symm h1.1)), row (k3 m hm).names (.inl (Ne.symm h1.2.1)), row (k3 m hm).aggs (.inl (Ne.symm h1.2.2))⟩⟩, k5, k4⟩
theorem RF.own_lt (h : RF base r tv T deep st nv W) : (∀ g, tv.ownBlock = some g → g < W.heap.size) ∧ (∀ g, nv.ownBlock = some g → g < W.heap.size) := by
  refine ⟨fun g hg => (h.toks.lt g hg).2, fun g hg => ?_⟩
  obtain ⟨ns, ⟨ms, _, ho, _⟩, _⟩ := h.nodes
  exact (ho.lt g hg).2
theorem run_take_error {k : Nat} (h : ∀ t ts1 ns, st = .ok (t :: ts1, ns) → t.kind ≠ k) : run (take k) st = failR st ∧ tokR k st = ⟨0, [], 0⟩ := by
  rcases st with e | ⟨ts, ns⟩
  · exact ⟨rfl, rfl⟩
  · cases ts with
    | nil => exact ⟨rfl, rfl⟩
    | cons t ts1 =>
      have hk := h t ts1 ns rfl
      have e : take k (t :: ts1) ns = .error (ts1.length + 1, false) := if_neg hk
      unfold run tokR goP
      dsimp only
      rw [e]
      exact ⟨rfl, rfl⟩
theorem run_take_ok {t : Tk} : run (take t.kind) (.ok (t :: ts1, ns)) = .ok (ts1, ns) ∧ tokR t.kind (.ok (t :: ts1, ns)) = t := by
  have e : take t.kind (t :: ts1) ns = .ok (t, ts1, ns) := if_pos rfl
  unfold run tokR goP
  dsimp only
  rw [e]
  exact ⟨rfl, rfl⟩
/-- The way where there is no such token. -/
theorem kind_end {k : Nat} (h : RF base r tv T deep st nv W) (hk : ∀ t ts1 ns, st = .ok (t :: ts1, ns) → t.kind ≠ k) (h2 : RF base r tv T deep (failR st) nv w2) (m : Mv r W w2) (hx : Blk w2 W.heap.size 65 zTok) :
    Kind base r tv T deep st nv W k (.returned (.agg zTok)) ((((w2.setCell ⟨W.heap.size, 0, none⟩ (.int .i64 0)).setCell ⟨W.heap.size, 1, none⟩ (.string ⟨#[]⟩)).setCell ⟨W.heap.size, 2, none⟩ (.int .i64 0)).setCell ⟨W.heap.size, 3, none⟩ (.int .i64 0)) := by
  obtain ⟨e1, e2⟩ := run_take_error hk
  have nr : W.heap.size ≠ r := Nat.ne_of_gt h.box.lt
  have nt : tv.ownBlock ≠ some W.heap.size := fun e => Nat.lt_irrefl _ (h.own_lt.1 _ e)
  have nn : nv.ownBlock ≠ some W.heap.size := fun e => Nat.lt_irrefl _ (h.own_lt.2 _ e)
  have hd : (65 : TypeId) ≠ 3 ∧ (65 : TypeId) ≠ 9 ∧ (65 : TypeId) ≠ 85 := by decide
  refine ⟨_, rfl, ⟨0, by rw [e2]; rfl⟩, ?_, (((m.far (Nat.le_refl _) _ _).far (Nat.le_refl _) _ _).far (Nat.le_refl _) _ _).far (Nat.le_refl _) _ _⟩
  rw [e1]
  exact (((h2.far hx hd nt nn nr 0 _).far (hx.put 0 _) hd nt nn nr 1 _).far ((hx.put 0 _).put 1 _) hd nt nn nr 2 _).far (((hx.put 0 _).put 1 _).put 2 _) hd nt nn nr 3 _
set_option maxRecDepth 100000 in
theorem kind_r (k : Nat) (h : RF base r tv T deep st nv W) : Calls Tryz.prog 80 #[RP r, .int .i64 (k : Int)] W (Kind base r tv T deep st nv W k) := by
  obtain ⟨p, cap, rfl, hcap, hmax, hrow⟩ := row_any h.toks
  have hfew := h.few
  obtain ⟨W0, hW0⟩ : ∃ W0, W0 = W.alloc (.cells zTok 65) := ⟨_, rfl⟩
  have hb0 : Below W.heap.size W W0 := by rw [hW0]; exact (Below.refl _ _).alloc (Nat.le_refl _) _
  have hx0 : Blk W0 W.heap.size 65 zTok := by rw [hW0]; exact Blk.new W _ _
  have H0 := h.kept hb0
  have HR := Lib.hid h
  have HB := Lib.hid hb0
  have HX := Lib.hid hx0
  have HH := Lib.hid H0
  have HW := Lib.hid hW0
  have c0 : W0.cell? ⟨r, 0, none⟩ = some (.slice p T.length cap) := H0.box.cell 0
  have f1 := H0.box.free 1
  have nr : r ≠ W.heap.size := Nat.ne_of_lt h.box.lt
  have nr2 : W.heap.size ≠ r := nr.symm
  have no : ∀ (W' : World) (m : Mv r W0 W'), Blk W' W.heap.size 65 zTok := fun W' m => m.blk HX.out nr2
  have HNO := Lib.hid no
  clear no
  rcases st with ⟨kk, long⟩ | ⟨ts, ns⟩
  · have c3 : W0.cell? ⟨r, 3, none⟩ = some (.int .i64 (codeOf long : Int)) := H0.box.cell 3
    have hc := codeOf_ne long
    obtain ⟨c, hcc⟩ : ∃ c, c = codeOf long := ⟨_, rfl⟩
    rw [← hcc] at c3 hc
    have q1 : ((c : Int) != 0) = true := by rw [bne_iff_ne]; omega
    have q2 : ¬ (c : Int) = 0 := by omega
    clear hrow h hc hcc hW0 hb0 hx0 H0
    go_enter Tryz.func80, Tryz.ntmps80
    go_wp2_with fail
    rw [show W.alloc (.cells zTok 65) = W0 from HW.out.symm]
    go_big_quiet (fail)
    go_wp2_with fail
    have hbq : Below W0.heap.size W0 (W0.drewN nq) := below_drewN (Below.refl _ _) nq
    refine (fail_r (HH.out.kept hbq)).mono ?_
    rintro e w2 ⟨rfl, h2, m2⟩
    have hx := HNO.out _ ((Stp.of hbq).trans m2)
    have HE := Lib.hid (kind_end (k := k) HR.out (fun t ts1 ns e => by cases e) h2 ((Stp.of (HB.out.trans (hbq.mono HB.out.size))).trans m2) hx)
    have e0 : w2.cell? ⟨W.heap.size, 0, none⟩ = some (.int .i64 0) := hx.cell 0
    have e1 : w2.cell? ⟨W.heap.size, 1, none⟩ = some (.string ⟨#[]⟩) := hx.cell 1
    have e2 : w2.cell? ⟨W.heap.size, 2, none⟩ = some (.int .i64 0) := hx.cell 2
    have e3 : w2.cell? ⟨W.heap.size, 3, none⟩ = some (.int .i64 0) := hx.cell 3
    have x0 := hx.free 0
    have x1 := hx.free 1
    have x2 := hx.free 2
    have x3 := hx.free 3
    clear hx h2 m2 hbq
    go_wp2_with fail
    refine bodyPost_ret (v := .agg zTok) ?_ rfl HE.out
    simp [results, Tryz.results80, go_sem, e0, e1, e2, e3]
  · have c3 : W0.cell? ⟨r, 3, none⟩ = some (.int .i64 0) := H0.box.cell 3
    cases ts with
    | nil =>
      have c1 : W0.cell? ⟨r, 1, none⟩ = some (.int .i64 (T.length : Int)) := H0.box.cell 1
      have q1 : (T.length : Int) ≤ (T.length : Int) := by omega
      have q2 : decide ((T.length : Int) ≤ (T.length : Int)) = true := decide_eq_true q1
      clear hrow h hW0 hb0 hx0 H0
      go_enter Tryz.func80, Tryz.ntmps80
      go_wp2_with fail
      rw [show W.alloc (.cells zTok 65) = W0 from HW.out.symm]
      go_big_quiet (fail)
      go_wp2_with fail
      have hbq : Below W0.heap.size W0 (W0.drewN nq) := below_drewN (Below.refl _ _) nq
      refine (fail_r (HH.out.kept hbq)).mono ?_
      rintro e w2 ⟨rfl, h2, m2⟩
      have hx := HNO.out _ ((Stp.of hbq).trans m2)
      have HE := Lib.hid (kind_end (k := k) HR.out (fun t ts1 ns e => by cases e) h2 ((Stp.of (HB.out.trans (hbq.mono HB.out.size))).trans m2) hx)
      have e0 : w2.cell? ⟨W.heap.size, 0, none⟩ = some (.int .i64 0) := hx.cell 0
      have e1 : w2.cell? ⟨W.heap.size, 1, none⟩ = some (.string ⟨#[]⟩) := hx.cell 1
      have e2 : w2.cell? ⟨W.heap.size, 2, none⟩ = some (.int .i64 0) := hx.cell 2
      have e3 : w2.cell? ⟨W.heap.size, 3, none⟩ = some (.int .i64 0) := hx.cell 3
      have x0 := hx.free 0
      have x1 := hx.free 1
      have x2 := hx.free 2
      have x3 := hx.free 3
      clear hx h2 m2 hbq
      go_wp2_with fail
      refine bodyPost_ret (v := .agg zTok) ?_ rfl HE.out
      simp [results, Tryz.results80, go_sem, e0, e1, e2, e3]
    | cons t ts1 =>
      obtain ⟨u, hu, hut, hlt⟩ := tok_at (h.suf _ _ rfl) h.left rfl
      obtain ⟨i, hi⟩ : ∃ i, i = T.length - (t :: ts1).length := ⟨_, rfl⟩
      rw [← hi] at hu hlt
      obtain ⟨g, rfl, _, hg, hcells⟩ := hrow (by rintro rfl; simp at hlt)
      obtain ⟨d0, d1, d2, d3⟩ := hcells i u hu
      have d0 := keepc hb0 d0
      have d1 := keepc hb0 d1
      have d2 := keepc hb0 d2
      have d3 := keepc hb0 d3
      have c1 : W0.cell? ⟨r, 1, none⟩ = some (.int .i64 (i : Int)) := by rw [hi]; exact H0.box.cell 1
      have q1 : ¬ (T.length : Int) ≤ (i : Int) := by omega
      have q2 : decide ((T.length : Int) ≤ (i : Int)) = false := decide_eq_false q1
      have q3 : decide (T.length ≤ i) = false := decide_eq_false (by omega)
      have q4 : (0 : Int) ≤ (i : Int) := by omega
      have q5 : (i : Int) < (T.length : Int) := by omega
      by_cases hk : u.kind = k
      case neg =>
        have q6 : ((u.kind : Int) != (k : Int)) = true := by rw [bne_iff_ne]; omega
        have q7 : ¬ (u.kind : Int) = (k : Int) := by omega
        have HK := Lib.hid (show ∀ t' ts1' ns', (Except.ok (t :: ts1, ns) : RSt) = .ok (t' :: ts1', ns') → t'.kind ≠ k from fun t' ts1' ns' e => by
          cases e
          rw [← hut]
          exact hk)
        clear hrow h hW0 hb0 hx0 H0 hcells hi hu hut hk
        go_enter Tryz.func80, Tryz.ntmps80
        go_wp2_with fail
        rw [show W.alloc (.cells zTok 65) = W0 from HW.out.symm]
        go_big_quiet (fail)
        go_wp2_with fail
        have hbq : Below W0.heap.size W0 (W0.drewN nq) := below_drewN (Below.refl _ _) nq
        refine (fail_r (HH.out.kept hbq)).mono ?_
        rintro e w2 ⟨rfl, h2, m2⟩
        have hx := HNO.out _ ((Stp.of hbq).trans m2)
        have HE := Lib.hid (kind_end (k := k) HR.out HK.out h2 ((Stp.of (HB.out.trans (hbq.mono HB.out.size))).trans m2) hx)
        have e0 : w2.cell? ⟨W.heap.size, 0, none⟩ = some (.int .i64 0) := hx.cell 0
        have e1 : w2.cell? ⟨W.heap.size, 1, none⟩ = some (.string ⟨#[]⟩) := hx.cell 1
        have e2 : w2.cell? ⟨W.heap.size, 2, none⟩ = some (.int .i64 0) := hx.cell 2
        have e3 : w2.cell? ⟨W.heap.size, 3, none⟩ = some (.int .i64 0) := hx.cell 3
        have x0 := hx.free 0
        have x1 := hx.free 1
        have x2 := hx.free 2
        have x3 := hx.free 3
        clear hx h2 m2 hbq
        go_wp2_with fail
        refine bodyPost_ret (v := .agg zTok) ?_ rfl HE.out
        simp [results, Tryz.results80, go_sem, e0, e1, e2, e3]
      case pos =>
        obtain ⟨kd, hkd⟩ : ∃ kd, kd = u.kind := ⟨_, rfl⟩
        have HT := Lib.hid (show TokIs t (.agg #[.int .i64 (kd : Int), .string ⟨u.s.toArray⟩, .int .i64 u.n, .int .i64 (u.at_ : Int)]) from ⟨(u.at_ : Int), by rw [hkd, ← hut]; rfl⟩)
        have HKT := Lib.hid (show t.kind = k by rw [← hut]; exact hk)
        rw [← hk, ← hkd]
        rw [← hkd] at d0
        have q6 : ((kd : Int) != (kd : Int)) = false := by simp
        have ng : g ≠ W.heap.size := Nat.ne_of_lt hg
        have ng2 : W.heap.size ≠ g := ng.symm
        have nrg : g ≠ r := by
          intro e
          subst e
          exact h.t_ne rfl
        have HI := Lib.hid hi
        have HKD := Lib.hid (And.intro hkd hk)
        have hbig : (i : Int) ≤ 1024 := by omega
        clear hrow h hW0 hb0 hx0 H0 hcells hi hu hut hk hkd
        go_enter Tryz.func80, Tryz.ntmps80
        go_wp2_with fail
        rw [show W.alloc (.cells zTok 65) = W0 from HW.out.symm]
        go_big_quiet (fail)
        go_wp2_with fail
        obtain ⟨W2, hW2⟩ : ∃ W2, W2 = (W0.drewN nq).setCell ⟨r, 1, none⟩ (.int .i64 ((i : Int) + 1)) := ⟨_, rfl⟩
        have hbq : Below W0.heap.size W0 (W0.drewN nq) := below_drewN (Below.refl _ _) nq
        have H2 : RF base r (.slice (some ⟨g, 0, none⟩) T.length cap) T deep (.ok (ts1, ns)) nv W2 := by rw [hW2]; exact (HH.out.kept hbq).next (by rw [HI.out])
        have S2 : Mv r W W2 := by rw [hW2]; exact (Stp.of (HB.out.trans (hbq.mono HB.out.size))).set 1 _
        have X2 : Blk W2 W.heap.size 65 zTok := by rw [hW2]; exact (HX.out.kept hbq).far nr.symm _
        have c0 : W2.cell? ⟨r, 0, none⟩ = some (.slice (some ⟨g, 0, none⟩) T.length cap) := H2.box.cell 0
        have c1 : W2.cell? ⟨r, 1, none⟩ = some (.int .i64 ((i : Int) + 1)) := by
          have := H2.box.cell 1
          rw [this]
          have e : T.length - ts1.length = i + 1 := by
            have h1 : ts1.length ≤ T.length := H2.left
            have h2 := HI.out
            have h3 : (t :: ts1).length ≤ T.length := HR.out.left
            rw [List.length_cons] at h2 h3
            omega
          show some (Value.int .i64 ((T.length - ts1.length : Nat) : Int)) = _
          rw [e]
          rfl
        have d0 : W2.cell? ⟨g, i * 4, none⟩ = some (.int .i64 (kd : Int)) := by rw [hW2]; exact (cell?_setCell_ne nrg).trans d0
        have d1 : W2.cell? ⟨g, i * 4 + 1, none⟩ = some (.string ⟨u.s.toArray⟩) := by rw [hW2]; exact (cell?_setCell_ne nrg).trans d1
        have d2 : W2.cell? ⟨g, i * 4 + 2, none⟩ = some (.int .i64 u.n) := by rw [hW2]; exact (cell?_setCell_ne nrg).trans d2
        have d3 : W2.cell? ⟨g, i * 4 + 3, none⟩ = some (.int .i64 (u.at_ : Int)) := by rw [hW2]; exact (cell?_setCell_ne nrg).trans d3
        have e0 : W2.cell? ⟨W.heap.size, 0, none⟩ = some (.int .i64 0) := X2.cell 0
        have e1 : W2.cell? ⟨W.heap.size, 1, none⟩ = some (.string ⟨#[]⟩) := X2.cell 1
        have e2 : W2.cell? ⟨W.heap.size, 2, none⟩ = some (.int .i64 0) := X2.cell 2
        have e3 : W2.cell? ⟨W.heap.size, 3, none⟩ = some (.int .i64 0) := X2.cell 3
        have x0 := X2.free 0
        have x1 := X2.free 1
        have x2 := X2.free 2
        have x3 := X2.free 3
        have HF := Lib.hid (And.intro H2 (And.intro S2 X2))
        have v1 : IntKind.i64.wrap (i : Int) = (i : Int) := IntWalk.i64_in _ (by omega)
        have v2 : IntKind.i64.wrap ((i : Int) + 1 - 1) = (i : Int) := by rw [show ((i : Int) + 1 - 1) = (i : Int) by omega]; exact v1
        rw [← hW2]
        clear hW2 hbq H2 S2 X2 f1
        go_region_held3 (fun w' => w'.cell? ⟨r, 0, none⟩ = some (.slice (some ⟨g, 0, none⟩) T.length cap) ∧ w'.cell? ⟨r, 1, none⟩ = some (.int .i64 ((i : Int) + 1)) ∧ w'.cell? ⟨g, i * 4, none⟩ = some (.int .i64 (kd : Int)) ∧ w'.cell? ⟨g, i * 4 + 1, none⟩ = some (.string ⟨u.s.toArray⟩) ∧ w'.cell? ⟨g, i * 4 + 2, none⟩ = some (.int .i64 u.n) ∧ w'.cell? ⟨g, i * 4 + 3, none⟩ = some (.int .i64 (u.at_ : Int))) (go_keep) (fail)
        go_wp2_with fail
        have hkt : t.kind = kd := by rw [HKT.out, HKD.out.1, HKD.out.2]
        refine bodyPost_ret (v := .agg #[.int .i64 (kd : Int), .string ⟨u.s.toArray⟩, .int .i64 u.n, .int .i64 (u.at_ : Int)]) ?_ rfl ⟨_, rfl, ?_, ?_⟩
        · simp [results, Tryz.results80, go_sem, e0, e1, e2, e3]
        · rw [← hkt, run_take_ok.2]
          exact hkt ▸ HT.out
        · rw [← hkt, run_take_ok.1]
          have hs := HF.out.2.1
          have h2 := HF.out.1
          have hx := HF.out.2.2
          have nt : (Value.slice (some ⟨g, 0, none⟩) T.length cap).ownBlock ≠ some W.heap.size := fun e => by injection e with e; exact ng e
          have nn : nv.ownBlock ≠ some W.heap.size := fun e => Nat.lt_irrefl _ (HR.out.own_lt.2 _ e)
          have hd : (65 : TypeId) ≠ 3 ∧ (65 : TypeId) ≠ 9 ∧ (65 : TypeId) ≠ 85 := by decide
          exact ⟨((((h2.far hx hd nt nn nr2 0 _).far (hx.put 0 _) hd nt nn nr2 1 _).far ((hx.put 0 _).put 1 _) hd nt nn nr2 2 _).far (((hx.put 0 _).put 1 _).put 2 _) hd nt nn nr2 3 _).kept (below_drewN (Below.refl _ _) 1), ((((hs.far (Nat.le_refl _) _ _).far (Nat.le_refl _) _ _).far (Nat.le_refl _) _ _).far (Nat.le_refl _) _ _).drew⟩
end
end Go.Proofs.YtnaehhpikhlppaaGreatDoor
