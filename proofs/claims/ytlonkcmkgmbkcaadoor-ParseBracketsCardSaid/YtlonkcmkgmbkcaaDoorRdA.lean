/- The walks of package parse's reader: is, sees, fail, wants, take, word, number. -/
import Derived.Test.YtlonkcmkgmbkcaaDoorRMem
import Derived.Test.YtlonkcmkgmbkcaaDoorPlacesW
import Derived.Deep.RegionLaw
namespace Go.Proofs.YtlonkcmkgmbkcaaDoor
open Go.RowKit LexS ParS BigFrame
set_option maxHeartbeats 4000000
set_option linter.unusedVariables false
attribute [local go_sem] World.cell?_alloc_some cell_drewN_new free_drewN_new cell_drew_new free_drew_new

abbrev RP (r : Nat) : Value := .pointer (some ⟨r, 0, none⟩)
def isS (b : Bytes) (ts : List Tk) : Bool := (sees b ts).isSome
theorem isS_nil (b : Bytes) : isS b [] = false := rfl
theorem isS_cons (b : Bytes) (t : Tk) (ts : List Tk) : isS b (t :: ts) = isW b t := by
  unfold isS
  rw [sees_cons]
  cases isW b t <;> rfl
section
variable {base r deep : Nat} {tv nv nv' : Value} {T : List Tok} {ts ts1 : List Tk} {ns : List Nd} {W W' : World}
theorem is_any (b : Bytes) (h : RS base r tv T deep ts ns nv W) : Calls Tryd.prog 82 #[RP r, .string (BA b)] W fun e W' => e = .returned (.bool (isS b ts)) ∧ Below W.heap.size W W' := by
  obtain ⟨p, cap, rfl, hcap, hmax, hrow⟩ := row_any h.toks
  have hfew := h.few
  cases ts with
  | nil =>
    have c0 : W.drew.cell? ⟨r, 0, none⟩ = some (.slice p T.length cap) := h.box.drew.cell 0
    have c1 : W.drew.cell? ⟨r, 1, none⟩ = some (.int .i64 (T.length : Int)) := h.box.drew.cell 1
    have c0 : W.cell? ⟨r, 0, none⟩ = some (.slice p T.length cap) := h.box.cell 0
    have c1 : W.cell? ⟨r, 1, none⟩ = some (.int .i64 (T.length : Int)) := h.box.cell 1
    have q1 : (T.length : Int) ≤ (T.length : Int) := by omega
    have q2 : decide ((T.length : Int) ≤ (T.length : Int)) = true := decide_eq_true q1
    clear hrow h
    go_enter Tryd.func82, Tryd.ntmps82
    go_wp2_with fail
    go_big_quiet (fail)
    go_wp2_with fail
    go_ret
    exact ⟨rfl, by first | exact below_drewN (Below.refl _ _) _ | exact (Below.refl _ _).drew⟩
  | cons t ts1 =>
    obtain ⟨u, hu, hut, hlt⟩ := tok_at h.suf h.short rfl
    obtain ⟨i, hi⟩ : ∃ i, i = T.length - (t :: ts1).length := ⟨_, rfl⟩
    rw [← hi] at hu hlt
    obtain ⟨g, rfl, _, _, hcells⟩ := hrow (by rintro rfl; simp at hlt)
    obtain ⟨d0, d1, d2, d3⟩ := hcells i u hu
    have c0 : W.cell? ⟨r, 0, none⟩ = some (.slice (some ⟨g, 0, none⟩) T.length cap) := h.box.cell 0
    have c1 : W.cell? ⟨r, 1, none⟩ = some (.int .i64 (i : Int)) := by rw [hi]; exact h.box.cell 1
    have q1 : ¬ (T.length : Int) ≤ (i : Int) := by omega
    have q2 : decide ((T.length : Int) ≤ (i : Int)) = false := decide_eq_false q1
    have q3 : decide (T.length ≤ i) = false := decide_eq_false (by omega)
    have q4 : (0 : Int) ≤ (i : Int) := by omega
    have q5 : (i : Int) < (T.length : Int) := by omega
    have hv : isS b (t :: ts1) = ((decide (u.kind = 1) || decide (u.kind = 4)) && decide (u.s = b)) := by rw [isS_cons, ← hut]; rfl
    have HV := Lib.hid hv
    have n1 := World.new_ne W _ c0
    have n2 := World.new_ne W _ c1
    have n3 := World.new_ne W _ d0
    have n4 := World.new_ne W _ d1
    have n5 := World.new_ne W _ d2
    have n6 := World.new_ne W _ d3
    clear hcells hrow h hi hu hut hv
    go_enter Tryd.func82, Tryd.ntmps82
    go_wp2_with fail
    go_big_quiet (fail)
    go_wp2_with fail
    go_region_held3 (fun w' => w'.cell? ⟨r, 0, none⟩ = some (.slice (some ⟨g, 0, none⟩) T.length cap) ∧ w'.cell? ⟨r, 1, none⟩ = some (.int .i64 (i : Int)) ∧ w'.cell? ⟨g, i * 4, none⟩ = some (.int .i64 (u.kind : Int)) ∧ w'.cell? ⟨g, i * 4 + 1, none⟩ = some (.string ⟨u.s.toArray⟩) ∧ w'.cell? ⟨g, i * 4 + 2, none⟩ = some (.int .i64 u.n) ∧ w'.cell? ⟨g, i * 4 + 3, none⟩ = some (.int .i64 (u.at_ : Int))) (go_keep) (fail)
    go_wp2_with fail
    all_goals
      go_ret
      refine ⟨congrArg (fun x => Ending.returned (.bool x)) ?_, below_box4 _ _ _ _ _ _ _ _⟩
      rw [HV.out]
      first
        | (have k1 : (u.kind : Int) = 1 := by assumption
           have k1' : u.kind = 1 := by omega
           rw [k1', Bool.eq_iff_iff]; simp; done)
        | (have k1 : ¬ (u.kind : Int) = 1 := by assumption
           have k2 : (u.kind : Int) = 4 := by assumption
           have k2' : u.kind = 4 := by omega
           rw [k2', Bool.eq_iff_iff]; simp; done)
        | (have k1 : ¬ (u.kind : Int) = 1 := by assumption
           have k2 : ¬ (u.kind : Int) = 4 := by assumption
           have k1' : ¬ u.kind = 1 := by omega
           have k2' : ¬ u.kind = 4 := by omega
           rw [decide_eq_false k1', decide_eq_false k2']; rfl)
theorem isS_some {b : Bytes} (h : sees b ts = some ts1) : isS b ts = true ∧ ∃ t, ts = t :: ts1 := by
  refine ⟨by unfold isS; rw [h]; rfl, ?_⟩
  cases ts with
  | nil => cases h
  | cons t r =>
    rw [sees_cons] at h
    split at h
    · injection h with h
      subst h
      exact ⟨t, rfl⟩
    · cases h
theorem isS_none {b : Bytes} (h : sees b ts = none) : isS b ts = false := by unfold isS; rw [h]; rfl
theorem sees_yes {b : Bytes} (h : RS base r tv T deep ts ns nv W) (hs : sees b ts = some ts1) :
    Calls Tryd.prog 64 #[RP r, .string (BA b)] W fun e W' => e = .returned (.bool true) ∧ RS base r tv T deep ts1 ns nv W' ∧ Mv r W W' := by
  obtain ⟨h1, t, ht⟩ := isS_some hs
  have H := Lib.hid h
  have HT := Lib.hid ht
  have hi := is_any b h
  rw [h1] at hi
  have HI := Lib.hid hi
  clear h hs h1 ht hi
  go_enter Tryd.func64, Tryd.ntmps64
  go_wp2_with fail
  refine HI.out.mono ?_
  rintro e w1 ⟨rfl, hb⟩
  have H1 := Lib.hid (H.out.kept hb)
  have S1 := Lib.hid (Stp.of (r := r) (nv := .slice none 0 0) hb)
  have hfew := H.out.few
  obtain ⟨i, hi⟩ : ∃ i, i = T.length - ts.length := ⟨_, rfl⟩
  have c1 : w1.cell? ⟨r, 1, none⟩ = some (.int .i64 (i : Int)) := by rw [hi]; exact H1.out.box.cell 1
  have f1 := H1.out.box.free 1
  have hi2 : (i : Int) ≤ 1024 := by omega
  have H2 := Lib.hid (H1.out.next HT.out (a := (i : Int) + 1) (by rw [hi]))
  clear hi hb
  go_wp2_with fail
  go_ret
  exact ⟨rfl, H2.out, S1.out.set 1 _⟩
theorem sees_no {b : Bytes} (h : RS base r tv T deep ts ns nv W) (hs : sees b ts = none) :
    Calls Tryd.prog 64 #[RP r, .string (BA b)] W fun e W' => e = .returned (.bool false) ∧ RS base r tv T deep ts ns nv W' ∧ Mv r W W' := by
  have hi := is_any b h
  rw [isS_none hs] at hi
  have H := Lib.hid h
  have HI := Lib.hid hi
  clear h hs hi
  go_enter Tryd.func64, Tryd.ntmps64
  go_wp2_with fail
  refine HI.out.mono ?_
  rintro e w1 ⟨rfl, hb⟩
  go_wp2_with fail
  go_ret
  exact ⟨rfl, H.out.kept hb, Stp.of hb⟩
/-- What is thrown where k tokens are left. -/
def Bad (T : List Tok) (k : Nat) (long : Bool) : Ending := .panicked [{ v := .iface 74 (.agg #[.int .i64 ((T.length - k : Nat) : Int), .int .i64 (codeOf long : Int)]), recovered := false }]
theorem fail_any (h : RS base r tv T deep ts ns nv W) : Calls Tryd.prog 49 #[RP r] W fun e W' => e = Bad T ts.length false ∧ W = W' := by
  have c1 : W.cell? ⟨r, 1, none⟩ = some (.int .i64 ((T.length - ts.length : Nat) : Int)) := h.box.cell 1
  obtain ⟨i, hi⟩ : ∃ i, i = T.length - ts.length := ⟨_, rfl⟩
  rw [← hi] at c1
  have HB := Lib.hid (show Bad T ts.length false = .panicked [{ v := .iface 74 (.agg #[.int .i64 (i : Int), .int .i64 120]), recovered := false }] by rw [hi]; rfl)
  clear hi h
  go_enter Tryd.func49, Tryd.ntmps49
  go_wp2_with fail
  exact ⟨rfl, HB.out.symm, rfl⟩
theorem wants_yes {b : Bytes} (h : RS base r tv T deep ts ns nv W) (hs : sees b ts = some ts1) :
    Calls Tryd.prog 62 #[RP r, .string (BA b)] W fun e W' => e = .returned (.tuple #[]) ∧ RS base r tv T deep ts1 ns nv W' ∧ Mv r W W' := by
  have HI := Lib.hid (sees_yes h hs)
  clear h hs
  go_enter Tryd.func62, Tryd.ntmps62
  go_wp2_with fail
  refine HI.out.mono ?_
  rintro e w1 ⟨rfl, h1, s1⟩
  have H1 := Lib.hid (And.intro h1 s1)
  clear h1 s1
  go_wp2_with fail
  exact bodyPost_end (v := .tuple #[]) (results_none rfl _ _ _) rfl ⟨rfl, H1.out⟩
theorem wants_no {b : Bytes} (h : RS base r tv T deep ts ns nv W) (hs : sees b ts = none) :
    Calls Tryd.prog 62 #[RP r, .string (BA b)] W fun e W' => e = Bad T ts.length false ∧ Mv r W W' := by
  have HI := Lib.hid (sees_no h hs)
  clear h hs
  go_enter Tryd.func62, Tryd.ntmps62
  go_wp2_with fail
  refine HI.out.mono ?_
  rintro e w1 ⟨rfl, h1, s1⟩
  have H1 := Lib.hid (And.intro h1 s1)
  clear h1 s1
  go_wp2_with fail
  refine (fail_any H1.out.1).mono ?_
  rintro e w2 ⟨rfl, rfl⟩
  unfold Bad
  go_wp2_with fail
  exact ⟨rfl, rfl, H1.out.2⟩
/-- A token's value. -/
def TokIs (t : Tk) (v : Value) : Prop := ∃ a : Int, v = .agg #[.int .i64 (t.kind : Int), .string (BA t.s), .int .i64 t.n, .int .i64 a]
set_option maxRecDepth 100000 in
theorem take_yes {t : Tk} (h : RS base r tv T deep ts ns nv W) (ht : ts = t :: ts1) :
    Calls Tryd.prog 81 #[RP r, .int .i64 (t.kind : Int)] W fun e W' => ∃ v, e = .returned v ∧ TokIs t v ∧ RS base r tv T deep ts1 ns nv W' ∧ Mv r W W' := by
  obtain ⟨p, cap, rfl, hcap, hmax, hrow⟩ := row_any h.toks
  have hfew := h.few
  obtain ⟨u, hu, hut, hlt⟩ := tok_at h.suf h.short ht
  obtain ⟨i, hi⟩ : ∃ i, i = T.length - ts.length := ⟨_, rfl⟩
  rw [← hi] at hu hlt
  obtain ⟨g, rfl, _, hg, hcells⟩ := hrow (by rintro rfl; simp at hlt)
  obtain ⟨d0, d1, d2, d3⟩ := hcells i u hu
  obtain ⟨kd, hk⟩ : ∃ kd, kd = u.kind := ⟨_, rfl⟩
  have hkt : t.kind = kd := by rw [← hut, hk]; rfl
  rw [← hk] at d0
  rw [hkt]
  have HT := Lib.hid (show TokIs t (.agg #[.int .i64 (kd : Int), .string ⟨u.s.toArray⟩, .int .i64 u.n, .int .i64 (u.at_ : Int)]) from ⟨(u.at_ : Int), by rw [hk, ← hut]; rfl⟩)
  obtain ⟨W0, hW0⟩ : ∃ W0, W0 = W.alloc (.cells #[.int .i64 0, .string ⟨#[]⟩, .int .i64 0, .int .i64 0] 32) := ⟨_, rfl⟩
  have hb0 : Below W.heap.size W W0 := by rw [hW0]; exact (Below.refl _ _).alloc (Nat.le_refl _) _
  have hx0 : Blk W0 W.heap.size 32 #[.int .i64 0, .string ⟨#[]⟩, .int .i64 0, .int .i64 0] := by rw [hW0]; exact Blk.new W _ _
  have H0 := h.kept hb0
  have c0 : W0.cell? ⟨r, 0, none⟩ = some (.slice (some ⟨g, 0, none⟩) T.length cap) := H0.box.cell 0
  have c1 : W0.cell? ⟨r, 1, none⟩ = some (.int .i64 (i : Int)) := by rw [hi]; exact H0.box.cell 1
  have f1 := H0.box.free 1
  have d0 := keepc hb0 d0
  have d1 := keepc hb0 d1
  have d2 := keepc hb0 d2
  have d3 := keepc hb0 d3
  have q1 : ¬ (T.length : Int) ≤ (i : Int) := by omega
  have q2 : decide ((T.length : Int) ≤ (i : Int)) = false := decide_eq_false q1
  have q3 : decide (T.length ≤ i) = false := decide_eq_false (by omega)
  have q4 : (0 : Int) ≤ (i : Int) := by omega
  have q5 : (i : Int) < (T.length : Int) := by omega
  have q6 : ((kd : Int) != (kd : Int)) = false := by simp
  have nr : r ≠ W.heap.size := Nat.ne_of_lt h.box.lt
  have ng : g ≠ W.heap.size := Nat.ne_of_lt hg
  have nr2 : W.heap.size ≠ r := nr.symm
  have ng2 : W.heap.size ≠ g := ng.symm
  have nrg : g ≠ r := by
    intro e
    subst e
    obtain ⟨cur, hc⟩ := row_block h.toks rfl
    have := block_types hc h.box
    cases this
  have HH := Lib.hid H0
  have HR := Lib.hid h
  have HB := Lib.hid hb0
  have HX := Lib.hid hx0
  have HI := Lib.hid hi
  have HTS := Lib.hid ht
  have HW := Lib.hid hW0
  clear hcells hrow h hi hu hut hk hkt H0 hb0 hx0 ht
  go_enter Tryd.func81, Tryd.ntmps81
  go_wp2_with fail
  rw [show W.alloc (.cells #[.int .i64 0, .string ⟨#[]⟩, .int .i64 0, .int .i64 0] 32) = W0 from HW.out.symm]
  clear hW0
  go_big_quiet (fail)
  go_wp2_with fail
  obtain ⟨W2, hW2⟩ : ∃ W2, W2 = (W0.drewN nq).setCell ⟨r, 1, none⟩ (.int .i64 ((i : Int) + 1)) := ⟨_, rfl⟩
  have hbq : Below W0.heap.size W0 (W0.drewN nq) := below_drewN (Below.refl _ _) nq
  have H2 : RS base r (.slice (some ⟨g, 0, none⟩) T.length cap) T deep ts1 ns nv W2 := by rw [hW2]; exact (HH.out.kept hbq).next HTS.out (by rw [HI.out])
  have S2 : Mv r W W2 := by rw [hW2]; exact (Stp.of (HB.out.trans (hbq.mono HB.out.size))).set 1 _
  have X2 : Blk W2 W.heap.size 32 #[.int .i64 0, .string ⟨#[]⟩, .int .i64 0, .int .i64 0] := by rw [hW2]; exact (HX.out.kept hbq).far nr.symm _
  have c0 : W2.cell? ⟨r, 0, none⟩ = some (.slice (some ⟨g, 0, none⟩) T.length cap) := H2.box.cell 0
  have c1 : W2.cell? ⟨r, 1, none⟩ = some (.int .i64 ((i : Int) + 1)) := by
    have := H2.box.cell 1
    rw [this]
    have e : T.length - ts1.length = i + 1 := by
      have h1 := H2.short
      have h2 := HI.out
      have h3 := HH.out.short
      rw [HTS.out, List.length_cons] at h2 h3
      omega
    rw [e]
    rfl
  have d0 : W2.cell? ⟨g, i * 4, none⟩ = some (.int .i64 (kd : Int)) := by rw [hW2]; exact (cell?_setCell_ne nrg).trans d0
  have d1 : W2.cell? ⟨g, i * 4 + 1, none⟩ = some (.string ⟨u.s.toArray⟩) := by rw [hW2]; exact (cell?_setCell_ne nrg).trans d1
  have d2 : W2.cell? ⟨g, i * 4 + 2, none⟩ = some (.int .i64 u.n) := by rw [hW2]; exact (cell?_setCell_ne nrg).trans d2
  have d3 : W2.cell? ⟨g, i * 4 + 3, none⟩ = some (.int .i64 (u.at_ : Int)) := by rw [hW2]; exact (cell?_setCell_ne nrg).trans d3
  have e0 : W2.cell? ⟨W.heap.size, 0, none⟩ = some (.int .i64 0) := X2.cell 0
  have e1 : W2.cell? ⟨W.heap.size, 1, none⟩ = some (.string ⟨#[]⟩) := X2.cell 1
  have e2 : W2.cell? ⟨W.heap.size, 2, none⟩ = some (.int .i64 0) := X2.cell 2
  have e3 : W2.cell? ⟨W.heap.size, 3, none⟩ = some (.int .i64 0) := X2.cell 3
  have x0 := X2.free 0
  have x1 := X2.free 1
  have x2 := X2.free 2
  have x3 := X2.free 3
  have HF := Lib.hid (And.intro H2 (And.intro S2 X2))
  have v1 : IntKind.i64.wrap (i : Int) = (i : Int) := IntWalk.i64_in _ (by omega)
  have v2 : IntKind.i64.wrap ((i : Int) + 1 - 1) = (i : Int) := by rw [show ((i : Int) + 1 - 1) = (i : Int) by omega]; exact v1
  rw [← hW2]
  clear hW2 hbq H2 S2 X2 f1
  go_region_held3 (fun w' => w'.cell? ⟨r, 0, none⟩ = some (.slice (some ⟨g, 0, none⟩) T.length cap) ∧ w'.cell? ⟨r, 1, none⟩ = some (.int .i64 ((i : Int) + 1)) ∧ w'.cell? ⟨g, i * 4, none⟩ = some (.int .i64 (kd : Int)) ∧ w'.cell? ⟨g, i * 4 + 1, none⟩ = some (.string ⟨u.s.toArray⟩) ∧ w'.cell? ⟨g, i * 4 + 2, none⟩ = some (.int .i64 u.n) ∧ w'.cell? ⟨g, i * 4 + 3, none⟩ = some (.int .i64 (u.at_ : Int))) (go_keep) (fail)
  go_wp2_with fail
  refine bodyPost_ret (v := .agg #[.int .i64 (kd : Int), .string ⟨u.s.toArray⟩, .int .i64 u.n, .int .i64 (u.at_ : Int)]) ?_ rfl ⟨_, rfl, HT.out, ?_⟩
  · simp [results, Tryd.results81, go_sem, e0, e1, e2, e3]
  · have hs := HF.out.2.1
    have h2 := HF.out.1
    have m : Mv r W ((((W2.setCell ⟨W.heap.size, 0, none⟩ (.int .i64 (kd : Int))).setCell ⟨W.heap.size, 1, none⟩ (.string ⟨u.s.toArray⟩)).setCell ⟨W.heap.size, 2, none⟩ (.int .i64 u.n)).setCell ⟨W.heap.size, 3, none⟩ (.int .i64 (u.at_ : Int))).drew :=
      ((((hs.far (Nat.le_refl _) _ _).far (Nat.le_refl _) _ _).far (Nat.le_refl _) _ _).far (Nat.le_refl _) _ _).drew
    exact ⟨HR.out.again m ((((h2.box.far nr _).far nr _).far nr _).far nr _).drew h2.suf h2.short, m⟩
end
end Go.Proofs.YtlonkcmkgmbkcaaDoor
