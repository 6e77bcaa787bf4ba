/- Several texts of the proof, joined. -/
import Derived.Test.YtnaehhpikhlppaaGreatDoorD15
import Derived.Test.YtnaehhpikhlppaaGreatDoorD16
import Derived.Test.YtnaehhpikhlppaaGreatDoorD12
import Derived.Test.YtnaehhpikhlppaaGreatDoorD9
import Derived.Lib.ReplaceLaws
set_option maxHeartbeats 4000000
set_option linter.unusedVariables false
set_option linter.unusedSimpArgs false
namespace Go.Proofs.YtnaehhpikhlppaaGreatDoor
open Go.RowKit LexS ParS BigFrame
attribute [local go_sem] field_tok1 field_tok2
attribute [local go_sem] World.cell?_alloc_some cell_drewN_new free_drewN_new cell_drew_new free_drew_new

/-- A value, as cells. -/
abbrev valA (v : Val) : Array Value := #[.int .i64 (v.kind : Int), .int .i64 v.n, .string (BA v.s), .int .i64 0, .int .i64 0, .int .i64 0, .int .i64 0, .int .i64 0, .int .i64 0, .int .i64 0, .int .i64 0]
abbrev zeroVal : Array Value := #[.int .i64 0, .int .i64 0, .string ⟨#[]⟩, .int .i64 0, .int .i64 0, .int .i64 0, .int .i64 0, .int .i64 0, .int .i64 0, .int .i64 0, .int .i64 0]
/-- What a reader's function answers that lays nothing. -/
def PostM (base r : Nat) (tv : Value) (T : List Tok) (deep : Nat) (nv : Value) (W : World) {α : Type} (val : α → Value → Prop) (x : Except Er (α × List Tk × List Nd)) (e : Ending) (W' : World) : Prop := match x with
  | .error (k, long) => e = Bad T k long ∧ Mv r W W'
  | .ok (a, ts1, ns1) => ∃ v, e = .returned v ∧ val a v ∧ RS base r tv T deep ts1 ns1 nv W' ∧ Mv r W W'
theorem take_ok {k : Nat} {t : Tk} {ts1 : List Tk} {ns : List Nd} (h : t.kind = k) : take k (t :: ts1) ns = .ok (t, ts1, ns) := by
  have e : take k (t :: ts1) ns = if t.kind = k then .ok (t, ts1, ns) else .error (ts1.length + 1, false) := rfl
  rw [e, if_pos h]
theorem take_bad {k : Nat} {ts : List Tk} {ns : List Nd} (h : ∀ t ts1, ts = t :: ts1 → t.kind ≠ k) : take k ts ns = .error (ts.length, false) := by
  cases ts with
  | nil => rfl
  | cons t ts1 =>
    have e : take k (t :: ts1) ns = if t.kind = k then .ok (t, ts1, ns) else .error (ts1.length + 1, false) := rfl
    rw [e, if_neg (h t ts1 rfl)]
    rfl
theorem take_cases (k : Nat) (ts : List Tk) : (∃ t ts1, ts = t :: ts1 ∧ t.kind = k) ∨ ∀ t ts1, ts = t :: ts1 → t.kind ≠ k := by
  cases ts with
  | nil => exact .inr fun t ts1 h => by cases h
  | cons t ts1 =>
    by_cases h : t.kind = k
    · exact .inl ⟨t, ts1, rfl, h⟩
    · exact .inr fun u us e => by cases e; exact h
theorem choice_zero : ∀ {l : List Bytes} {i : Nat} {ts ts2 : List Tk}, 0 < i → choice l i ts = (0, ts2) → ts2 = ts
  | [], i, ts, ts2, h, e => by cases e; rfl
  | w :: l, i, ts, ts2, h, e => by
    unfold choice at e
    split at e
    · injection e with e1 e2
      omega
    · exact choice_zero (Nat.succ_pos i) e
/-- The token at hand, in memory. -/
theorem RS.tok {base r deep : Nat} {tv nv : Value} {T : List Tok} {ts : List Tk} {ns : List Nd} {W : World} (h : RS base r tv T deep ts ns nv W) : ∃ p cap, tv = .slice p T.length cap ∧ T.length ≤ cap ∧ ∀ t ts1, ts = t :: ts1 → ∃ g u, p = some ⟨g, 0, none⟩ ∧ tk u = t ∧ T.length - ts.length < T.length ∧ g < W.heap.size ∧
    W.cell? ⟨g, (T.length - ts.length) * 4, none⟩ = some (.int .i64 (t.kind : Int)) := by
  obtain ⟨p, cap, rfl, hcap, hmax, hrow⟩ := row_any h.toks
  refine ⟨p, cap, rfl, hcap, fun t ts1 ht => ?_⟩
  obtain ⟨u, hu, hut, hlt⟩ := tok_at h.suf h.short ht
  obtain ⟨g, rfl, _, hg, hcells⟩ := hrow (by rintro rfl; simp at hlt)
  exact ⟨g, u, rfl, hut, hlt, hg, by rw [← hut]; exact (hcells _ u hu).1⟩
def putVal (w : World) (b : Nat) (v : Val) : World := ((((((((((w.setCell ⟨b, 0, none⟩ (.int .i64 (v.kind : Int))).setCell ⟨b, 1, none⟩ (.int .i64 v.n)).setCell ⟨b, 2, none⟩ (.string (BA v.s))).setCell ⟨b, 3, none⟩ (.int .i64 0)).setCell ⟨b, 4, none⟩ (.int .i64 0)).setCell ⟨b, 5, none⟩ (.int .i64 0)).setCell ⟨b, 6, none⟩ (.int .i64 0)).setCell ⟨b, 7, none⟩ (.int .i64 0)).setCell ⟨b, 8, none⟩ (.int .i64 0)).setCell ⟨b, 9, none⟩ (.int .i64 0)).setCell ⟨b, 10, none⟩ (.int .i64 0)
theorem putVal_blk {w : World} {b : Nat} {v : Val} {c0 c1 c2 c3 c4 c5 c6 c7 c8 c9 c10 : Value} (h : Blk w b 37 #[c0, c1, c2, c3, c4, c5, c6, c7, c8, c9, c10]) : Blk (putVal w b v) b 37 (valA v) := by
  replace h := h.put 0 (.int .i64 (v.kind : Int))
  simp only [List.setIfInBounds_toArray, List.set_cons_zero, List.set_cons_succ] at h
  replace h := h.put 1 (.int .i64 v.n)
  simp only [List.setIfInBounds_toArray, List.set_cons_zero, List.set_cons_succ] at h
  replace h := h.put 2 (.string (BA v.s))
  simp only [List.setIfInBounds_toArray, List.set_cons_zero, List.set_cons_succ] at h
  replace h := h.put 3 (.int .i64 0)
  simp only [List.setIfInBounds_toArray, List.set_cons_zero, List.set_cons_succ] at h
  replace h := h.put 4 (.int .i64 0)
  simp only [List.setIfInBounds_toArray, List.set_cons_zero, List.set_cons_succ] at h
  replace h := h.put 5 (.int .i64 0)
  simp only [List.setIfInBounds_toArray, List.set_cons_zero, List.set_cons_succ] at h
  replace h := h.put 6 (.int .i64 0)
  simp only [List.setIfInBounds_toArray, List.set_cons_zero, List.set_cons_succ] at h
  replace h := h.put 7 (.int .i64 0)
  simp only [List.setIfInBounds_toArray, List.set_cons_zero, List.set_cons_succ] at h
  replace h := h.put 8 (.int .i64 0)
  simp only [List.setIfInBounds_toArray, List.set_cons_zero, List.set_cons_succ] at h
  replace h := h.put 9 (.int .i64 0)
  simp only [List.setIfInBounds_toArray, List.set_cons_zero, List.set_cons_succ] at h
  replace h := h.put 10 (.int .i64 0)
  simp only [List.setIfInBounds_toArray, List.set_cons_zero, List.set_cons_succ] at h
  exact h
theorem putVal_far {w : World} {b g : Nat} {v : Val} {t : TypeId} {cs : Array Value} (h : Blk w g t cs) (hg : g ≠ b) : Blk (putVal w b v) g t cs :=
  ((((((((((h.far hg _).far hg _).far hg _).far hg _).far hg _).far hg _).far hg _).far hg _).far hg _).far hg _).far hg _
theorem putVal_mv {w W : World} {r b : Nat} {v : Val} (h : Mv r W w) (hb : W.heap.size ≤ b) : Mv r W (putVal w b v) :=
  ((((((((((h.far hb _ _).far hb _ _).far hb _ _).far hb _ _).far hb _ _).far hb _ _).far hb _ _).far hb _ _).far hb _ _).far hb _ _).far hb _ _
section
variable {base r deep : Nat} {tv nv nv' : Value} {T : List Tok} {ts ts1 : List Tk} {ns : List Nd} {W W' : World}
theorem valA_read {f : Func} {q g : Nat} {tmps : Array Value} {w : World} (hf : f.results = #[.cell q 37]) (ht : tmps[q]?.getD undef = .pointer (some ⟨g, 0, none⟩)) (v : Val) (h : Blk w g 37 (valA v)) : (results f tmps).run Tryz.prog w = .ok (.agg (valA v)) w := by
  have h0 := h.cell 0
  have h1 := h.cell 1
  have h2 := h.cell 2
  have h3 := h.cell 3
  have h4 := h.cell 4
  have h5 := h.cell 5
  have h6 := h.cell 6
  have h7 := h.cell 7
  have h8 := h.cell 8
  have h9 := h.cell 9
  have h10 := h.cell 10
  simp [results, hf, go_sem, ht, h0, h1, h2, h3, h4, h5, h6, h7, h8, h9, h10]
theorem val_ret {v : Val} {ts2 : List Tk} {w1 : World} (h : RS base r tv T deep ts ns nv W) (h1 : RS base r tv T deep ts2 ns nv w1) (m : Mv r W w1) (x : Blk w1 W.heap.size 37 zeroVal) (nr : r ≠ W.heap.size) :
    Blk (putVal w1 W.heap.size v) W.heap.size 37 (valA v) ∧ RS base r tv T deep ts2 ns nv (putVal w1 W.heap.size v) ∧ Mv r W (putVal w1 W.heap.size v) :=
  ⟨putVal_blk x, h.again (putVal_mv m (Nat.le_refl _)) (putVal_far h1.box nr) h1.suf h1.short, putVal_mv m (Nat.le_refl _)⟩
set_option maxRecDepth 100000 in
theorem value_any (h : RS base r tv T deep ts ns nv W) : Calls Tryz.prog 207 #[RP r] W (PostM base r tv T deep nv W (fun (v : Val) x => x = .agg (valA v)) (value ts ns)) := by
  obtain ⟨W1, hW1⟩ : ∃ W1, W1 = (W.alloc (.cells zeroVal 37)).alloc (.cells #[.string ⟨#[102, 97, 108, 115, 101]⟩, .string ⟨#[116, 114, 117, 101]⟩] 9) := ⟨_, rfl⟩
  have hb1 : Below W.heap.size W W1 := by rw [hW1]; exact ((Below.refl _ _).alloc (Nat.le_refl _) _).alloc (by simp) _
  have hx : Blk W1 W.heap.size 37 zeroVal := by rw [hW1]; exact (Blk.new W _ _).alloc _
  have hl : Blk W1 (W.heap.size + 1) 9 (strsL kw_bools).toArray := by
    rw [hW1]
    have := Blk.new (W.alloc (.cells zeroVal 37)) 9 (strsL kw_bools).toArray
    rw [World.size_alloc] at this
    exact this
  have hc := choice_any (h.kept hb1) hl (by decide)
  have hcl := choice_le kw_bools 1 ts (by decide)
  have HV := Lib.hid (value_eq ts ns)
  have HC := Lib.hid hc
  have HW := Lib.hid hW1
  have HX := Lib.hid hx
  have HB := Lib.hid hb1
  have nr : r ≠ W.heap.size := Nat.ne_of_lt h.box.lt
  have HR := Lib.hid h
  clear h hb1 hx hl hc
  go_enter Tryz.func207, Tryz.ntmps207
  go_wp2_with fail
  rw [show (W.alloc (.cells zeroVal 37)).alloc (.cells #[.string ⟨#[102, 97, 108, 115, 101]⟩, .string ⟨#[116, 114, 117, 101]⟩] 9) = W1 from HW.out.symm]
  clear hW1
  refine HC.out.mono ?_
  rintro e w1 ⟨rfl, h1, m1⟩
  rcases hch : choice kw_bools 1 ts with ⟨k, ts2⟩
  rw [hch] at h1 hcl
  dsimp only at h1 hcl
  have M1 := Lib.hid ((Stp.of (r := r) (nv := .slice none 0 0) HB.out).trans m1)
  have X1 := Lib.hid (m1.blk HX.out nr.symm)
  have H1 := Lib.hid h1
  have HCH := Lib.hid hch
  clear h1 m1 hch
  dsimp only
  have e0 : w1.cell? ⟨W.heap.size, 0, none⟩ = some (.int .i64 0) := X1.out.cell 0
  have e1 : w1.cell? ⟨W.heap.size, 1, none⟩ = some (.int .i64 0) := X1.out.cell 1
  have e2 : w1.cell? ⟨W.heap.size, 2, none⟩ = some (.string ⟨#[]⟩) := X1.out.cell 2
  have e3 : w1.cell? ⟨W.heap.size, 3, none⟩ = some (.int .i64 0) := X1.out.cell 3
  have e4 : w1.cell? ⟨W.heap.size, 4, none⟩ = some (.int .i64 0) := X1.out.cell 4
  have e5 : w1.cell? ⟨W.heap.size, 5, none⟩ = some (.int .i64 0) := X1.out.cell 5
  have e6 : w1.cell? ⟨W.heap.size, 6, none⟩ = some (.int .i64 0) := X1.out.cell 6
  have e7 : w1.cell? ⟨W.heap.size, 7, none⟩ = some (.int .i64 0) := X1.out.cell 7
  have e8 : w1.cell? ⟨W.heap.size, 8, none⟩ = some (.int .i64 0) := X1.out.cell 8
  have e9 : w1.cell? ⟨W.heap.size, 9, none⟩ = some (.int .i64 0) := X1.out.cell 9
  have e10 : w1.cell? ⟨W.heap.size, 10, none⟩ = some (.int .i64 0) := X1.out.cell 10
  have f := X1.out.free
  have f0 := f 0
  have f1 := f 1
  have f2 := f 2
  have f3 := f 3
  have f4 := f 4
  have f5 := f 5
  have f6 := f 6
  have f7 := f 7
  have f8 := f 8
  have f9 := f 9
  have f10 := f 10
  clear f
  have hk : k = 0 ∨ k = 1 ∨ k = 2 ∨ 3 ≤ k := by omega
  rcases hk with rfl | rfl | rfl | hk
  · have hz : ts2 = ts := choice_zero (by decide) HCH.out
    subst hz
    obtain ⟨p, cap, rfl, hcap, hcells⟩ := H1.out.tok
    have hfew := H1.out.few
    obtain ⟨i, hi⟩ : ∃ i, i = T.length - ts2.length := ⟨_, rfl⟩
    have c0 : w1.cell? ⟨r, 0, none⟩ = some (.slice p T.length cap) := H1.out.box.cell 0
    have c1 : w1.cell? ⟨r, 1, none⟩ = some (.int .i64 (i : Int)) := by rw [hi]; exact H1.out.box.cell 1
    have HQ := Lib.hid (fun n => H1.out.kept (below_drewN (Below.refl w1.heap.size w1) n))
    have MQ := Lib.hid (fun n => (M1.out).trans (Stp.of (r := r) (nv := .slice none 0 0) (below_drewN (Below.refl w1.heap.size w1) n)))
    have XQ := Lib.hid (fun n => (X1.out.drewN n))
    have HV2 := Lib.hid (show value ts2 ns = valueT ts2 ns by rw [HV.out, HCH.out]; rfl)
    rcases take_cases 2 ts2 with ⟨t, ts3, ht, hk2⟩ | hk2
    · obtain ⟨g, u, rfl, hut, hlt, hg, hc⟩ := hcells t ts3 ht
      rw [← hi] at hlt hc
      rw [hk2] at hc
      have q1 : (i : Int) < (T.length : Int) := by omega
      have q2 : decide ((i : Int) < (T.length : Int)) = true := decide_eq_true q1
      have q3 : decide (i < T.length) = true := decide_eq_true hlt
      have q4 : (0 : Int) ≤ (i : Int) := by omega
      have q6 : (((2 : Nat) : Int) == 2) = true := by decide
      have HV3 := Lib.hid (show value ts2 ns = .ok (⟨1, t.n, []⟩, ts3, ns) by rw [HV2.out, ht]; exact if_pos hk2)
      have HN := Lib.hid (fun n => number_yes (HQ.out n) ht hk2)
      clear hcells hi hut ht hk2 hcl
      go_wp2_with fail
      go_big_quiet (fail)
      go_wp2_with fail
      refine (HN.out _).mono ?_
      rintro e w2 ⟨rfl, h2, m2⟩
      have X2 := Lib.hid (m2.blk (XQ.out nq) nr.symm)
      have M2 := Lib.hid ((MQ.out nq).trans m2)
      have H2 := Lib.hid h2
      clear h2 m2 e0 e1 e2 e3 e4 e5 e6 e7 e8 e9 e10 f0 f1 f2 f3 f4 f5 f6 f7 f8 f9 f10
      have e0 : w2.cell? ⟨W.heap.size, 0, none⟩ = some (.int .i64 0) := X2.out.cell 0
      have e1 : w2.cell? ⟨W.heap.size, 1, none⟩ = some (.int .i64 0) := X2.out.cell 1
      have e2 : w2.cell? ⟨W.heap.size, 2, none⟩ = some (.string ⟨#[]⟩) := X2.out.cell 2
      have e3 : w2.cell? ⟨W.heap.size, 3, none⟩ = some (.int .i64 0) := X2.out.cell 3
      have e4 : w2.cell? ⟨W.heap.size, 4, none⟩ = some (.int .i64 0) := X2.out.cell 4
      have e5 : w2.cell? ⟨W.heap.size, 5, none⟩ = some (.int .i64 0) := X2.out.cell 5
      have e6 : w2.cell? ⟨W.heap.size, 6, none⟩ = some (.int .i64 0) := X2.out.cell 6
      have e7 : w2.cell? ⟨W.heap.size, 7, none⟩ = some (.int .i64 0) := X2.out.cell 7
      have e8 : w2.cell? ⟨W.heap.size, 8, none⟩ = some (.int .i64 0) := X2.out.cell 8
      have e9 : w2.cell? ⟨W.heap.size, 9, none⟩ = some (.int .i64 0) := X2.out.cell 9
      have e10 : w2.cell? ⟨W.heap.size, 10, none⟩ = some (.int .i64 0) := X2.out.cell 10
      have f := X2.out.free
      have f0 := f 0
      have f1 := f 1
      have f2 := f 2
      have f3 := f 3
      have f4 := f 4
      have f5 := f 5
      have f6 := f 6
      have f7 := f 7
      have f8 := f 8
      have f9 := f 9
      have f10 := f 10
      clear f
      go_wp2_with fail
      have H3 := val_ret (v := ⟨1, t.n, []⟩) HR.out H2.out M2.out X2.out nr
      exact bodyPost_ret (valA_read Tryz.results207 rfl _ H3.1) rfl (by rw [HV3.out]; exact ⟨_, rfl, rfl, H3.2⟩)
    · have q2b : (ts2 = [] ∧ i = T.length) ∨ ∃ t ts3, ts2 = t :: ts3 ∧ t.kind ≠ 2 := by
        cases ts2 with
        | nil => exact .inl ⟨rfl, hi⟩
        | cons t ts3 => exact .inr ⟨t, ts3, rfl, hk2 t ts3 rfl⟩
      have q4 : (0 : Int) ≤ (i : Int) := by omega
      rcases q2b with ⟨ht, hiT⟩ | ⟨t, ts3, ht, hk⟩
      · have q1 : ¬ ((i : Int) < (T.length : Int)) := by omega
        have q2 : decide ((i : Int) < (T.length : Int)) = false := decide_eq_false q1
        have q3 : decide (i < T.length) = false := decide_eq_false (by omega)
        have HV3 := Lib.hid (show value ts2 ns = .error (ts2.length, false) by rw [HV2.out, ht]; rfl)
        have HN := Lib.hid (fun n => take_no (k := 3) (HQ.out n) (fun t ts1 h => by rw [ht] at h; cases h))
        clear hcells hi ht hk2 hcl hiT
        go_wp2_with fail
        go_big_quiet (fail)
        go_wp2_with fail
        refine (HN.out _).mono ?_
        rintro e w2 ⟨rfl, m2⟩
        have M2 := Lib.hid ((MQ.out nq).trans m2)
        clear m2
        unfold Bad
        go_wp2_with fail
        exact ⟨rfl, by rw [HV3.out]; exact ⟨rfl, M2.out⟩⟩
      · obtain ⟨g, u, rfl, hut, hlt, hg, hc⟩ := hcells t ts3 ht
        rw [← hi] at hlt hc
        obtain ⟨kd, hkd⟩ : ∃ kd, kd = t.kind := ⟨_, rfl⟩
        rw [← hkd] at hc hk
        have q1 : (i : Int) < (T.length : Int) := by omega
        have q2 : decide ((i : Int) < (T.length : Int)) = true := decide_eq_true q1
        have q3 : decide (i < T.length) = true := decide_eq_true hlt
        have q6 : ((kd : Int) == 2) = false := by rw [beq_eq_false_iff_ne]; omega
        by_cases h3 : t.kind = 3
        · have HV3 := Lib.hid (show value ts2 ns = .ok (⟨2, 0, t.s⟩, ts3, ns) by rw [HV2.out, ht]; exact (if_neg (by omega)).trans (if_pos h3))
          have HN := Lib.hid (fun n => take_yes (HQ.out n) ht)
          rw [h3] at HN
          clear hcells hi hut ht hk2 hcl hkd hk h3
          go_wp2_with fail
          go_big_quiet (fail)
          go_wp2_with fail
          refine (HN.out _).mono ?_
          rintro e w2 ⟨v, rfl, ⟨a, rfl⟩, h2, m2⟩
          have X2 := Lib.hid (m2.blk (XQ.out nq) nr.symm)
          have M2 := Lib.hid ((MQ.out nq).trans m2)
          have H2 := Lib.hid h2
          clear h2 m2 e0 e1 e2 e3 e4 e5 e6 e7 e8 e9 e10 f0 f1 f2 f3 f4 f5 f6 f7 f8 f9 f10
          have e0 : w2.cell? ⟨W.heap.size, 0, none⟩ = some (.int .i64 0) := X2.out.cell 0
          have e1 : w2.cell? ⟨W.heap.size, 1, none⟩ = some (.int .i64 0) := X2.out.cell 1
          have e2 : w2.cell? ⟨W.heap.size, 2, none⟩ = some (.string ⟨#[]⟩) := X2.out.cell 2
          have e3 : w2.cell? ⟨W.heap.size, 3, none⟩ = some (.int .i64 0) := X2.out.cell 3
          have e4 : w2.cell? ⟨W.heap.size, 4, none⟩ = some (.int .i64 0) := X2.out.cell 4
          have e5 : w2.cell? ⟨W.heap.size, 5, none⟩ = some (.int .i64 0) := X2.out.cell 5
          have e6 : w2.cell? ⟨W.heap.size, 6, none⟩ = some (.int .i64 0) := X2.out.cell 6
          have e7 : w2.cell? ⟨W.heap.size, 7, none⟩ = some (.int .i64 0) := X2.out.cell 7
          have e8 : w2.cell? ⟨W.heap.size, 8, none⟩ = some (.int .i64 0) := X2.out.cell 8
          have e9 : w2.cell? ⟨W.heap.size, 9, none⟩ = some (.int .i64 0) := X2.out.cell 9
          have e10 : w2.cell? ⟨W.heap.size, 10, none⟩ = some (.int .i64 0) := X2.out.cell 10
          have f := X2.out.free
          have f0 := f 0
          have f1 := f 1
          have f2 := f 2
          have f3 := f 3
          have f4 := f 4
          have f5 := f 5
          have f6 := f 6
          have f7 := f 7
          have f8 := f 8
          have f9 := f 9
          have f10 := f 10
          clear f
          go_wp2_with fail
          have H3 := val_ret (v := ⟨2, 0, t.s⟩) HR.out H2.out M2.out X2.out nr
          exact bodyPost_ret (valA_read Tryz.results207 rfl _ H3.1) rfl (by rw [HV3.out]; exact ⟨_, rfl, rfl, H3.2⟩)
        · have HV3 := Lib.hid (show value ts2 ns = .error (ts2.length, false) by rw [HV2.out, ht]; exact (if_neg (by omega)).trans (if_neg h3))
          have HN := Lib.hid (fun n => take_no (k := 3) (HQ.out n) (fun u us h => by rw [ht] at h; cases h; exact h3))
          clear hcells hi hut ht hk2 hcl hkd hk h3
          go_wp2_with fail
          go_big_quiet (fail)
          go_wp2_with fail
          refine (HN.out _).mono ?_
          rintro e w2 ⟨rfl, m2⟩
          have M2 := Lib.hid ((MQ.out nq).trans m2)
          clear m2
          unfold Bad
          go_wp2_with fail
          exact ⟨rfl, by rw [HV3.out]; exact ⟨rfl, M2.out⟩⟩
  · go_wp2_with fail
    have H2 := val_ret (v := ⟨3, 0, []⟩) HR.out H1.out M1.out X1.out nr
    exact bodyPost_ret (valA_read Tryz.results207 rfl _ H2.1) rfl (by rw [show value ts ns = .ok (⟨3, 0, []⟩, ts2, ns) by rw [HV.out, HCH.out]; rfl]; exact ⟨_, rfl, rfl, H2.2⟩)
  · go_wp2_with fail
    have H2 := val_ret (v := ⟨3, 1, []⟩) HR.out H1.out M1.out X1.out nr
    exact bodyPost_ret (valA_read Tryz.results207 rfl _ H2.1) rfl (by rw [show value ts ns = .ok (⟨3, 1, []⟩, ts2, ns) by rw [HV.out, HCH.out]; rfl]; exact ⟨_, rfl, rfl, H2.2⟩)
  · exfalso
    simp [kw_bools] at hcl
    omega
end
end Go.Proofs.YtnaehhpikhlppaaGreatDoor

namespace Go.Proofs.YtnaehhpikhlppaaGreatDoor
open Go.RowKit LexS ParS BigFrame

theorem two_allocs (w : World) (a b : Obj) : Below w.heap.size w ((w.alloc a).alloc b) := ((Below.refl _ _).alloc (Nat.le_refl _) _).alloc (by rw [World.size_alloc]; omega) _
abbrev zero8b : Value := .agg #[.int .i64 0, .int .i64 0, .int .i64 0, .int .i64 0, .int .i64 0, .int .i64 0, .int .i64 0, .int .i64 0]
theorem eqZeroB (W : World) : (Op.equalIn 9999 35 zero8b zero8b).run Tryz.prog W = .ok true W := by kernel_rfl
attribute [local go_sem] eqZeroB
set_option maxRecDepth 100000 in
theorem valid_int (n : Int) (w : World) :
    Calls Tryz.prog 85 #[.agg (valA ⟨1, n, []⟩)] w fun e w' => e = .returned (.bool true) ∧ Below w.heap.size w w' := by
  go_enter Tryz.func85, Tryz.ntmps85
  go_wp2_with fail
  exact bodyPost_ret (results_tmp rfl _ _ _) rfl ⟨rfl, two_allocs _ _ _⟩
set_option maxRecDepth 100000 in
theorem valid_str (s : Bytes) (hs : s.length ≤ 64) (w : World) :
    Calls Tryz.prog 85 #[.agg (valA ⟨2, 0, s⟩)] w fun e w' => e = .returned (.bool true) ∧ Below w.heap.size w w' := by
  have b1 : ((BA s).size : Int) ≤ 64 := by show ((s.toArray.size : Nat) : Int) ≤ 64; simp; omega
  have b1' : decide (((BA s).size : Int) ≤ 64) = true := decide_eq_true b1
  have b2 : (BA s).size ≤ 64 := by omega
  have b2' : decide ((BA s).size ≤ 64) = true := decide_eq_true b2
  go_enter Tryz.func85, Tryz.ntmps85
  go_wp2_with fail
  exact bodyPost_ret (results_tmp rfl _ _ _) rfl ⟨rfl, two_allocs _ _ _⟩
set_option maxRecDepth 100000 in
theorem valid_bool (n : Int) (hn : n = 0 ∨ n = 1) (w : World) :
    Calls Tryz.prog 85 #[.agg (valA ⟨3, n, []⟩)] w fun e w' => e = .returned (.bool true) ∧ Below w.heap.size w w' := by
  go_enter Tryz.func85, Tryz.ntmps85
  rcases hn with rfl | rfl
  · go_wp2_with fail
    exact bodyPost_ret (results_tmp rfl _ _ _) rfl ⟨rfl, two_allocs _ _ _⟩
  · go_wp2_with fail
    exact bodyPost_ret (results_tmp rfl _ _ _) rfl ⟨rfl, two_allocs _ _ _⟩
end Go.Proofs.YtnaehhpikhlppaaGreatDoor

namespace Go.Proofs.YtnaehhpikhlppaaGreatDoor
open Go.RowKit LexS ParS BigFrame

theorem cat3 (a b c : Bytes) : (⟨a.toArray⟩ ++ ⟨b.toArray⟩ ++ ⟨c.toArray⟩ : ByteArray) = ⟨(a ++ b ++ c).toArray⟩ := by rw [ByteArray.mk_append_mk, ByteArray.mk_append_mk]
theorem text_size (l : Bytes) : (⟨l.toArray⟩ : ByteArray).size = l.length := by simp [ByteArray.size]
theorem text_list (l : Bytes) : (⟨l.toArray⟩ : ByteArray).data.toList = l := by simp
theorem repl_any (c x : UInt8) (s : ByteArray) (hs : s.size ≤ 4194304) (w : World) (hg : GW w) :
    Calls Tryz.prog 108 #[.string s, .string ⟨#[c]⟩, .string ⟨#[x, c]⟩] w fun e w' => e = .returned (.string ⟨(Lib.replaceAll s.data.toList [c] [x, c]).toArray⟩) ∧ Below w.heap.size w w' := by
  obtain ⟨m, hm⟩ := hg.mx
  have h1 : 1 ≤ (⟨#[c]⟩ : ByteArray).size := Nat.le_refl 1
  have hc := Lib.countB_mul_le ⟨#[c]⟩ h1 s.size s (Nat.le_refl _)
  have e1 : (⟨#[c]⟩ : ByteArray).size = 1 := rfl
  have e2 : (⟨#[x, c]⟩ : ByteArray).size = 2 := rfl
  rw [e1] at hc
  exact Tryz.strings_ReplaceAll s ⟨#[c]⟩ ⟨#[x, c]⟩ m w (by omega) hm h1 (by rw [e2]; omega)
set_option maxRecDepth 100000 in
theorem quote_any (s : ByteArray) (hs : s.size ≤ 1048576) (w : World) (hg : GW w) :
    Calls Tryz.prog 58 #[.string s] w fun e w' => e = .returned (.string ⟨(quoteS s.data.toList).toArray⟩) ∧ Below w.heap.size w w' := by
  have k1 := repl_any 92 92 s (by omega)
  have hr1 := replaceAll_one 92 [92, 92] s.data.toList (by decide)
  have hl1 := repl_len 92 92 s.data.toList
  obtain ⟨l1, hl⟩ : ∃ l1, l1 = Lib.replaceAll s.data.toList [92] [92, 92] := ⟨_, rfl⟩
  rw [size_list, ← hr1, ← hl] at hl1
  obtain ⟨t, ht⟩ : ∃ t : ByteArray, t = ⟨l1.toArray⟩ := ⟨_, rfl⟩
  have htl : t.data.toList = l1 := by rw [ht]
  have hts : t.size = l1.length := by rw [ht]; exact text_size _
  rw [← hl, ← ht] at k1
  have k2 := repl_any 34 92 t (by omega)
  rw [htl] at k2
  have hr2 := replaceAll_one 34 [92, 34] l1 (by decide)
  have hl2 := repl_len 34 92 l1
  have hq := quote_replaced s.data.toList
  rw [← hl] at hq
  obtain ⟨l2, hl'⟩ : ∃ l2, l2 = Lib.replaceAll l1 [34] [92, 34] := ⟨_, rfl⟩
  rw [← hr2, ← hl'] at hl2
  rw [← hl'] at k2 hq
  obtain ⟨u, hu⟩ : ∃ u : ByteArray, u = ⟨l2.toArray⟩ := ⟨_, rfl⟩
  have hus : u.size = l2.length := by rw [hu]; exact text_size _
  have hcat : (⟨#[34]⟩ : ByteArray) ++ u ++ ⟨#[34]⟩ = ⟨(quoteS s.data.toList).toArray⟩ := by
    rw [← hq, hu]
    exact cat3 [34] l2 [34]
  rw [← hu] at k2
  have z1 : (u.size : Int) ≤ 8388608 := by omega
  have z2 : u.size ≤ 8388608 := by omega
  have z3 : (⟨#[34]⟩ ++ u : ByteArray).size = 1 + u.size := ByteArray.size_append
  have HG := Lib.hid hg
  have HC := Lib.hid hcat
  clear hu hus hl' hq hr2 hl2 htl hts ht hl hr1 hl1 hg hcat
  go_enter Tryz.func58, Tryz.ntmps58
  go_wp2_with fail
  refine (k1 _ HG.out).mono ?_
  rintro e w1 ⟨rfl, b1⟩
  have HG1 := Lib.hid (HG.out.kept b1)
  go_wp2_with fail
  refine (k2 _ HG1.out).mono ?_
  rintro e w2 ⟨rfl, b2⟩
  have HB := Lib.hid (chain b1 b2)
  clear b1 b2 k1 k2
  go_wp2_with fail
  exact bodyPost_ret (results_tmp rfl _ _ _) rfl ⟨by rw [← HC.out]; rfl, HB.out⟩
theorem box_cells {w w1 : World} {v : Val} (b : Below (w.alloc (.cells (valA v) 37)).heap.size (w.alloc (.cells (valA v) 37)) w1) :
    w1.cell? ⟨w.heap.size, 0, none⟩ = some (.int .i64 (v.kind : Int)) ∧ w1.cell? ⟨w.heap.size, 1, none⟩ = some (.int .i64 v.n) ∧ w1.cell? ⟨w.heap.size, 2, none⟩ = some (.string (BA v.s)) ∧ Below w.heap.size w w1 := by
  have hb := (Blk.new w 37 (valA v)).kept b
  exact ⟨hb.cell 0, hb.cell 1, hb.cell 2, chain ((Below.refl _ _).alloc (Nat.le_refl _) _) b⟩
set_option maxRecDepth 100000 in
theorem text_int (n : Int) (h0 : -9223372036854775808 ≤ n) (h1 : n ≤ 9223372036854775807) (w : World) (hg : GW w) :
    Calls Tryz.prog 59 #[.agg (valA ⟨1, n, []⟩)] w fun e w' => e = .returned (.string (BA (valB ⟨1, n, []⟩))) ∧ Below w.heap.size w w' := by
  have ki := itoa_b n h0 h1
  have HG := Lib.hid hg
  clear hg
  go_enter Tryz.func59, Tryz.ntmps59
  go_wp2_with fail
  refine (valid_int n _).mono ?_
  rintro e w1 ⟨rfl, b⟩
  obtain ⟨k0, k1, _, hb⟩ := box_cells b
  have HG1 := Lib.hid (HG.out.kept hb)
  have HB := Lib.hid hb
  clear b hb
  dsimp only at k0 k1
  go_wp2_with fail
  refine (ki _ HG1.out).mono ?_
  rintro e w2 ⟨rfl, b2⟩
  have HB2 := Lib.hid (chain HB.out b2)
  clear b2
  go_wp2_with fail
  exact bodyPost_ret (results_tmp rfl _ _ _) rfl ⟨rfl, HB2.out⟩
set_option maxRecDepth 100000 in
theorem text_bool (n : Int) (hn : n = 0 ∨ n = 1) (w : World) :
    Calls Tryz.prog 59 #[.agg (valA ⟨3, n, []⟩)] w fun e w' => e = .returned (.string (BA (valB ⟨3, n, []⟩))) ∧ Below w.heap.size w w' := by
  go_enter Tryz.func59, Tryz.ntmps59
  go_wp2_with fail
  refine (valid_bool n hn _).mono ?_
  rintro e w1 ⟨rfl, b⟩
  obtain ⟨k0, k1, _, hb⟩ := box_cells b
  have HB := Lib.hid hb
  clear b hb
  dsimp only at k0 k1
  rcases hn with rfl | rfl
  · go_wp2_with fail
    refine (Tryz.strconv_FormatBool _ _).mono ?_
    rintro e w2 ⟨rfl, rfl⟩
    go_wp2_with fail
    exact bodyPost_ret (results_tmp rfl _ _ _) rfl ⟨rfl, HB.out⟩
  · go_wp2_with fail
    refine (Tryz.strconv_FormatBool _ _).mono ?_
    rintro e w2 ⟨rfl, rfl⟩
    go_wp2_with fail
    exact bodyPost_ret (results_tmp rfl _ _ _) rfl ⟨rfl, HB.out⟩
set_option maxRecDepth 100000 in
theorem text_str (x : Bytes) (hx : x.length ≤ 64) (w : World) (hg : GW w) :
    Calls Tryz.prog 59 #[.agg (valA ⟨2, 0, x⟩)] w fun e w' => e = .returned (.string (BA (valB ⟨2, 0, x⟩))) ∧ Below w.heap.size w w' := by
  have e0 : valB ⟨2, 0, x⟩ = quoteS x := rfl
  rw [e0]
  have hv := valid_str x hx
  obtain ⟨s, hs0⟩ : ∃ s : ByteArray, s = BA x := ⟨_, rfl⟩
  have hsl : s.data.toList = x := by rw [hs0]
  have hs : s.size ≤ 1048576 := by rw [← size_list, hsl]; omega
  rw [← hsl]
  rw [← hsl] at hv
  have k1 := repl_any 92 92 s (by omega)
  have hr1 := replaceAll_one 92 [92, 92] s.data.toList (by decide)
  have hl1 := repl_len 92 92 s.data.toList
  obtain ⟨l1, hl⟩ : ∃ l1, l1 = Lib.replaceAll s.data.toList [92] [92, 92] := ⟨_, rfl⟩
  rw [size_list, ← hr1, ← hl] at hl1
  obtain ⟨t, ht⟩ : ∃ t : ByteArray, t = ⟨l1.toArray⟩ := ⟨_, rfl⟩
  have htl : t.data.toList = l1 := by rw [ht]
  have hts : t.size = l1.length := by rw [ht]; exact text_size _
  rw [← hl, ← ht] at k1
  have k2 := repl_any 34 92 t (by omega)
  rw [htl] at k2
  have hr2 := replaceAll_one 34 [92, 34] l1 (by decide)
  have hl2 := repl_len 34 92 l1
  have hq := quote_replaced s.data.toList
  rw [← hl] at hq
  obtain ⟨l2, hl'⟩ : ∃ l2, l2 = Lib.replaceAll l1 [34] [92, 34] := ⟨_, rfl⟩
  rw [← hr2, ← hl'] at hl2
  rw [← hl'] at k2 hq
  obtain ⟨u, hu⟩ : ∃ u : ByteArray, u = ⟨l2.toArray⟩ := ⟨_, rfl⟩
  have hus : u.size = l2.length := by rw [hu]; exact text_size _
  have hcat : (⟨#[34]⟩ : ByteArray) ++ u ++ ⟨#[34]⟩ = ⟨(quoteS s.data.toList).toArray⟩ := by
    rw [← hq, hu]
    exact cat3 [34] l2 [34]
  rw [← hu] at k2
  have z1 : (u.size : Int) ≤ 8388608 := by omega
  have z2 : u.size ≤ 8388608 := by omega
  have z3 : (⟨#[34]⟩ ++ u : ByteArray).size = 1 + u.size := ByteArray.size_append
  have HG := Lib.hid hg
  have HC := Lib.hid hcat
  clear hu hus hl' hq hr2 hl2 htl hts ht hl hr1 hl1 hg hcat
  clear hs0 hsl
  go_enter Tryz.func59, Tryz.ntmps59
  go_wp2_with fail
  refine (hv _).mono ?_
  rintro e w0 ⟨rfl, b⟩
  obtain ⟨c0, _, c2, hb⟩ := box_cells b
  have HG0 := Lib.hid (HG.out.kept hb)
  have HB0 := Lib.hid hb
  clear b hb hv
  dsimp only at c0 c2
  rw [show BA s.data.toList = s from rfl] at c2
  go_wp2_with fail
  refine (k1 _ HG0.out).mono ?_
  rintro e w1 ⟨rfl, b1⟩
  have HG1 := Lib.hid (HG0.out.kept b1)
  go_wp2_with fail
  refine (k2 _ HG1.out).mono ?_
  rintro e w2 ⟨rfl, b2⟩
  have HB := Lib.hid (chain HB0.out (chain b1 b2))
  clear b1 b2 k1 k2
  go_wp2_with fail
  exact bodyPost_ret (results_tmp rfl _ _ _) rfl ⟨by show Ending.returned (.string ((⟨#[34]⟩ : ByteArray) ++ u ++ ⟨#[34]⟩)) = _; rw [HC.out], HB.out⟩
/-- A value's text. -/
theorem vtext_any {v : Val} (h : ValOk v) (h0 : -9223372036854775808 ≤ v.n) (h1 : v.n ≤ 9223372036854775807) (hs : v.s.length ≤ 64) (w : World) (hg : GW w) :
    Calls Tryz.prog 59 #[.agg (valA v)] w fun e w' => e = .returned (.string (BA (valB v))) ∧ Below w.heap.size w w' := by
  obtain ⟨k, n, s⟩ := v
  unfold ValOk at h
  dsimp only at h h0 h1 hs
  rcases h with ⟨rfl, rfl⟩ | ⟨rfl, rfl⟩ | ⟨rfl, rfl, hn⟩
  · exact text_int n h0 h1 w hg
  · exact text_str s hs w hg
  · exact text_bool n hn w
end Go.Proofs.YtnaehhpikhlppaaGreatDoor
