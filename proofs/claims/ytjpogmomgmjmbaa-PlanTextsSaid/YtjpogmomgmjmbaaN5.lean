/- The reference's reader of nodes in memory; the walks of its is, sees, fail, wants. The walk of the reference's reader's kind: a token of a kind. -/
import Derived.Test.YtjpogmomgmjmbaaN4
/-! The reference's reader of nodes in memory; the walks of its is, sees, fail, wants. -/
namespace Go.Proofs.Ytjpogmomgmjmbaa
open Go.RowKit LexS ParS BigFrame
set_option maxHeartbeats 4000000
set_option linter.unusedVariables false
set_option linter.unusedSimpArgs false
attribute [local go_sem] World.cell?_alloc_some cell_drewN_new free_drewN_new cell_drew_new free_drew_new

/-- How it stands with the reference's reader: the tokens left and the nodes, or an error. -/
abbrev RSt := Except Er (List Tk × List Nd)
def goP {α : Type} (p : M α) : RSt → Except Er (α × List Tk × List Nd)
  | .error e => .error e
  | .ok (ts, ns) => p ts ns
def stOf {α : Type} : Except Er (α × List Tk × List Nd) → RSt
  | .error e => .error e
  | .ok (_, ts, ns) => .ok (ts, ns)
def run {α : Type} (p : M α) (st : RSt) : RSt := stOf (goP p st)
def leftR : RSt → Nat
  | .error (k, _) => k
  | .ok (ts, _) => ts.length
def codeR : RSt → Nat
  | .error (_, l) => codeOf l
  | .ok _ => 0
def seesR (b : Bytes) : RSt → Bool
  | .error _ => false
  | .ok (ts, _) => isS b ts
def nextR (b : Bytes) : RSt → RSt
  | .error e => .error e
  | .ok (ts, ns) => .ok ((sees b ts).getD ts, ns)
theorem slice_form {w : World} {b e : Nat} {v : Value} {n size : Nat} {xs : List Value} (h : w.ownsRow b e size v n xs) : ∃ o cap, v = .slice o n cap := by
  rcases h.2 with ⟨h1, h2⟩ | ⟨g, cap, cur, h2, _⟩
  · exact ⟨none, 0, by rw [h2]; exact h1⟩
  · exact ⟨_, cap, h2⟩
theorem codeOf_ne (l : Bool) : 1 ≤ codeOf l ∧ codeOf l ≤ 120 := by cases l <;> simp [codeOf]
/-- The reader lies at r: tokens T; nodes at nv. -/
structure RF (base r : Nat) (tv : Value) (T : List Tok) (deep : Nat) (st : RSt) (nv : Value) (W : World) : Prop where
  box : Blk W r 70 #[tv, .int .i64 ((T.length - leftR st : Nat) : Int), nv, .int .i64 (codeR st : Int), .int .i64 (deep : Int)]
  le : base ≤ r
  toks : W.ownsRow 0 52 4 tv T.length (toksL T)
  left : leftR st ≤ T.length
  suf : ∀ ts ns, st = .ok (ts, ns) → ts = (T.map tk).drop (T.length - ts.length)
  few : T.length ≤ 1024
  nodes : ∃ ns, NS W base nv ns ∧ ns.length ≤ 5000 ∧ ∀ ts ns', st = .ok (ts, ns') → ns' = ns
section
variable {base r deep d2 : Nat} {tv nv nv' : Value} {T : List Tok} {st st2 : RSt} {ts ts1 : List Tk} {ns : List Nd} {W W' : World}
theorem RF.kept (h : RF base r tv T deep st nv W) (hb : Below W.heap.size W W') : RF base r tv T deep st nv W' := by
  obtain ⟨ns, h1, h2⟩ := h.nodes
  exact ⟨h.box.kept hb, h.le, own_kept h.toks hb, h.left, h.suf, h.few, ns, h1.kept hb, h2⟩
theorem RF.r_ne (h : RF base r tv T deep st nv W) : nv.ownBlock ≠ some r := by
  intro e
  obtain ⟨ns, h1, _⟩ := h.nodes
  obtain ⟨_, cur, hc⟩ := h1.block e
  have := block_types hc h.box
  cases this
theorem RF.t_ne (h : RF base r tv T deep st nv W) : tv.ownBlock ≠ some r := by
  intro e
  obtain ⟨cur, hc⟩ := row_block h.toks e
  have := block_types hc h.box
  cases this
/-- A row of numbers, names .. stands behind a call of the reader. -/
theorem RF.row {b2 size n : Nat} {e : TypeId} {v : Value} {xs : List Value} (h : RF base r tv T deep st nv W) (s : Stp r nv W nv' W') (ho : W.ownsRow b2 e size v n xs) (h1 : e ≠ 70) (h2 : e ≠ 43) : W'.ownsRow b2 e size v n xs := by
  refine row_stp ho s fun k hk => ?_
  obtain ⟨cur, hc⟩ := row_block ho hk
  refine ⟨fun e1 => ?_, fun e1 => ?_⟩
  · subst e1
    exact h1 (block_types hc h.box)
  · obtain ⟨ns, hn, _⟩ := h.nodes
    obtain ⟨_, cur2, hc2⟩ := hn.block e1
    exact h2 (block_types hc hc2)
theorem RF.mok {m : NodeM} (h : RF base r tv T deep st nv W) (hm : MOk W base m) (s : Stp r nv W nv' W') : MOk W' base m :=
  ⟨h.row s hm.l (by decide) (by decide), h.row s hm.names (by decide) (by decide), h.row s hm.aggs (by decide) (by decide)⟩
/-- The reader's own cells are written. -/
theorem RF.put (h : RF base r tv T deep st nv W) (i : Nat) (u : Value) (hc : (#[tv, .int .i64 ((T.length - leftR st2 : Nat) : Int), nv, .int .i64 (codeR st2 : Int), .int .i64 (d2 : Int)] : Array Value) = (#[tv, .int .i64 ((T.length - leftR st : Nat) : Int), nv, .int .i64 (codeR st : Int), .int .i64 (deep : Int)] : Array Value).setIfInBounds i u)
    (hl : leftR st2 ≤ T.length) (hs : ∀ ts ns, st2 = .ok (ts, ns) → ts = (T.map tk).drop (T.length - ts.length)) (hn : ∀ ts ns, st2 = .ok (ts, ns) → ∃ ts', st = .ok (ts', ns)) :
    RF base r tv T d2 st2 nv (W.setCell ⟨r, i, none⟩ u) := by
  have s : Stp r nv W nv (W.setCell ⟨r, i, none⟩ u) := (Stp.refl r nv W).set i u
  obtain ⟨ns, ⟨ms, h1, h2, h3⟩, h5, h4⟩ := h.nodes
  refine ⟨by rw [hc]; exact h.box.put i u, h.le, h.row s h.toks (by decide) (by decide), hl, hs, h.few, ns, ⟨ms, h1, ?_, fun m hm => h.mok (h3 m hm) s⟩, h5, fun ts ns' e => ?_⟩
  · refine ⟨h2.1, ?_⟩
    rcases h2.2 with h4 | ⟨g, cap, cur, rfl, h5, h6, h7⟩
    · exact .inl h4
    · refine .inr ⟨g, cap, cur, rfl, h5, ?_, h7⟩
      rw [← h6]
      simp only [World.setCell, Array.getElem?_modify]
      rw [if_neg (fun e => h.r_ne (by rw [e]; rfl))]
  · obtain ⟨ts', e'⟩ := hn ts ns' e
    exact h4 ts' ns' e'
/-- One token further. -/
theorem RF.next {t : Tk} (h : RF base r tv T deep (.ok (t :: ts1, ns)) nv W) {a : Int} (ha : a = ((T.length - (t :: ts1).length : Nat) : Int) + 1) : RF base r tv T deep (.ok (ts1, ns)) nv (W.setCell ⟨r, 1, none⟩ (.int .i64 a)) := by
  have hs : (t :: ts1).length ≤ T.length := h.left
  simp only [List.length_cons] at hs
  have hsf := h.suf _ _ rfl
  have e1 : T.length - ts1.length = T.length - (t :: ts1).length + 1 := by rw [List.length_cons]; omega
  refine h.put 1 _ ?_ (show ts1.length ≤ T.length by omega) (fun ts ns e => ?_) (fun ts ns e => ?_)
  · rw [ha]
    show (#[tv, .int .i64 ((T.length - ts1.length : Nat) : Int), nv, .int .i64 0, .int .i64 (deep : Int)] : Array Value) = _
    rw [e1]
    simp [leftR, codeR]
  · cases e
    rw [e1, ← List.drop_drop, ← hsf]
    rfl
  · cases e
    exact ⟨_, rfl⟩
/-- An error at k tokens ahead of the end. -/
theorem RF.fails (h : RF base r tv T deep (.ok (ts, ns)) nv W) : RF base r tv T deep (.error (ts.length, false)) nv (W.setCell ⟨r, 3, none⟩ (.int .i64 120)) :=
  h.put 3 _ (by simp [leftR, codeR, codeOf]) h.left (fun ts ns e => by cases e) (fun ts ns e => by cases e)
theorem is_r (b : Bytes) (h : RF base r tv T deep st nv W) : Calls Try.prog 48 #[RP r, .string (BA b)] W fun e W' => e = .returned (.bool (seesR b st)) ∧ Below W.heap.size W W' := by
  obtain ⟨p, cap, rfl, hcap, hmax, hrow⟩ := row_any h.toks
  have hfew := h.few
  rcases st with ⟨k, long⟩ | ⟨ts, ns⟩
  · have c3 : W.cell? ⟨r, 3, none⟩ = some (.int .i64 (codeOf long : Int)) := h.box.cell 3
    have hc := codeOf_ne long
    obtain ⟨c, hcc⟩ : ∃ c, c = codeOf long := ⟨_, rfl⟩
    rw [← hcc] at c3 hc
    have q1 : ((c : Int) == 0) = false := by rw [beq_eq_false_iff_ne]; omega
    have q2 : ¬ (c : Int) = 0 := by omega
    clear hrow h hc hcc
    go_enter Try.func48, Try.ntmps48
    go_wp2_with fail
    go_big_quiet (fail)
    go_wp2_with fail
    go_ret
    exact ⟨rfl, by first | exact below_drewN (Below.refl _ _) _ | exact (Below.refl _ _).drew⟩
  · have c3 : W.cell? ⟨r, 3, none⟩ = some (.int .i64 0) := h.box.cell 3
    cases ts with
    | nil =>
      have c0 : W.cell? ⟨r, 0, none⟩ = some (.slice p T.length cap) := h.box.cell 0
      have c1 : W.cell? ⟨r, 1, none⟩ = some (.int .i64 (T.length : Int)) := h.box.cell 1
      have q1 : ¬ (T.length : Int) < (T.length : Int) := by omega
      have q2 : decide ((T.length : Int) < (T.length : Int)) = false := decide_eq_false q1
      clear hrow h
      go_enter Try.func48, Try.ntmps48
      go_wp2_with fail
      go_big_quiet (fail)
      go_wp2_with fail
      go_ret
      exact ⟨rfl, by first | exact below_drewN (Below.refl _ _) _ | exact (Below.refl _ _).drew⟩
    | cons t ts1 =>
      obtain ⟨u, hu, hut, hlt⟩ := tok_at (h.suf _ _ rfl) h.left rfl
      obtain ⟨i, hi⟩ : ∃ i, i = T.length - (t :: ts1).length := ⟨_, rfl⟩
      rw [← hi] at hu hlt
      obtain ⟨g, rfl, _, _, hcells⟩ := hrow (by rintro rfl; simp at hlt)
      obtain ⟨d0, d1, d2, d3⟩ := hcells i u hu
      have c0 : W.cell? ⟨r, 0, none⟩ = some (.slice (some ⟨g, 0, none⟩) T.length cap) := h.box.cell 0
      have c1 : W.cell? ⟨r, 1, none⟩ = some (.int .i64 (i : Int)) := by rw [hi]; exact h.box.cell 1
      have q2 : decide ((i : Int) < (T.length : Int)) = true := decide_eq_true (by omega)
      have q3 : decide (i < T.length) = true := decide_eq_true (by omega)
      have q4 : (0 : Int) ≤ (i : Int) := by omega
      have q5 : (i : Int) < (T.length : Int) := by omega
      have hv : seesR b (.ok (t :: ts1, ns)) = ((decide (u.kind = 1) || decide (u.kind = 4)) && decide (u.s = b)) := by
        show isS b (t :: ts1) = _
        rw [isS_cons, ← hut]; rfl
      have HV := Lib.hid hv
      clear hcells hrow h hi hu hut hv
      by_cases k1 : u.kind = 1
      · have e1 : ((u.kind : Int) == 1) = true := by rw [beq_iff_eq]; omega
        have e1' : (u.kind : Int) = 1 := by omega
        have HV2 := Lib.hid (show ((decide (u.kind = 1) || decide (u.kind = 4)) && decide (u.s = b)) = (u.s == b) by rw [k1, Bool.eq_iff_iff]; simp)
        clear k1
        go_enter Try.func48, Try.ntmps48
        go_wp2_with fail
        go_big_quiet (fail)
        go_wp2_with fail
        go_ret
        refine ⟨congrArg (fun x => Ending.returned (.bool x)) ?_, by first | exact below_drewN (Below.refl _ _) _ | exact (Below.refl _ _).drew⟩
        rw [HV.out, HV2.out]
      · have e1 : ((u.kind : Int) == 1) = false := by rw [beq_eq_false_iff_ne]; omega
        have e1' : ¬ (u.kind : Int) = 1 := by omega
        by_cases k4 : u.kind = 4
        · have e4 : ((u.kind : Int) == 4) = true := by rw [beq_iff_eq]; omega
          have e4' : (u.kind : Int) = 4 := by omega
          have HV2 := Lib.hid (show ((decide (u.kind = 1) || decide (u.kind = 4)) && decide (u.s = b)) = (u.s == b) by rw [k4, Bool.eq_iff_iff]; simp)
          clear k1 k4
          go_enter Try.func48, Try.ntmps48
          go_wp2_with fail
          go_big_quiet (fail)
          go_wp2_with fail
          go_ret
          refine ⟨congrArg (fun x => Ending.returned (.bool x)) ?_, by first | exact below_drewN (Below.refl _ _) _ | exact (Below.refl _ _).drew⟩
          rw [HV.out, HV2.out]
        · have e4 : ((u.kind : Int) == 4) = false := by rw [beq_eq_false_iff_ne]; omega
          have e4' : ¬ (u.kind : Int) = 4 := by omega
          have HV2 := Lib.hid (show ((decide (u.kind = 1) || decide (u.kind = 4)) && decide (u.s = b)) = false by rw [decide_eq_false k1, decide_eq_false k4]; rfl)
          clear k1 k4
          go_enter Try.func48, Try.ntmps48
          go_wp2_with fail
          go_big_quiet (fail)
          go_wp2_with fail
          go_ret
          refine ⟨congrArg (fun x => Ending.returned (.bool x)) ?_, by first | exact below_drewN (Below.refl _ _) _ | exact (Below.refl _ _).drew⟩
          rw [HV.out, HV2.out]
theorem seesR_ok {b : Bytes} (h : seesR b st = true) : ∃ t ts1 ns, st = .ok (t :: ts1, ns) ∧ nextR b st = .ok (ts1, ns) ∧ sees b (t :: ts1) = some ts1 := by
  rcases st with e | ⟨ts, ns⟩
  · cases h
  · have h' : isS b ts = true := h
    cases ts with
    | nil => cases h'
    | cons t ts1 =>
      rw [isS_cons] at h'
      have hs : sees b (t :: ts1) = some ts1 := by rw [sees_cons, if_pos h']
      exact ⟨t, ts1, ns, rfl, by show (Except.ok ((sees b (t :: ts1)).getD _, ns) : RSt) = _; rw [hs]; rfl, hs⟩
theorem seesR_no {b : Bytes} (h : seesR b st = false) : nextR b st = st := by
  rcases st with e | ⟨ts, ns⟩
  · rfl
  · have h' : isS b ts = false := h
    unfold isS at h'
    show (Except.ok ((sees b ts).getD ts, ns) : RSt) = _
    cases hs : sees b ts with
    | none => rfl
    | some x => rw [hs] at h'; cases h'
theorem sees_r (b : Bytes) (h : RF base r tv T deep st nv W) :
    Calls Try.prog 42 #[RP r, .string (BA b)] W fun e W' => e = .returned (.bool (seesR b st)) ∧ RF base r tv T deep (nextR b st) nv W' ∧ Mv r W W' := by
  have HI := Lib.hid (is_r b h)
  have H := Lib.hid h
  have hfew := h.few
  clear h
  cases hs : seesR b st with
  | false =>
    have hi := HI.out
    rw [hs] at hi
    rw [seesR_no hs]
    clear hs HI
    have HI := Lib.hid hi
    clear hi
    go_enter Try.func42, Try.ntmps42
    go_wp2_with fail
    refine HI.out.mono ?_
    rintro e w1 ⟨rfl, hb⟩
    go_wp2_with fail
    go_ret
    exact ⟨rfl, H.out.kept hb, Stp.of hb⟩
  | true =>
    have hi := HI.out
    rw [hs] at hi
    obtain ⟨t, ts1, ns, rfl, h2, _⟩ := seesR_ok hs
    rw [h2]
    clear hs HI h2
    have HI := Lib.hid hi
    clear hi
    go_enter Try.func42, Try.ntmps42
    go_wp2_with fail
    refine HI.out.mono ?_
    rintro e w1 ⟨rfl, hb⟩
    have H1 := Lib.hid (H.out.kept hb)
    have S1 := Lib.hid (Stp.of (r := r) (nv := .slice none 0 0) hb)
    obtain ⟨i, hi⟩ : ∃ i, i = T.length - (t :: ts1).length := ⟨_, rfl⟩
    have c1 : w1.cell? ⟨r, 1, none⟩ = some (.int .i64 (i : Int)) := by rw [hi]; exact H1.out.box.cell 1
    have f1 := H1.out.box.free 1
    have hi2 : (i : Int) ≤ 1024 := by omega
    have H2 := Lib.hid (H1.out.next (a := (i : Int) + 1) (by rw [hi]))
    clear hi hb
    go_wp2_with fail
    go_ret
    exact ⟨rfl, H2.out, S1.out.set 1 _⟩
/-- An error here. -/
def failR : RSt → RSt
  | .error e => .error e
  | .ok (ts, _) => .error (ts.length, false)
theorem fail_r (h : RF base r tv T deep st nv W) :
    Calls Try.prog 45 #[RP r] W fun e W' => e = .returned (.tuple #[]) ∧ RF base r tv T deep (failR st) nv W' ∧ Mv r W W' := by
  have H := Lib.hid h
  rcases st with ⟨k, long⟩ | ⟨ts, ns⟩
  · have c3 : W.cell? ⟨r, 3, none⟩ = some (.int .i64 (codeOf long : Int)) := h.box.cell 3
    have hc := codeOf_ne long
    obtain ⟨c, hcc⟩ : ∃ c, c = codeOf long := ⟨_, rfl⟩
    rw [← hcc] at c3 hc
    have q1 : ((c : Int) == 0) = false := by rw [beq_eq_false_iff_ne]; omega
    have q2 : ¬ (c : Int) = 0 := by omega
    clear h hc hcc
    go_enter Try.func45, Try.ntmps45
    go_wp2_with fail
    exact bodyPost_end (v := .tuple #[]) (results_none rfl _ _ _) rfl ⟨rfl, H.out, Stp.refl _ _ _⟩
  · have c3 : W.cell? ⟨r, 3, none⟩ = some (.int .i64 0) := h.box.cell 3
    have f3 := h.box.free 3
    clear h
    go_enter Try.func45, Try.ntmps45
    go_wp2_with fail
    exact bodyPost_end (v := .tuple #[]) (results_none rfl _ _ _) rfl ⟨rfl, H.out.fails, (Stp.refl _ _ _).set 3 _⟩
theorem run_wants (b : Bytes) (st : RSt) : run (wants b) st = if seesR b st then nextR b st else failR st := by
  rcases st with e | ⟨ts, ns⟩
  · rfl
  · show stOf (wants b ts ns) = if (sees b ts).isSome then (Except.ok ((sees b ts).getD ts, ns) : RSt) else Except.error (ts.length, false)
    unfold wants
    cases sees b ts <;> rfl
theorem wants_r (b : Bytes) (h : RF base r tv T deep st nv W) :
    Calls Try.prog 40 #[RP r, .string (BA b)] W fun e W' => e = .returned (.tuple #[]) ∧ RF base r tv T deep (run (wants b) st) nv W' ∧ Mv r W W' := by
  have hi := sees_r b h
  rw [run_wants]
  cases hs : seesR b st with
  | true =>
    rw [hs] at hi
    have HI := Lib.hid hi
    clear h hs hi
    rw [if_pos rfl]
    go_enter Try.func40, Try.ntmps40
    go_wp2_with fail
    refine HI.out.mono ?_
    rintro e w1 ⟨rfl, h1, s1⟩
    have H1 := Lib.hid (And.intro h1 s1)
    clear h1 s1
    go_wp2_with fail
    exact bodyPost_end (v := .tuple #[]) (results_none rfl _ _ _) rfl ⟨rfl, H1.out⟩
  | false =>
    rw [hs, seesR_no hs] at hi
    have HI := Lib.hid hi
    clear h hs hi
    rw [if_neg (by decide)]
    go_enter Try.func40, Try.ntmps40
    go_wp2_with fail
    refine HI.out.mono ?_
    rintro e w1 ⟨rfl, h1, s1⟩
    have H1 := Lib.hid (And.intro h1 s1)
    clear h1 s1
    go_wp2_with fail
    refine (fail_r H1.out.1).mono ?_
    rintro e w2 ⟨rfl, h2, s2⟩
    have H2 := Lib.hid (And.intro h2 (Stp.trans H1.out.2 s2))
    clear h2 s2
    go_wp2_with fail
    exact bodyPost_end (v := .tuple #[]) (results_none rfl _ _ _) rfl ⟨rfl, H2.out⟩
end
end Go.Proofs.Ytjpogmomgmjmbaa

/-! The walk of the reference's reader's kind: a token of a kind. -/
namespace Go.Proofs.Ytjpogmomgmjmbaa
open Go.RowKit LexS ParS BigFrame
set_option maxHeartbeats 4000000
set_option linter.unusedVariables false
set_option linter.unusedSimpArgs false
attribute [local go_sem] World.cell?_alloc_some cell_drewN_new free_drewN_new cell_drew_new free_drew_new

/-- The token that is taken. -/
def tokR (k : Nat) (st : RSt) : Tk := match goP (take k) st with
  | .ok (t, _, _) => t
  | .error _ => ⟨0, [], 0⟩
def Kind (base r : Nat) (tv : Value) (T : List Tok) (deep : Nat) (st : RSt) (nv : Value) (W : World) (k : Nat) (e : Ending) (W' : World) : Prop :=
  ∃ v, e = .returned v ∧ TokIs (tokR k st) v ∧ RF base r tv T deep (run (take k) st) nv W' ∧ Mv r W W'
abbrev zTok : Array Value := #[.int .i64 0, .string ⟨#[]⟩, .int .i64 0, .int .i64 0]
section
variable {base r deep : Nat} {tv nv nv' : Value} {T : List Tok} {st : RSt} {ts ts1 : List Tk} {ns : List Nd} {W W' w1 w2 : World}
theorem RF.far {b : Nat} {t : TypeId} {cs : Array Value} (h : RF base r tv T deep st nv W) (hb : Blk W b t cs) (h1 : t ≠ 3 ∧ t ≠ 9 ∧ t ≠ 80) (ht : tv.ownBlock ≠ some b) (hn : nv.ownBlock ≠ some b) (hr : b ≠ r) (i : Nat) (u : Value) : RF base r tv T deep st nv (W.setCell ⟨b, i, none⟩ u) := by
  have row : ∀ {b2 size n : Nat} {e : TypeId} {v : Value} {xs : List Value}, W.ownsRow b2 e size v n xs → (e ≠ t ∨ v.ownBlock ≠ some b) → (W.setCell ⟨b, i, none⟩ u).ownsRow b2 e size v n xs := by
    intro b2 size n e v xs ho hne
    refine ⟨ho.1, ?_⟩
    rcases ho.2 with h4 | ⟨g, cap, cur, rfl, h5, h6, h7⟩
    · exact .inl h4
    · refine .inr ⟨g, cap, cur, rfl, h5, ?_, h7⟩
      rw [← h6]
      simp only [World.setCell, Array.getElem?_modify]
      rw [if_neg (fun e1 => by
        rcases hne with hne | hne
        · rw [← e1] at h6
          exact hne (block_types h6 hb)
        · exact hne (by rw [e1]; rfl))]
  obtain ⟨ns, ⟨ms, k1, k2, k3⟩, k5, k4⟩ := h.nodes
  exact ⟨h.box.far (Ne.symm hr) _, h.le, row h.toks (.inr ht), h.left, h.suf, h.few, ns, ⟨ms, k1, row k2 (.inr hn), fun m hm => ⟨row (k3 m hm).l (.inl (Ne.symm h1.1)), row (k3 m hm).names (.inl (Ne.symm h1.2.1)), row (k3 m hm).aggs (.inl (Ne.symm h1.2.2))⟩⟩, k5, k4⟩
theorem RF.own_lt (h : RF base r tv T deep st nv W) : (∀ g, tv.ownBlock = some g → g < W.heap.size) ∧ (∀ g, nv.ownBlock = some g → g < W.heap.size) := by
  refine ⟨fun g hg => (h.toks.lt g hg).2, fun g hg => ?_⟩
  obtain ⟨ns, ⟨ms, _, ho, _⟩, _⟩ := h.nodes
  exact (ho.lt g hg).2
theorem run_take_error {k : Nat} (h : ∀ t ts1 ns, st = .ok (t :: ts1, ns) → t.kind ≠ k) : run (take k) st = failR st ∧ tokR k st = ⟨0, [], 0⟩ := by
  rcases st with e | ⟨ts, ns⟩
  · exact ⟨rfl, rfl⟩
  · cases ts with
    | nil => exact ⟨rfl, rfl⟩
    | cons t ts1 =>
      have hk := h t ts1 ns rfl
      have e : take k (t :: ts1) ns = .error (ts1.length + 1, false) := if_neg hk
      unfold run tokR goP
      dsimp only
      rw [e]
      exact ⟨rfl, rfl⟩
theorem run_take_ok {t : Tk} : run (take t.kind) (.ok (t :: ts1, ns)) = .ok (ts1, ns) ∧ tokR t.kind (.ok (t :: ts1, ns)) = t := by
  have e : take t.kind (t :: ts1) ns = .ok (t, ts1, ns) := if_pos rfl
  unfold run tokR goP
  dsimp only
  rw [e]
  exact ⟨rfl, rfl⟩
/-- The way where there is no such token. -/
theorem kind_end {k : Nat} (h : RF base r tv T deep st nv W) (hk : ∀ t ts1 ns, st = .ok (t :: ts1, ns) → t.kind ≠ k) (h2 : RF base r tv T deep (failR st) nv w2) (m : Mv r W w2) (hx : Blk w2 W.heap.size 52 zTok) :
    Kind base r tv T deep st nv W k (.returned (.agg zTok)) ((((w2.setCell ⟨W.heap.size, 0, none⟩ (.int .i64 0)).setCell ⟨W.heap.size, 1, none⟩ (.string ⟨#[]⟩)).setCell ⟨W.heap.size, 2, none⟩ (.int .i64 0)).setCell ⟨W.heap.size, 3, none⟩ (.int .i64 0)) := by
  obtain ⟨e1, e2⟩ := run_take_error hk
  have nr : W.heap.size ≠ r := Nat.ne_of_gt h.box.lt
  have nt : tv.ownBlock ≠ some W.heap.size := fun e => Nat.lt_irrefl _ (h.own_lt.1 _ e)
  have nn : nv.ownBlock ≠ some W.heap.size := fun e => Nat.lt_irrefl _ (h.own_lt.2 _ e)
  have hd : (52 : TypeId) ≠ 3 ∧ (52 : TypeId) ≠ 9 ∧ (52 : TypeId) ≠ 80 := by decide
  refine ⟨_, rfl, ⟨0, by rw [e2]; rfl⟩, ?_, (((m.far (Nat.le_refl _) _ _).far (Nat.le_refl _) _ _).far (Nat.le_refl _) _ _).far (Nat.le_refl _) _ _⟩
  rw [e1]
  exact (((h2.far hx hd nt nn nr 0 _).far (hx.put 0 _) hd nt nn nr 1 _).far ((hx.put 0 _).put 1 _) hd nt nn nr 2 _).far (((hx.put 0 _).put 1 _).put 2 _) hd nt nn nr 3 _
set_option maxRecDepth 100000 in
theorem kind_r (k : Nat) (h : RF base r tv T deep st nv W) : Calls Try.prog 41 #[RP r, .int .i64 (k : Int)] W (Kind base r tv T deep st nv W k) := by
  obtain ⟨p, cap, rfl, hcap, hmax, hrow⟩ := row_any h.toks
  have hfew := h.few
  obtain ⟨W0, hW0⟩ : ∃ W0, W0 = W.alloc (.cells zTok 52) := ⟨_, rfl⟩
  have hb0 : Below W.heap.size W W0 := by rw [hW0]; exact (Below.refl _ _).alloc (Nat.le_refl _) _
  have hx0 : Blk W0 W.heap.size 52 zTok := by rw [hW0]; exact Blk.new W _ _
  have H0 := h.kept hb0
  have HR := Lib.hid h
  have HB := Lib.hid hb0
  have HX := Lib.hid hx0
  have HH := Lib.hid H0
  have HW := Lib.hid hW0
  have c0 : W0.cell? ⟨r, 0, none⟩ = some (.slice p T.length cap) := H0.box.cell 0
  have f1 := H0.box.free 1
  have nr : r ≠ W.heap.size := Nat.ne_of_lt h.box.lt
  have nr2 : W.heap.size ≠ r := nr.symm
  have no : ∀ (W' : World) (m : Mv r W0 W'), Blk W' W.heap.size 52 zTok := fun W' m => m.blk HX.out nr2
  have HNO := Lib.hid no
  clear no
  rcases st with ⟨kk, long⟩ | ⟨ts, ns⟩
  · have c3 : W0.cell? ⟨r, 3, none⟩ = some (.int .i64 (codeOf long : Int)) := H0.box.cell 3
    have hc := codeOf_ne long
    obtain ⟨c, hcc⟩ : ∃ c, c = codeOf long := ⟨_, rfl⟩
    rw [← hcc] at c3 hc
    have q1 : ((c : Int) != 0) = true := by rw [bne_iff_ne]; omega
    have q2 : ¬ (c : Int) = 0 := by omega
    clear hrow h hc hcc hW0 hb0 hx0 H0
    go_enter Try.func41, Try.ntmps41
    go_wp2_with fail
    rw [show W.alloc (.cells zTok 52) = W0 from HW.out.symm]
    go_big_quiet (fail)
    go_wp2_with fail
    have hbq : Below W0.heap.size W0 (W0.drewN nq) := below_drewN (Below.refl _ _) nq
    refine (fail_r (HH.out.kept hbq)).mono ?_
    rintro e w2 ⟨rfl, h2, m2⟩
    have hx := HNO.out _ ((Stp.of hbq).trans m2)
    have HE := Lib.hid (kind_end (k := k) HR.out (fun t ts1 ns e => by cases e) h2 ((Stp.of (HB.out.trans (hbq.mono HB.out.size))).trans m2) hx)
    have e0 : w2.cell? ⟨W.heap.size, 0, none⟩ = some (.int .i64 0) := hx.cell 0
    have e1 : w2.cell? ⟨W.heap.size, 1, none⟩ = some (.string ⟨#[]⟩) := hx.cell 1
    have e2 : w2.cell? ⟨W.heap.size, 2, none⟩ = some (.int .i64 0) := hx.cell 2
    have e3 : w2.cell? ⟨W.heap.size, 3, none⟩ = some (.int .i64 0) := hx.cell 3
    have x0 := hx.free 0
    have x1 := hx.free 1
    have x2 := hx.free 2
    have x3 := hx.free 3
    clear hx h2 m2 hbq
    go_wp2_with fail
    refine bodyPost_ret (v := .agg zTok) ?_ rfl HE.out
    simp [results, Try.results41, go_sem, e0, e1, e2, e3]
  · have c3 : W0.cell? ⟨r, 3, none⟩ = some (.int .i64 0) := H0.box.cell 3
    cases ts with
    | nil =>
      have c1 : W0.cell? ⟨r, 1, none⟩ = some (.int .i64 (T.length : Int)) := H0.box.cell 1
      have q1 : (T.length : Int) ≤ (T.length : Int) := by omega
      have q2 : decide ((T.length : Int) ≤ (T.length : Int)) = true := decide_eq_true q1
      clear hrow h hW0 hb0 hx0 H0
      go_enter Try.func41, Try.ntmps41
      go_wp2_with fail
      rw [show W.alloc (.cells zTok 52) = W0 from HW.out.symm]
      go_big_quiet (fail)
      go_wp2_with fail
      have hbq : Below W0.heap.size W0 (W0.drewN nq) := below_drewN (Below.refl _ _) nq
      refine (fail_r (HH.out.kept hbq)).mono ?_
      rintro e w2 ⟨rfl, h2, m2⟩
      have hx := HNO.out _ ((Stp.of hbq).trans m2)
      have HE := Lib.hid (kind_end (k := k) HR.out (fun t ts1 ns e => by cases e) h2 ((Stp.of (HB.out.trans (hbq.mono HB.out.size))).trans m2) hx)
      have e0 : w2.cell? ⟨W.heap.size, 0, none⟩ = some (.int .i64 0) := hx.cell 0
      have e1 : w2.cell? ⟨W.heap.size, 1, none⟩ = some (.string ⟨#[]⟩) := hx.cell 1
      have e2 : w2.cell? ⟨W.heap.size, 2, none⟩ = some (.int .i64 0) := hx.cell 2
      have e3 : w2.cell? ⟨W.heap.size, 3, none⟩ = some (.int .i64 0) := hx.cell 3
      have x0 := hx.free 0
      have x1 := hx.free 1
      have x2 := hx.free 2
      have x3 := hx.free 3
      clear hx h2 m2 hbq
      go_wp2_with fail
      refine bodyPost_ret (v := .agg zTok) ?_ rfl HE.out
      simp [results, Try.results41, go_sem, e0, e1, e2, e3]
    | cons t ts1 =>
      obtain ⟨u, hu, hut, hlt⟩ := tok_at (h.suf _ _ rfl) h.left rfl
      obtain ⟨i, hi⟩ : ∃ i, i = T.length - (t :: ts1).length := ⟨_, rfl⟩
      rw [← hi] at hu hlt
      obtain ⟨g, rfl, _, hg, hcells⟩ := hrow (by rintro rfl; simp at hlt)
      obtain ⟨d0, d1, d2, d3⟩ := hcells i u hu
      have d0 := keepc hb0 d0
      have d1 := keepc hb0 d1
      have d2 := keepc hb0 d2
      have d3 := keepc hb0 d3
      have c1 : W0.cell? ⟨r, 1, none⟩ = some (.int .i64 (i : Int)) := by rw [hi]; exact H0.box.cell 1
      have q1 : ¬ (T.length : Int) ≤ (i : Int) := by omega
      have q2 : decide ((T.length : Int) ≤ (i : Int)) = false := decide_eq_false q1
      have q3 : decide (T.length ≤ i) = false := decide_eq_false (by omega)
      have q4 : (0 : Int) ≤ (i : Int) := by omega
      have q5 : (i : Int) < (T.length : Int) := by omega
      by_cases hk : u.kind = k
      case neg =>
        have q6 : ((u.kind : Int) != (k : Int)) = true := by rw [bne_iff_ne]; omega
        have q7 : ¬ (u.kind : Int) = (k : Int) := by omega
        have HK := Lib.hid (show ∀ t' ts1' ns', (Except.ok (t :: ts1, ns) : RSt) = .ok (t' :: ts1', ns') → t'.kind ≠ k from fun t' ts1' ns' e => by
          cases e
          rw [← hut]
          exact hk)
        clear hrow h hW0 hb0 hx0 H0 hcells hi hu hut hk
        go_enter Try.func41, Try.ntmps41
        go_wp2_with fail
        rw [show W.alloc (.cells zTok 52) = W0 from HW.out.symm]
        go_big_quiet (fail)
        go_wp2_with fail
        have hbq : Below W0.heap.size W0 (W0.drewN nq) := below_drewN (Below.refl _ _) nq
        refine (fail_r (HH.out.kept hbq)).mono ?_
        rintro e w2 ⟨rfl, h2, m2⟩
        have hx := HNO.out _ ((Stp.of hbq).trans m2)
        have HE := Lib.hid (kind_end (k := k) HR.out HK.out h2 ((Stp.of (HB.out.trans (hbq.mono HB.out.size))).trans m2) hx)
        have e0 : w2.cell? ⟨W.heap.size, 0, none⟩ = some (.int .i64 0) := hx.cell 0
        have e1 : w2.cell? ⟨W.heap.size, 1, none⟩ = some (.string ⟨#[]⟩) := hx.cell 1
        have e2 : w2.cell? ⟨W.heap.size, 2, none⟩ = some (.int .i64 0) := hx.cell 2
        have e3 : w2.cell? ⟨W.heap.size, 3, none⟩ = some (.int .i64 0) := hx.cell 3
        have x0 := hx.free 0
        have x1 := hx.free 1
        have x2 := hx.free 2
        have x3 := hx.free 3
        clear hx h2 m2 hbq
        go_wp2_with fail
        refine bodyPost_ret (v := .agg zTok) ?_ rfl HE.out
        simp [results, Try.results41, go_sem, e0, e1, e2, e3]
      case pos =>
        obtain ⟨kd, hkd⟩ : ∃ kd, kd = u.kind := ⟨_, rfl⟩
        have HT := Lib.hid (show TokIs t (.agg #[.int .i64 (kd : Int), .string ⟨u.s.toArray⟩, .int .i64 u.n, .int .i64 (u.at_ : Int)]) from ⟨(u.at_ : Int), by rw [hkd, ← hut]; rfl⟩)
        have HKT := Lib.hid (show t.kind = k by rw [← hut]; exact hk)
        rw [← hk, ← hkd]
        rw [← hkd] at d0
        have q6 : ((kd : Int) != (kd : Int)) = false := by simp
        have ng : g ≠ W.heap.size := Nat.ne_of_lt hg
        have ng2 : W.heap.size ≠ g := ng.symm
        have nrg : g ≠ r := by
          intro e
          subst e
          exact h.t_ne rfl
        have HI := Lib.hid hi
        have HKD := Lib.hid (And.intro hkd hk)
        have hbig : (i : Int) ≤ 1024 := by omega
        clear hrow h hW0 hb0 hx0 H0 hcells hi hu hut hk hkd
        go_enter Try.func41, Try.ntmps41
        go_wp2_with fail
        rw [show W.alloc (.cells zTok 52) = W0 from HW.out.symm]
        go_big_quiet (fail)
        go_wp2_with fail
        obtain ⟨W2, hW2⟩ : ∃ W2, W2 = (W0.drewN nq).setCell ⟨r, 1, none⟩ (.int .i64 ((i : Int) + 1)) := ⟨_, rfl⟩
        have hbq : Below W0.heap.size W0 (W0.drewN nq) := below_drewN (Below.refl _ _) nq
        have H2 : RF base r (.slice (some ⟨g, 0, none⟩) T.length cap) T deep (.ok (ts1, ns)) nv W2 := by rw [hW2]; exact (HH.out.kept hbq).next (by rw [HI.out])
        have S2 : Mv r W W2 := by rw [hW2]; exact (Stp.of (HB.out.trans (hbq.mono HB.out.size))).set 1 _
        have X2 : Blk W2 W.heap.size 52 zTok := by rw [hW2]; exact (HX.out.kept hbq).far nr.symm _
        have c0 : W2.cell? ⟨r, 0, none⟩ = some (.slice (some ⟨g, 0, none⟩) T.length cap) := H2.box.cell 0
        have c1 : W2.cell? ⟨r, 1, none⟩ = some (.int .i64 ((i : Int) + 1)) := by
          have := H2.box.cell 1
          rw [this]
          have e : T.length - ts1.length = i + 1 := by
            have h1 : ts1.length ≤ T.length := H2.left
            have h2 := HI.out
            have h3 : (t :: ts1).length ≤ T.length := HR.out.left
            rw [List.length_cons] at h2 h3
            omega
          show some (Value.int .i64 ((T.length - ts1.length : Nat) : Int)) = _
          rw [e]
          rfl
        have d0 : W2.cell? ⟨g, i * 4, none⟩ = some (.int .i64 (kd : Int)) := by rw [hW2]; exact (cell?_setCell_ne nrg).trans d0
        have d1 : W2.cell? ⟨g, i * 4 + 1, none⟩ = some (.string ⟨u.s.toArray⟩) := by rw [hW2]; exact (cell?_setCell_ne nrg).trans d1
        have d2 : W2.cell? ⟨g, i * 4 + 2, none⟩ = some (.int .i64 u.n) := by rw [hW2]; exact (cell?_setCell_ne nrg).trans d2
        have d3 : W2.cell? ⟨g, i * 4 + 3, none⟩ = some (.int .i64 (u.at_ : Int)) := by rw [hW2]; exact (cell?_setCell_ne nrg).trans d3
        have e0 : W2.cell? ⟨W.heap.size, 0, none⟩ = some (.int .i64 0) := X2.cell 0
        have e1 : W2.cell? ⟨W.heap.size, 1, none⟩ = some (.string ⟨#[]⟩) := X2.cell 1
        have e2 : W2.cell? ⟨W.heap.size, 2, none⟩ = some (.int .i64 0) := X2.cell 2
        have e3 : W2.cell? ⟨W.heap.size, 3, none⟩ = some (.int .i64 0) := X2.cell 3
        have x0 := X2.free 0
        have x1 := X2.free 1
        have x2 := X2.free 2
        have x3 := X2.free 3
        have HF := Lib.hid (And.intro H2 (And.intro S2 X2))
        have v1 : IntKind.i64.wrap (i : Int) = (i : Int) := IntWalk.i64_in _ (by omega)
        have v2 : IntKind.i64.wrap ((i : Int) + 1 - 1) = (i : Int) := by rw [show ((i : Int) + 1 - 1) = (i : Int) by omega]; exact v1
        rw [← hW2]
        clear hW2 hbq H2 S2 X2 f1
        go_region_held3 (fun w' => w'.cell? ⟨r, 0, none⟩ = some (.slice (some ⟨g, 0, none⟩) T.length cap) ∧ w'.cell? ⟨r, 1, none⟩ = some (.int .i64 ((i : Int) + 1)) ∧ w'.cell? ⟨g, i * 4, none⟩ = some (.int .i64 (kd : Int)) ∧ w'.cell? ⟨g, i * 4 + 1, none⟩ = some (.string ⟨u.s.toArray⟩) ∧ w'.cell? ⟨g, i * 4 + 2, none⟩ = some (.int .i64 u.n) ∧ w'.cell? ⟨g, i * 4 + 3, none⟩ = some (.int .i64 (u.at_ : Int))) (go_keep) (fail)
        go_wp2_with fail
        have hkt : t.kind = kd := by rw [HKT.out, HKD.out.1, HKD.out.2]
        refine bodyPost_ret (v := .agg #[.int .i64 (kd : Int), .string ⟨u.s.toArray⟩, .int .i64 u.n, .int .i64 (u.at_ : Int)]) ?_ rfl ⟨_, rfl, ?_, ?_⟩
        · simp [results, Try.results41, go_sem, e0, e1, e2, e3]
        · rw [← hkt, run_take_ok.2]
          exact hkt ▸ HT.out
        · rw [← hkt, run_take_ok.1]
          have hs := HF.out.2.1
          have h2 := HF.out.1
          have hx := HF.out.2.2
          have nt : (Value.slice (some ⟨g, 0, none⟩) T.length cap).ownBlock ≠ some W.heap.size := fun e => by injection e with e; exact ng e
          have nn : nv.ownBlock ≠ some W.heap.size := fun e => Nat.lt_irrefl _ (HR.out.own_lt.2 _ e)
          have hd : (52 : TypeId) ≠ 3 ∧ (52 : TypeId) ≠ 9 ∧ (52 : TypeId) ≠ 80 := by decide
          exact ⟨((((h2.far hx hd nt nn nr2 0 _).far (hx.put 0 _) hd nt nn nr2 1 _).far ((hx.put 0 _).put 1 _) hd nt nn nr2 2 _).far (((hx.put 0 _).put 1 _).put 2 _) hd nt nn nr2 3 _).kept (below_drewN (Below.refl _ _) 1), ((((hs.far (Nat.le_refl _) _ _).far (Nat.le_refl _) _ _).far (Nat.le_refl _) _ _).far (Nat.le_refl _) _ _).drew⟩
end
end Go.Proofs.Ytjpogmomgmjmbaa
