/- The walks of package parse's reader: take that fails, word, number, choice. -/
import Derived.Test.YtlonkcmkgmbkcaaDoorRdA
namespace Go.Proofs.YtlonkcmkgmbkcaaDoor
open Go.RowKit LexS ParS BigFrame
set_option maxHeartbeats 4000000
set_option linter.unusedVariables false
theorem field_tok1 (k n a : Int) (s : ByteArray) (W : World) : (Instr.field 32 (.agg #[.int .i64 k, .string s, .int .i64 n, .int .i64 a]) 1).run Tryd.prog W = .ok (.string s) W := by kernel_rfl
theorem field_tok2 (k n a : Int) (s : ByteArray) (W : World) : (Instr.field 32 (.agg #[.int .i64 k, .string s, .int .i64 n, .int .i64 a]) 2).run Tryd.prog W = .ok (.int .i64 n) W := by kernel_rfl
attribute [local go_sem] field_tok1 field_tok2
attribute [local go_sem] World.cell?_alloc_some cell_drewN_new free_drewN_new cell_drew_new free_drew_new
section
variable {base r deep : Nat} {tv nv nv' : Value} {T : List Tok} {ts ts1 : List Tk} {ns : List Nd} {W W' : World}
set_option maxRecDepth 100000 in
theorem take_no {k : Nat} (h : RS base r tv T deep ts ns nv W) (hk : ∀ t ts1, ts = t :: ts1 → t.kind ≠ k) :
    Calls Tryd.prog 81 #[RP r, .int .i64 (k : Int)] W fun e W' => e = Bad T ts.length false ∧ Mv r W W' := by
  obtain ⟨p, cap, rfl, hcap, hmax, hrow⟩ := row_any h.toks
  have hfew := h.few
  obtain ⟨W0, hW0⟩ : ∃ W0, W0 = W.alloc (.cells #[.int .i64 0, .string ⟨#[]⟩, .int .i64 0, .int .i64 0] 32) := ⟨_, rfl⟩
  have hb0 : Below W.heap.size W W0 := by rw [hW0]; exact (Below.refl _ _).alloc (Nat.le_refl _) _
  have H0 := h.kept hb0
  have HF := Lib.hid (fun n => H0.kept (below_drewN (Below.refl W0.heap.size W0) n))
  have HB := Lib.hid (fun n => (Stp.of (r := r) (nv := .slice none 0 0) (hb0.trans ((below_drewN (Below.refl _ W0) n).mono hb0.size))))
  have c0 : W0.cell? ⟨r, 0, none⟩ = some (.slice p T.length cap) := H0.box.cell 0
  obtain ⟨i, hi⟩ : ∃ i, i = T.length - ts.length := ⟨_, rfl⟩
  have c1 : W0.cell? ⟨r, 1, none⟩ = some (.int .i64 (i : Int)) := by rw [hi]; exact H0.box.cell 1
  have HW := Lib.hid hW0
  cases ts with
  | nil =>
    have hi' : i = T.length := hi
    subst hi'
    have q1 : (T.length : Int) ≤ (T.length : Int) := by omega
    have q2 : decide ((T.length : Int) ≤ (T.length : Int)) = true := decide_eq_true q1
    clear hrow h H0 hb0 hi
    go_enter Tryd.func81, Tryd.ntmps81
    go_wp2_with fail
    rw [show W.alloc (.cells #[.int .i64 0, .string ⟨#[]⟩, .int .i64 0, .int .i64 0] 32) = W0 from HW.out.symm]
    clear hW0
    go_big_quiet (fail)
    go_wp2_with fail
    refine (fail_any (HF.out _)).mono ?_
    rintro e w2 ⟨rfl, rfl⟩
    unfold Bad
    go_wp2_with fail
    exact ⟨rfl, rfl, HB.out _⟩
  | cons t ts1 =>
    obtain ⟨u, hu, hut, hlt⟩ := tok_at h.suf h.short rfl
    rw [← hi] at hu hlt
    obtain ⟨g, rfl, _, hg, hcells⟩ := hrow (by rintro rfl; simp at hlt)
    obtain ⟨d0, d1, d2, d3⟩ := hcells i u hu
    obtain ⟨kd, hkd⟩ : ∃ kd, kd = u.kind := ⟨_, rfl⟩
    have hkt : kd ≠ k := by
      have := hk t ts1 rfl
      rw [← hut] at this
      intro e
      exact this (by rw [← e, hkd]; rfl)
    rw [← hkd] at d0
    have d0 := keepc hb0 d0
    have q1 : ¬ (T.length : Int) ≤ (i : Int) := by omega
    have q2 : decide ((T.length : Int) ≤ (i : Int)) = false := decide_eq_false q1
    have q3 : decide (T.length ≤ i) = false := decide_eq_false (by omega)
    have q4 : (0 : Int) ≤ (i : Int) := by omega
    have q5 : (i : Int) < (T.length : Int) := by omega
    have q6 : ((kd : Int) != (k : Int)) = true := by rw [bne_iff_ne]; omega
    have q7 : (kd != k) = true := by rw [bne_iff_ne]; exact hkt
    clear hcells hrow h hi hu hut hkd hkt H0 hb0 d1 d2 d3 hk
    go_enter Tryd.func81, Tryd.ntmps81
    go_wp2_with fail
    rw [show W.alloc (.cells #[.int .i64 0, .string ⟨#[]⟩, .int .i64 0, .int .i64 0] 32) = W0 from HW.out.symm]
    clear hW0
    go_big_quiet (fail)
    go_wp2_with fail
    refine (fail_any (HF.out _)).mono ?_
    rintro e w2 ⟨rfl, rfl⟩
    unfold Bad
    go_wp2_with fail
    exact ⟨rfl, rfl, HB.out _⟩
set_option maxRecDepth 100000 in
theorem word_yes {t : Tk} (h : RS base r tv T deep ts ns nv W) (ht : ts = t :: ts1) (hk : t.kind = 1) :
    Calls Tryd.prog 63 #[RP r] W fun e W' => e = .returned (.string (BA t.s)) ∧ RS base r tv T deep ts1 ns nv W' ∧ Mv r W W' := by
  have hi := take_yes h ht
  rw [hk] at hi
  have HI := Lib.hid hi
  clear h ht hi hk
  go_enter Tryd.func63, Tryd.ntmps63
  go_wp2_with fail
  refine HI.out.mono ?_
  rintro e w1 ⟨v, rfl, ⟨a, rfl⟩, h1, s1⟩
  have H1 := Lib.hid (And.intro h1 s1)
  clear h1 s1
  go_wp2_with fail
  go_ret
  exact ⟨rfl, H1.out⟩
set_option maxRecDepth 100000 in
theorem number_yes {t : Tk} (h : RS base r tv T deep ts ns nv W) (ht : ts = t :: ts1) (hk : t.kind = 2) :
    Calls Tryd.prog 65 #[RP r] W fun e W' => e = .returned (.int .i64 t.n) ∧ RS base r tv T deep ts1 ns nv W' ∧ Mv r W W' := by
  have hi := take_yes h ht
  rw [hk] at hi
  have HI := Lib.hid hi
  clear h ht hi hk
  go_enter Tryd.func65, Tryd.ntmps65
  go_wp2_with fail
  refine HI.out.mono ?_
  rintro e w1 ⟨v, rfl, ⟨a, rfl⟩, h1, s1⟩
  have H1 := Lib.hid (And.intro h1 s1)
  clear h1 s1
  go_wp2_with fail
  go_ret
  exact ⟨rfl, H1.out⟩
theorem word_no (h : RS base r tv T deep ts ns nv W) (hk : ∀ t ts1, ts = t :: ts1 → t.kind ≠ 1) :
    Calls Tryd.prog 63 #[RP r] W fun e W' => e = Bad T ts.length false ∧ Mv r W W' := by
  have HI := Lib.hid (take_no h hk)
  clear h hk
  go_enter Tryd.func63, Tryd.ntmps63
  go_wp2_with fail
  refine HI.out.mono ?_
  rintro e w1 ⟨rfl, s1⟩
  unfold Bad
  go_wp2_with fail
  exact ⟨rfl, rfl, s1⟩
theorem number_no (h : RS base r tv T deep ts ns nv W) (hk : ∀ t ts1, ts = t :: ts1 → t.kind ≠ 2) :
    Calls Tryd.prog 65 #[RP r] W fun e W' => e = Bad T ts.length false ∧ Mv r W W' := by
  have HI := Lib.hid (take_no h hk)
  clear h hk
  go_enter Tryd.func65, Tryd.ntmps65
  go_wp2_with fail
  refine HI.out.mono ?_
  rintro e w1 ⟨rfl, s1⟩
  unfold Bad
  go_wp2_with fail
  exact ⟨rfl, rfl, s1⟩
theorem Mv.blk {g : Nat} {t : TypeId} {cs : Array Value} (h : Mv r W W') (hb : Blk W g t cs) (h1 : g ≠ r) : Blk W' g t cs := Stp.blk h hb h1 (fun e => by cases e)
theorem choice_cons (w : Bytes) (l : List Bytes) (i : Nat) (ts : List Tk) : choice (w :: l) i ts = match sees w ts with | some ts1 => (i, ts1) | none => choice l (i + 1) ts := rfl
/-- Which of some words is next, from the j-th on. -/
structure ChK (base r deep : Nat) (tv nv : Value) (T : List Tok) (ts : List Tk) (ns : List Nd) (ws : List Bytes) (gl : Nat) (W : World) (j : Nat) (W' : World) : Prop where
  le : j ≤ ws.length
  eq : choice ws 1 ts = choice (ws.drop j) (j + 1) ts
  rs : RS base r tv T deep ts ns nv W'
  mv : Mv r W W'
  blk : Blk W' gl 9 (strsL ws).toArray
set_option maxRecDepth 100000 in
theorem index_any {ws : List Bytes} {gl : Nat} (h : RS base r tv T deep ts ns nv W) (hg : Blk W gl 9 (strsL ws).toArray) (hl : ws.length ≤ 1000) :
    Calls Tryd.prog 100 #[.slice (some ⟨gl, 0, none⟩) ws.length ws.length, .func (.func 64) #[RP r] #[]] W fun e W' =>
      e = .returned (.int .i64 (((choice ws 1 ts).1 : Int) - 1)) ∧ RS base r tv T deep (choice ws 1 ts).2 ns nv W' ∧ Mv r W W' := by
  have hgr : gl ≠ r := by
    intro e
    subst e
    have := block_types hg h.box
    cases this
  have H0 := Lib.hid (show ChK base r deep tv nv T ts ns ws gl W 0 W from ⟨Nat.zero_le _, rfl, h, Stp.refl _ _ _, hg⟩)
  clear h hg
  go_enter Tryd.func100, Tryd.ntmps100
  go_wp2_with fail
  go_loopg [8] (ws.length + 1) (fun gk c wr => ∃ j : Nat, ws.length < j + gk ∧ c = .int .i64 (j : Int) ∧ ChK base r deep tv nv T ts ns ws gl W j wr)
  case atStart => exact ⟨0, by omega, rfl, H0.out⟩
  case round =>
    obtain ⟨j, hgk, rfl, hk⟩ := hrel
    have hle := hk.le
    have HK := Lib.hid hk
    clear hk H0
    by_cases hj : j < ws.length
    · obtain ⟨b, hb⟩ : ∃ b, ws[j]? = some b := ⟨ws[j], List.getElem?_eq_getElem hj⟩
      have c0 : wr.cell? ⟨gl, j, none⟩ = some (.string (BA b)) := by
        rw [HK.out.blk.cell j]
        simp [strsL, hb]
      have hd : ws.drop j = b :: ws.drop (j + 1) := by
        rw [List.drop_eq_getElem_cons hj]
        rw [List.getElem?_eq_getElem hj] at hb
        injection hb with hb
        rw [hb]
      have hch : choice ws 1 ts = choice (b :: ws.drop (j + 1)) (j + 1) ts := by rw [HK.out.eq, hd]
      have k1 : (j : Int) < (ws.length : Int) := by omega
      have k2 : decide ((j : Int) < (ws.length : Int)) = true := decide_eq_true k1
      have k3 : decide (j < ws.length) = true := decide_eq_true hj
      have k4 : (0 : Int) ≤ (j : Int) := by omega
      have v1 : IntKind.i64.wrap ((j : Int) + 1) = (j : Int) + 1 := IntWalk.i64_in _ (by omega)
      rcases hs : sees b ts with _ | ts1
      · have HN := Lib.hid (show choice ws 1 ts = choice (ws.drop (j + 1)) (j + 1 + 1) ts by rw [hch, choice_cons, hs])
        have HS := Lib.hid (sees_no HK.out.rs hs)
        clear hb hd hch hs
        go_wp2_with fail
        refine HS.out.mono ?_
        rintro e w1 ⟨rfl, h1, m1⟩
        have HK2 := Lib.hid (show ChK base r deep tv nv T ts ns ws gl W (j + 1) w1 from ⟨by omega, HN.out, h1, HK.out.mv.trans m1, m1.blk HK.out.blk hgr⟩)
        clear h1 m1
        go_wp2_with fail
        go_roundg (ws.length - j)
        case measure => omega
        case rel => exact ⟨j + 1, by omega, by go_num, HK2.out⟩
      · have HN := Lib.hid (show choice ws 1 ts = (j + 1, ts1) by rw [hch, choice_cons, hs])
        have HS := Lib.hid (sees_yes HK.out.rs hs)
        clear hb hd hch hs
        go_wp2_with fail
        refine HS.out.mono ?_
        rintro e w1 ⟨rfl, h1, m1⟩
        have HF := Lib.hid (And.intro h1 (HK.out.mv.trans m1))
        clear h1 m1
        go_wp2_with fail
        go_ret
        rw [HN.out]
        exact ⟨congrArg (fun x : Int => Ending.returned (.int .i64 x)) (show (j : Int) = (((j + 1 : Nat) : Int) - 1) by omega), HF.out⟩
    · obtain rfl : j = ws.length := by omega
      have k1 : ¬ ((ws.length : Int) < (ws.length : Int)) := by omega
      have k2 : decide ((ws.length : Int) < (ws.length : Int)) = false := decide_eq_false k1
      have k3 : decide (ws.length < ws.length) = false := decide_eq_false (by omega)
      have HN := Lib.hid (show choice ws 1 ts = (0, ts) by rw [HK.out.eq, List.drop_length]; rfl)
      have HF := Lib.hid (And.intro HK.out.rs HK.out.mv)
      clear hj hle hgk
      go_wp2_with fail
      go_ret
      rw [HN.out]
      exact ⟨rfl, HF.out⟩
theorem choice_le : ∀ (ws : List Bytes) (i : Nat) (ts : List Tk), 0 < i → (choice ws i ts).1 < i + ws.length
  | [], i, ts, h => h
  | w :: ws, i, ts, h => by
    unfold choice
    split
    · simp
    · have := choice_le ws (i + 1) ts (by omega)
      simp only [List.length_cons]
      omega
set_option maxRecDepth 100000 in
theorem choice_any {ws : List Bytes} {gl : Nat} (h : RS base r tv T deep ts ns nv W) (hg : Blk W gl 9 (strsL ws).toArray) (hl : ws.length ≤ 1000) :
    Calls Tryd.prog 83 #[RP r, .slice (some ⟨gl, 0, none⟩) ws.length ws.length] W fun e W' =>
      e = .returned (.int .i64 ((choice ws 1 ts).1 : Int)) ∧ RS base r tv T deep (choice ws 1 ts).2 ns nv W' ∧ Mv r W W' := by
  have hmf : ∀ (fn : Fn) (first cap : Array Value) (w : World), (Instr.makeFunc fn first cap).run Tryd.prog w = .ok (.func fn first cap) w := fun _ _ _ _ => rfl
  have HI := Lib.hid (index_any h hg hl)
  have hc := choice_le ws 1 ts (by decide)
  obtain ⟨k, hk⟩ : ∃ k, k = (choice ws 1 ts).1 := ⟨_, rfl⟩
  rw [← hk] at hc
  have HK := Lib.hid hk
  clear h hg hk
  go_enter Tryd.func83, Tryd.ntmps83
  go_wp2_with fail
  refine HI.out.mono ?_
  rintro e w1 ⟨rfl, h1, m1⟩
  rw [← HK.out]
  have HF := Lib.hid (And.intro h1 m1)
  clear h1 m1
  go_wp2_with fail
  go_ret
  exact ⟨congrArg (fun x : Int => Ending.returned (.int .i64 x)) (show 1 + ((k : Int) - 1) = ((choice ws 1 ts).1 : Int) by rw [← HK.out]; omega), HF.out⟩
end
end Go.Proofs.YtlonkcmkgmbkcaaDoor
