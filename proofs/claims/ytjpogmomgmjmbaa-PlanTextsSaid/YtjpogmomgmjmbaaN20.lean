/- The walk of slices.Repeat at one number. What the parts of a split are like. Plain lists, no program. Which part each node of a query is in. Plain lists, no program. Which part a condition is in; a part's nodes stand behind its fetch. Plain lists, no program. -/
import Derived.Test.YtjpogmomgmjmbaaN17
import Derived.Test.YtjpogmomgmjmbaaN18
import Derived.OwnWalk
import Derived.Laws.CopyOwn
import Derived.Test.YtjpogmomgmjmbaaN2
/-! The walk of slices.Repeat at one number. -/
namespace Go.Proofs.Ytjpogmomgmjmbaa
open Go.RowKit LexS ParS BigFrame
set_option maxHeartbeats 4000000
set_option linter.unusedVariables false
set_option linter.unusedSimpArgs false

theorem row_blk {W : World} {b g n : Nat} {e : TypeId} {xs : List Value} (h : W.ownsRow b e 1 (.slice (some ⟨g, 0, none⟩) n n) n xs) (h0 : 0 < n) : Blk W g e xs.toArray ∧ b ≤ g := by
  rcases h.2 with ⟨h1, _⟩ | ⟨g', cap, cur, h1, h2, h3, h4, h5, h6, h7⟩
  · cases h1
  · injection h1 with e1 e2 e3
    injection e1 with e1
    injection e1 with e1
    subst e1
    subst e3
    refine ⟨?_, h2⟩
    have e4 : cur = xs.toArray := by
      rw [← h7]
      have : cur.toList.length ≤ n * 1 := by rw [Array.length_toList]; omega
      first
        | rw [List.take_of_length_le this]
        | rw [List.take_of_length_le (by rw [Array.length_toList]; omega)]
    rw [← e4]
    exact h3
theorem zero_ints (n : Nat) : (madeCells #[Value.int .i64 0] n).toList = List.replicate n (.int .i64 0) := by
  rw [List.eq_replicate_iff]
  refine ⟨by simp [madeCells], fun b hb => ?_⟩
  simp [madeCells, Nat.mod_one] at hb
  exact hb.2.symm
def repL (n k : Nat) : List Value := List.replicate k (.int .i64 (-1)) ++ List.replicate (n - k) (.int .i64 0)
theorem repL_len {n k : Nat} (h : k ≤ n) : (repL n k).length = n := by
  simp [repL]
  omega
theorem repL_splice {n k m : Nat} (h : k + m ≤ n) : splice (repL n k) k (List.replicate m (.int .i64 (-1))) = repL n (k + m) := by
  unfold splice repL
  rw [List.take_append_of_le_length (by simp), List.take_of_length_le (by simp), List.length_replicate, List.drop_append, List.drop_of_length_le (by simp), List.length_replicate, List.nil_append, List.drop_replicate, ← List.append_assoc, List.replicate_append_replicate, show n - k - (k + m - k) = n - (k + m) by omega]
theorem repL_all (n : Nat) : repL n n = intsZ (List.replicate n (-1)) := by simp [repL, intsZ]
theorem repL_get {W : World} {g n k j : Nat} (h : Blk W g 3 (repL n k).toArray) (hj : j < k) : W.cell? ⟨g, j, none⟩ = some (.int .i64 (-1)) := by
  rw [h.cell j]
  have : (repL n k)[j]? = some (.int .i64 (-1)) := by
    unfold repL
    rw [List.getElem?_append_left (by simpa using hj), List.getElem?_replicate, if_pos hj]
  simpa using this
/-- A copy may be done. -/
structure CopyOk (W : World) (dp sp : Option Addr) (g off dLen sLen : Nat) (cs cur : List Value) : Prop where
  len : cs.length = Nat.min sLen dLen
  pos : 0 < cs.length → dp = some ⟨g, off, none⟩ ∧ ∃ ad, sp = some ad ∧ ∀ j v, cs[j]? = some v → W.cell? (ad.add j) = some v
  fit : off + cs.length ≤ cur.length
  one : ∀ v ∈ cs, v.oneCell' = true
theorem step_copy_ok {P : Program} {o : Oper} {a : Act} {w : World} {K : Act → World → Prop} {Q : Exit → Act → World → Prop} (hgd : o.guard = none) (d s : Operand) (dT sT : TypeId)
    (ho : o.op = .call { callee := .builtin .copy, args := #[d, s], argTypes := #[dT, sT] }) (elem : TypeId) (hu : P.underlying dT = some (.slice elem)) (hsz : (P.info? elem).map (·.size) = some 1)
    (dp sp : Option Addr) (dLen dCap sLen sCap : Nat) (hd : a.eval d = .slice dp dLen dCap) (hs : a.eval s = .slice sp sLen sCap)
    (g off : Nat) (cur : List Value) (t : TypeId) (hg : w.heap[g]? = some (.cells cur.toArray t (0, 0))) (cs : List Value) (hok : CopyOk w dp sp g off dLen sLen cs cur) (B : Nat) (w0 : World) (hb : Below B w0 w) (hBg : B ≤ g)
    (h : ∀ w', Hid (w'.heap[g]? = some (.cells (splice cur off cs).toArray t (0, 0))) → Below B w0 w' → K (a.put o.dst (goInt cs.length)) w') : Oper.wp P o a w K Q := by
  have := step_copy_splice (E := True) (ops := #[]) hgd d s dT sT ho elem hu hsz dp sp dLen dCap sLen sCap hd hs g off cur t hg cs hok.len hok.pos hok.fit hok.one B w0 hb hBg h (Q := Q)
  rwa [if_pos (by simp [Region.wanted, hgd])] at this
set_option maxRecDepth 100000 in
theorem repeat_any (n : Nat) (h1 : 1 ≤ n) (h2 : n ≤ 128) {W : World} {bx : Nat} (hx : Blk W bx 3 #[.int .i64 (-1)]) :
    Calls Try.prog 29 #[.slice (some ⟨bx, 0, none⟩) 1 1, .int .i64 (n : Int)] W fun e W' => ∃ g, e = .returned (.slice (some ⟨g, 0, none⟩) n n) ∧ W.heap.size ≤ g ∧ Blk W' g 3 (intsZ (List.replicate n (-1))).toArray ∧ Below W.heap.size W W' := by
  have hm : ∀ w : World, Calls Try.prog 46 #[.int .u64 1, .int .u64 (n : Int)] w fun e w' => e = .returned (.tuple #[.int .u64 0, .int .u64 (n : Int)]) ∧ w' = w := by
    intro w
    have := Try.bits_Mul 1 n (by omega) (by omega) w
    rw [Nat.one_mul, Nat.div_eq_of_lt (by omega), Nat.mod_eq_of_lt (by omega)] at this
    exact this
  have n0 : (0 : Int) ≤ (n : Int) := by omega
  have n1 : ¬ (n : Int) < 0 := by omega
  have n2 : (n : Int) ≤ 128 := by omega
  have HM := Lib.hid hm
  have HX := Lib.hid hx
  obtain ⟨i0, hi0, hz0, hz1, hz2⟩ := info_parts infoInt
  clear hm hx
  go_enter Try.func29, Try.ntmps29
  go_wp2_with fail
  refine (HM.out _).mono ?_
  rintro e w1 ⟨rfl, rfl⟩
  go_wp2_with (refine wpList_make_full _ (by rfl) (.tmp 29) (.tmp 29) 39 (by rfl) w1.heap.size 3 i0 _ 1 (by kernel_rfl) hi0 hz0 hz1 .i64 .i64 (n : Int) (n : Int) n (by rfl) (by rfl) rfl rfl (by rw [hz2]; omega) (by unfold maxLen; omega) (Nat.le_refl _) ?_)
  intro w2 ho hgr
  have hb2 := append_none hgr
  rw [zero_ints] at ho
  obtain ⟨hblk, _⟩ := row_blk ho (by omega)
  obtain ⟨g, hg⟩ : ∃ g, g = w1.heap.size := ⟨_, rfl⟩
  have hxx : w2.cell? ⟨bx, 0, none⟩ = some (.int .i64 (-1)) := (HX.out.kept hb2).cell 0
  have HB := Lib.hid (show Blk w2 g 3 (repL n 0).toArray by rw [hg]; exact hblk)
  have HB2 := Lib.hid hb2
  have hgw : w1.heap.size ≤ g := by omega
  rw [← hg]
  clear ho hgr hblk hg hb2
  have k1 : (List.replicate 1 (Value.int .i64 (-1))).length = Nat.min 1 n := by rw [List.length_replicate]; exact (Nat.min_eq_left h1).symm
  have k2 : 0 < (List.replicate 1 (Value.int .i64 (-1))).length → (some ⟨g, 0, none⟩ : Option Addr) = some ⟨g, 0, none⟩ ∧ ∃ ad, (some ⟨bx, 0, none⟩ : Option Addr) = some ad ∧ ∀ j v, (List.replicate 1 (Value.int .i64 (-1)))[j]? = some v → w2.cell? (ad.add j) = some v := fun _ => ⟨rfl, _, rfl, fun j v hj => by
    have hlt := some_lt hj
    rw [List.length_replicate] at hlt
    obtain rfl : j = 0 := by omega
    cases hj
    exact hxx⟩
  have k3 : 0 + (List.replicate 1 (Value.int .i64 (-1))).length ≤ (repL n 0).length := by rw [repL_len (Nat.zero_le _), List.length_replicate]; omega
  have k4 : ∀ v ∈ List.replicate 1 (Value.int .i64 (-1)), v.oneCell' = true := fun v hv => by rw [(List.mem_replicate.1 hv).2]; rfl
  have K := Lib.hid (And.intro k1 (And.intro k2 (And.intro k3 k4)))
  clear k1 k2 k3 k4
  go_wp2_with (refine wpList_copy_splice (by rfl) (.tmp 31) (.tmp 32) 39 39 (by rfl) 3 (by kernel_rfl) (by kernel_rfl) (some ⟨g, 0, none⟩) (some ⟨bx, 0, none⟩) n n 1 1 (by rfl) (by rfl) g 0 (repL n 0) 3 HB.out (List.replicate 1 (.int .i64 (-1))) K.out.1 K.out.2.1 K.out.2.2.1 K.out.2.2.2 w1.heap.size w1 HB2.out hgw ?_)
  intro w3 hg3 hb3
  have HB3 := Lib.hid hb3
  have HG3 := Lib.hid (show Blk w3 g 3 (repL n 1).toArray by
    have := hg3.out
    rw [show splice (repL n 0) 0 [Value.int .i64 (-1)] = repL n (0 + 1) from repL_splice (n := n) (k := 0) (m := 1) (by omega)] at this
    exact this)
  clear hg3 hb3 hxx
  go_wp2_with fail
  go_loopg [8] (n + 1) (fun gk c wr => ∃ k : Nat, 1 ≤ k ∧ k ≤ n ∧ n < k + gk ∧ c = .int .i64 (k : Int) ∧ Blk wr g 3 (repL n k).toArray ∧ Below w1.heap.size w1 wr)
  case atStart => exact ⟨1, by omega, h1, by omega, rfl, HG3.out, HB3.out⟩
  case round =>
    obtain ⟨k, hk1, hkn, hgk, rfl, hblk, hbw⟩ := hrel
    have HBL := Lib.hid hblk
    have HBW := Lib.hid hbw
    clear hblk hbw
    have k0 : (0 : Int) ≤ (k : Int) := by omega
    have k9 : (k : Int) ≤ (n : Int) := by omega
    by_cases hlt : k < n
    · have q1 : (k : Int) < (n : Int) := by omega
      have q2 : decide ((k : Int) < (n : Int)) = true := decide_eq_true q1
      have q3 : decide (k < n) = true := decide_eq_true hlt
      have hnk : ¬ n = k := by omega
      obtain ⟨m, hm⟩ : ∃ m, m = Nat.min k (n - k) := ⟨_, rfl⟩
      have a1 : m ≤ k := by rw [hm]; exact Nat.min_le_left _ _
      have a2 : m ≤ n - k := by rw [hm]; exact Nat.min_le_right _ _
      have a3 : 1 ≤ m := by rw [hm]; exact Nat.le_min.2 ⟨hk1, by omega⟩
      have k1 : (List.replicate m (Value.int .i64 (-1))).length = Nat.min k (n - k) := by rw [List.length_replicate, hm]
      have k2 : 0 < (List.replicate m (Value.int .i64 (-1))).length → (some ⟨g, k, none⟩ : Option Addr) = some ⟨g, k, none⟩ ∧ ∃ ad, (some ⟨g, 0, none⟩ : Option Addr) = some ad ∧ ∀ j v, (List.replicate m (Value.int .i64 (-1)))[j]? = some v → wr.drew.cell? (ad.add j) = some v := fun _ => ⟨rfl, _, rfl, fun j v hj => by
        have hlt := some_lt hj
        rw [List.length_replicate] at hlt
        rw [List.getElem?_replicate, if_pos hlt] at hj
        cases hj
        rw [Addr.add_lit, Nat.zero_add]
        exact repL_get HBL.out.drew (by omega)⟩
      have k3 : k + (List.replicate m (Value.int .i64 (-1))).length ≤ (repL n k).length := by rw [repL_len hkn, List.length_replicate]; omega
      have k4 : ∀ v ∈ List.replicate m (Value.int .i64 (-1)), v.oneCell' = true := fun v hv => by rw [(List.mem_replicate.1 hv).2]; rfl
      obtain ⟨cs, hcs⟩ : ∃ cs, cs = List.replicate m (Value.int .i64 (-1)) := ⟨_, rfl⟩
      have hcl : cs.length = m := by rw [hcs, List.length_replicate]
      rw [← hcs] at k1 k2 k3 k4
      have K2 := Lib.hid (show CopyOk wr.drew (some ⟨g, k, none⟩) (some ⟨g, 0, none⟩) g k (n - k) k cs (repL n k) from ⟨k1, k2, k3, k4⟩)
      have HCS := Lib.hid (And.intro hcs hcl)
      have w_ : IntKind.i64.wrap ((k : Int) + (m : Int)) = (k : Int) + (m : Int) := IntWalk.i64_in _ (by omega)
      clear k1 k2 k3 k4 hm hcs hcl
      go_wp2_with fail
      refine wp_region_held_drew (S := fun w' => True) (by kernel_rfl) trivial (fun hHeld => ?_)
      refine wpAnyH_take (i := 0) (oi := { dst := some 38, op := Go.Op.move (Go.Operand.tmp 8), type := 3, pos := "slices.go:528", after := #[], guard := none }) (v := ?v1) rfl (by kernel_rfl) (by kernel_rfl) (by kernel_rfl) (fun _ _ _ h => h) (Or.inl ⟨by rfl, ?hy1⟩) (by assumption) ?rest1
      case hy1 =>
        intro w hSw
        (try dsimp only at hSw)
        go_simp
        try with_reducible rfl
      try simp only [Act.put, List.setIfInBounds_toArray, List.set_cons_zero, List.set_cons_succ]
      refine wpAnyH_take (i := 1) (oi := { dst := some 39, op := Go.Op.move (Go.Operand.tmp 7), type := 39, pos := "slices.go:528", after := #[], guard := none }) (v := ?v2) rfl (by kernel_rfl) (by kernel_rfl) (by kernel_rfl) (fun _ _ _ h => h) (Or.inl ⟨by rfl, ?hy2⟩) (by assumption) ?rest2
      case hy2 =>
        intro w hSw
        (try dsimp only at hSw)
        go_simp
        try with_reducible rfl
      try simp only [Act.put, List.setIfInBounds_toArray, List.set_cons_zero, List.set_cons_succ]
      refine wpAnyH_take (i := 2) (oi := { dst := some 40, op := Go.Op.move (Go.Operand.tmp 8), type := 3, pos := "slices.go:528", after := #[], guard := none }) (v := ?v3) rfl (by kernel_rfl) (by kernel_rfl) (by kernel_rfl) (fun _ _ _ h => h) (Or.inl ⟨by rfl, ?hy3⟩) (by assumption) ?rest3
      case hy3 =>
        intro w hSw
        (try dsimp only at hSw)
        go_simp
        try with_reducible rfl
      try simp only [Act.put, List.setIfInBounds_toArray, List.set_cons_zero, List.set_cons_succ]
      refine wpAnyH_take (i := 3) (oi := { dst := some 41, op := Go.Op.slice 39 (Go.Operand.tmp 39) (some (Go.Operand.tmp 40)) none none, type := 39, pos := "slices.go:528", after := #[{ on := 1, ground := Go.Ground.data }, { on := 2, ground := Go.Ground.data }], guard := none }) (v := ?v4) rfl (by kernel_rfl) (by kernel_rfl) (by kernel_rfl) (fun _ _ _ h => h) (Or.inl ⟨by rfl, ?hy4⟩) (by assumption) ?rest4
      case hy4 =>
        intro w hSw
        (try dsimp only at hSw)
        go_simp
        try with_reducible rfl
      try simp only [Act.put, List.setIfInBounds_toArray, List.set_cons_zero, List.set_cons_succ]
      refine wpAnyH_take (i := 4) (oi := { dst := some 42, op := Go.Op.move (Go.Operand.tmp 7), type := 39, pos := "slices.go:528", after := #[], guard := none }) (v := ?v5) rfl (by kernel_rfl) (by kernel_rfl) (by kernel_rfl) (fun _ _ _ h => h) (Or.inl ⟨by rfl, ?hy5⟩) (by assumption) ?rest5
      case hy5 =>
        intro w hSw
        (try dsimp only at hSw)
        go_simp
        try with_reducible rfl
      try simp only [Act.put, List.setIfInBounds_toArray, List.set_cons_zero, List.set_cons_succ]
      refine wpAnyH_take (i := 5) (oi := { dst := some 43, op := Go.Op.move (Go.Operand.tmp 8), type := 3, pos := "slices.go:528", after := #[], guard := none }) (v := ?v6) rfl (by kernel_rfl) (by kernel_rfl) (by kernel_rfl) (fun _ _ _ h => h) (Or.inl ⟨by rfl, ?hy6⟩) (by assumption) ?rest6
      case hy6 =>
        intro w hSw
        (try dsimp only at hSw)
        go_simp
        try with_reducible rfl
      try simp only [Act.put, List.setIfInBounds_toArray, List.set_cons_zero, List.set_cons_succ]
      refine wpAnyH_take (i := 6) (oi := { dst := some 44, op := Go.Op.slice 39 (Go.Operand.tmp 42) none (some (Go.Operand.tmp 43)) none, type := 39, pos := "slices.go:528", after := #[{ on := 4, ground := Go.Ground.data }, { on := 5, ground := Go.Ground.data }], guard := none }) (v := ?v7) rfl (by kernel_rfl) (by kernel_rfl) (by kernel_rfl) (fun _ _ _ h => h) (Or.inl ⟨by rfl, ?hy7⟩) (by assumption) ?rest7
      case hy7 =>
        intro w hSw
        (try dsimp only at hSw)
        go_simp
        try with_reducible rfl
      try simp only [Act.put, List.setIfInBounds_toArray, List.set_cons_zero, List.set_cons_succ]
      refine wpAnyH_ready (rs := [7]) (by kernel_rfl) (by simp) ?_
      refine AllReadyH.cons (o := { dst := some 45, op := Go.Op.call { callee := Go.Callee.builtin Go.Builtin.copy, args := #[Go.Operand.tmp 41, Go.Operand.tmp 44], argTypes := #[39, 39] }, type := 3, pos := "slices.go:528", after := #[{ on := 3, ground := Go.Ground.data }, { on := 6, ground := Go.Ground.data }], guard := none }) rfl (fun K hK => ?_) ?_
      · refine step_copy_ok (by rfl) (.tmp 41) (.tmp 44) 39 39 (by rfl) 3 (by kernel_rfl) (by kernel_rfl) (some ⟨g, k, none⟩) (some ⟨g, 0, none⟩) (n - k) (n - k) k n (by rfl) (by rfl) g k (repL n k) 3 HBL.out.drew cs K2.out w1.heap.size w1 HBW.out.drew hgw ?_
        intro w4 hg4 hb4
        have HB4 := Lib.hid hb4
        have HG4 := Lib.hid (show Blk w4 g 3 (repL n (k + m)).toArray by
          have := hg4.out
          rw [HCS.out.1, repL_splice (by omega)] at this
          exact this)
        rw [HCS.out.2]
        clear hg4 hb4
        refine hK.out _ _ ?_ (fun hHeld => ?_)
        · exact trivial
        · clear hK K
          try simp only [Act.put, List.setIfInBounds_toArray, List.set_cons_zero, List.set_cons_succ]
          refine wpAnyH_take (i := 8) (oi := { dst := some 46, op := Go.Op.binOp Go.BinOp.add 3 (Go.Operand.tmp 38) (Go.Operand.tmp 45) 3, type := 3, pos := "slices.go:528", after := #[{ on := 0, ground := Go.Ground.data }, { on := 7, ground := Go.Ground.data }], guard := none }) (v := ?v9) rfl (by kernel_rfl) (by kernel_rfl) (by kernel_rfl) (fun _ _ _ h => h) (Or.inl ⟨by rfl, ?hy9⟩) (by assumption) ?rest9
          case hy9 =>
            intro w hSw
            (try dsimp only at hSw)
            go_simp
            try with_reducible rfl
          try simp only [Act.put, List.setIfInBounds_toArray, List.set_cons_zero, List.set_cons_succ]
          refine wpAnyH_take (i := 9) (oi := { dst := some 8, op := Go.Op.assign (Go.Operand.tmp 46), type := 3, pos := "slices.go:528", after := #[{ on := 8, ground := Go.Ground.data }, { on := 7, ground := Go.Ground.chain }, { on := 0, ground := Go.Ground.phase }, { on := 1, ground := Go.Ground.phase }, { on := 2, ground := Go.Ground.phase }, { on := 3, ground := Go.Ground.phase }, { on := 4, ground := Go.Ground.phase }, { on := 5, ground := Go.Ground.phase }, { on := 6, ground := Go.Ground.phase }, { on := 7, ground := Go.Ground.phase }, { on := 8, ground := Go.Ground.phase }], guard := none }) (v := ?v10) rfl (by kernel_rfl) (by kernel_rfl) (by kernel_rfl) (fun _ _ _ h => h) (Or.inl ⟨by rfl, ?hy10⟩) (by assumption) ?rest10
          case hy10 =>
            intro w hSw
            (try dsimp only at hSw)
            go_simp
            try with_reducible rfl
          try simp only [Act.put, List.setIfInBounds_toArray, List.set_cons_zero, List.set_cons_succ]
          refine wpAnyH_done (by kernel_rfl) ?_ _
          go_wp2_with fail
          go_roundg (n - (k + m) + 1)
          case measure => omega
          case rel => exact ⟨k + m, by omega, by omega, by omega, by go_num, HG4.out, HB4.out⟩
      exact AllReadyH.nil
    · obtain rfl : k = n := by omega
      have q1 : ¬ (k : Int) < (k : Int) := by omega
      have q2 : decide ((k : Int) < (k : Int)) = false := decide_eq_false q1
      go_wp2_with fail
      go_ret
      exact ⟨g, rfl, hgw, by rw [← repL_all]; exact HBL.out, HBW.out⟩
end Go.Proofs.Ytjpogmomgmjmbaa

/-! What the parts of a split are like. Plain lists, no program. -/
namespace Go.Proofs.Ytjpogmomgmjmbaa.ParS
open LexS
set_option linter.unusedVariables false

theorem kindAt_of {ns : List Nd} {a : Nat} {nd : Nd} (h : ns[a]? = some nd) : kindAt ns a = nd.kind := by
  unfold kindAt
  rw [h]
  rfl
section
variable {ns : List Nd} (ht : Tree 0 ns) (hf : Fits 0 ns) {push : Bool}
include ht
theorem goes_true {a : Nat} {e : Bool} (h : goesP ns push a = (true, e)) : ∃ p nd, (byS ns)[a]? = some ((p : Nat) : Int) ∧ ns[p]? = some nd ∧ nd.l[0]? = some a ∧ 2 ≤ nd.kind ∧ nd.kind ≤ 6 ∧ upP ns a = p ∧ a < p ∧ p < ns.length := by
  unfold goesP at h
  rcases hb : (byS ns)[a]? with _ | q
  · rw [hb] at h; cases h
  · rw [hb] at h
    dsimp only at h
    have ha : a < ns.length := by
      have := some_lt hb
      rwa [show (byS ns).length = ns.length from byP_len ns _] at this
    by_cases hq : q < 0
    · rw [if_pos hq] at h; cases h
    · rw [if_neg hq] at h
      rcases hn : ns[q.toNat]? with _ | nd
      · rw [hn] at h; cases h
      · rw [hn] at h
        dsimp only at h
        by_cases hl : nd.l[0]? = some a
        · rw [if_pos hl] at h
          have hk : 2 ≤ nd.kind ∧ nd.kind ≤ 6 := by
            by_cases h2 : nd.kind = 2
            · omega
            · rw [if_neg h2] at h
              by_cases h3 : nd.kind = 3 ∨ nd.kind = 4
              · omega
              · rw [if_neg h3] at h
                by_cases h5 : nd.kind = 5 ∨ nd.kind = 6
                · omega
                · rw [if_neg h5] at h; cases h
          have hlt := names_lt ht (p := q.toNat) (a := a) ⟨nd, hn, List.mem_of_getElem? hl⟩
          refine ⟨q.toNat, nd, by rw [Int.toNat_of_nonneg (by omega)], hn, hl, hk.1, hk.2, ?_, hlt.1, hlt.2.1⟩
          unfold upP
          rw [hb]
          rfl
        · rw [if_neg hl] at h; cases h
theorem chain_facts : ∀ (f a : Nat) (e : Bool), a < ns.length → (chainP ns push f a e).head? = some a ∧ (∀ x ∈ chainP ns push f a e, a ≤ x ∧ x < ns.length) ∧ (chainP ns push f a e).Pairwise (· < ·) ∧ ∀ x ∈ chainP ns push f a e, x = a ∨ (2 ≤ kindAt ns x ∧ kindAt ns x ≤ 6)
  | 0, a, e, ha => by
    refine ⟨rfl, fun x hx => ?_, List.pairwise_singleton _ _, fun x hx => ?_⟩
    · rw [show chainP ns push 0 a e = [a] from rfl, List.mem_singleton] at hx
      omega
    · rw [show chainP ns push 0 a e = [a] from rfl, List.mem_singleton] at hx
      exact .inl hx
  | f + 1, a, true, ha => by
    refine ⟨rfl, fun x hx => ?_, List.pairwise_singleton _ _, fun x hx => ?_⟩
    · rw [show chainP ns push (f + 1) a true = [a] from rfl, List.mem_singleton] at hx
      omega
    · rw [show chainP ns push (f + 1) a true = [a] from rfl, List.mem_singleton] at hx
      exact .inl hx
  | f + 1, a, false, ha => by
    rcases hg : goesP ns push a with ⟨on, e⟩
    cases on with
    | false =>
      have e1 : chainP ns push (f + 1) a false = [a] := by
        show (match goesP ns push a with | (true, e) => _ | (false, _) => [a]) = _
        rw [hg]
      rw [e1]
      exact ⟨rfl, fun x hx => (by rw [List.mem_singleton] at hx; omega), List.pairwise_singleton _ _, fun x hx => (by rw [List.mem_singleton] at hx; exact .inl hx)⟩
    | true =>
      have e1 : chainP ns push (f + 1) a false = a :: chainP ns push f (upP ns a) e := by
        show (match goesP ns push a with | (true, e) => _ | (false, _) => [a]) = _
        rw [hg]
      obtain ⟨p, nd, _, h2, _, h4, h5, h6, h7, h8⟩ := goes_true ht hg
      obtain ⟨k1, k2, k3, k4⟩ := chain_facts f (upP ns a) e (by rw [h6]; exact h8)
      rw [e1]
      refine ⟨rfl, fun x hx => ?_, List.pairwise_cons.2 ⟨fun x hx => ?_, k3⟩, fun x hx => ?_⟩
      · rcases List.mem_cons.1 hx with rfl | hx
        · omega
        · have := k2 x hx
          omega
      · have := k2 x hx
        omega
      · rcases List.mem_cons.1 hx with rfl | hx
        · exact .inl rfl
        · right
          rcases k4 x hx with rfl | h
          · rw [h6, kindAt_of h2]
            exact ⟨h4, h5⟩
          · exact h
include hf
/-- A part stays ahead of the next fetch. -/
theorem chain_before {j : Nat} (hj : kindAt ns j = 1) : ∀ (f a : Nat) (e : Bool), a < j → ∀ x ∈ chainP ns push f a e, x < j
  | 0, a, e, ha => fun x hx => by
    rw [show chainP ns push 0 a e = [a] from rfl, List.mem_singleton] at hx
    omega
  | f + 1, a, true, ha => fun x hx => by
    rw [show chainP ns push (f + 1) a true = [a] from rfl, List.mem_singleton] at hx
    omega
  | f + 1, a, false, ha => fun x hx => by
    rcases hg : goesP ns push a with ⟨on, e⟩
    cases on with
    | false =>
      have e1 : chainP ns push (f + 1) a false = [a] := by
        show (match goesP ns push a with | (true, e) => _ | (false, _) => [a]) = _
        rw [hg]
      rw [e1, List.mem_singleton] at hx
      omega
    | true =>
      have e1 : chainP ns push (f + 1) a false = a :: chainP ns push f (upP ns a) e := by
        show (match goesP ns push a with | (true, e) => _ | (false, _) => [a]) = _
        rw [hg]
      obtain ⟨p, nd, _, h2, h3, h4, h5, h6, h7, h8⟩ := goes_true ht hg
      have hp : upP ns a < j := by
        rw [h6]
        rcases Nat.lt_trichotomy p j with h | h | h
        · exact h
        · rw [← h, kindAt_of h2] at hj
          omega
        · obtain ⟨c, hc⟩ : ∃ c, ns[j]? = some c := ⟨ns[j], List.getElem?_eq_getElem (by omega)⟩
          have := (hf p nd h2).between a h3 h4 h5 j c (by omega) h hc
          rw [kindAt_of hc] at hj
          omega
      rw [e1] at hx
      rcases List.mem_cons.1 hx with rfl | hx
      · exact ha
      · exact chain_before hj f _ e hp x hx
end
end Go.Proofs.Ytjpogmomgmjmbaa.ParS

/-! Which part each node of a query is in. Plain lists, no program. -/
namespace Go.Proofs.Ytjpogmomgmjmbaa.ParS
open LexS
set_option linter.unusedVariables false

theorem setAll_len (k : Int) : ∀ (l : List Nat) (p : List Int), (setAll k l p).length = p.length
  | [], p => rfl
  | a :: l, p => by
    show (setAll k l (p.set a k)).length = _
    rw [setAll_len k l, List.length_set]
theorem setAll_get (k : Int) : ∀ (l : List Nat) (p : List Int) (x : Nat), x < p.length → (setAll k l p)[x]? = if x ∈ l then some k else p[x]?
  | [], p, x, h => by simp [setAll]
  | b :: l, p, x, h => by
    show (setAll k l (p.set b k))[x]? = _
    rw [setAll_get k l _ x (by rw [List.length_set]; exact h)]
    by_cases h1 : x ∈ l
    · rw [if_pos h1, if_pos (by simp [h1])]
    · rw [if_neg h1]
      by_cases h2 : x = b
      · subst h2
        rw [if_pos (by simp), List.getElem?_set_self h]
      · rw [if_neg (by simp [h1, h2]), List.getElem?_set_ne (fun e => h2 e.symm)]
/-- The fetches among the first i nodes. -/
def fets (ns : List Nd) : Nat → List Nat
  | 0 => []
  | i + 1 => if kindAt ns i = 1 then fets ns i ++ [i] else fets ns i
theorem fets_mem (ns : List Nd) : ∀ (i j : Nat), j ∈ fets ns i ↔ j < i ∧ kindAt ns j = 1
  | 0, j => by simp [fets]
  | i + 1, j => by
    unfold fets
    by_cases h : kindAt ns i = 1
    · rw [if_pos h, List.mem_append, fets_mem ns i, List.mem_singleton]
      constructor
      · rintro (h1 | rfl)
        · exact ⟨by omega, h1.2⟩
        · exact ⟨by omega, h⟩
      · rintro ⟨h1, h2⟩
        by_cases e : j = i
        · exact .inr e
        · exact .inl ⟨by omega, h2⟩
    · rw [if_neg h, fets_mem ns i]
      constructor
      · rintro ⟨h1, h2⟩
        exact ⟨by omega, h2⟩
      · rintro ⟨h1, h2⟩
        refine ⟨?_, h2⟩
        by_cases e : j = i
        · rw [e] at h2
          exact absurd h2 h
        · omega
theorem fets_pairwise (ns : List Nd) : ∀ i, (fets ns i).Pairwise (· < ·)
  | 0 => List.Pairwise.nil
  | i + 1 => by
    unfold fets
    by_cases h : kindAt ns i = 1
    · rw [if_pos h]
      refine List.pairwise_append.2 ⟨fets_pairwise ns i, List.pairwise_singleton _ _, fun a ha b hb => ?_⟩
      rw [List.mem_singleton] at hb
      have := ((fets_mem ns i a).1 ha).1
      omega
    · rw [if_neg h]
      exact fets_pairwise ns i
def lastOf (ns : List Nd) (push : Bool) (j : Nat) : Nat := (chainS ns push j).getLast?.getD j
section
variable {ns : List Nd} {push : Bool}
theorem fetch_snd : ∀ i, (fetchP ns push i).2 = (fets ns i).map (lastOf ns push)
  | 0 => rfl
  | i + 1 => by
    unfold fetchP fets
    by_cases h : kindAt ns i = 1
    · rw [if_pos h, if_pos h, List.map_append, ← fetch_snd i]
      rfl
    · rw [if_neg h, if_neg h]
      exact fetch_snd i
theorem fetch_len : ∀ i, (fetchP ns push i).1.length = ns.length
  | 0 => by simp [fetchP]
  | i + 1 => by
    unfold fetchP
    by_cases h : kindAt ns i = 1
    · rw [if_pos h]
      show (setAll _ _ _).length = _
      rw [setAll_len, fetch_len i]
    · rw [if_neg h]
      exact fetch_len i
variable (ht : Tree 0 ns) (hf : Fits 0 ns)
include ht hf
/-- Each node of a fetch's chain is in its part, and no other one is in any. -/
theorem fetch_fst : ∀ i, i ≤ ns.length → (∀ (k j : Nat), (fets ns i)[k]? = some j → ∀ x ∈ chainS ns push j, (fetchP ns push i).1[x]? = some (k : Int)) ∧ ∀ x, x < ns.length → (∀ j ∈ fets ns i, x ∉ chainS ns push j) → (fetchP ns push i).1[x]? = some (-1)
  | 0, _ => ⟨fun k j h => by simp [fets] at h, fun x hx _ => by simp [fetchP, hx]⟩
  | i + 1, hi => by
    obtain ⟨h1, h2⟩ := fetch_fst i (by omega)
    by_cases h : kindAt ns i = 1
    · have e1 : fetchP ns push (i + 1) = (setAll ((fetchP ns push i).2.length : Int) (chainS ns push i) (fetchP ns push i).1, (fetchP ns push i).2 ++ [(chainS ns push i).getLast?.getD i]) := if_pos h
      have e2 : fets ns (i + 1) = fets ns i ++ [i] := if_pos h
      have e3 : (fetchP ns push i).2.length = (fets ns i).length := by rw [fetch_snd, List.length_map]
      obtain ⟨_, c2, _, _⟩ := chain_facts (push := push) ht ns.length i false (by omega)
      rw [e1, e2]
      refine ⟨fun k j hk x hx => ?_, fun x hx hno => ?_⟩
      · have hxl : x < ns.length := by
          have hj : j < ns.length := by
            have : j ∈ fets ns (i + 1) := by rw [e2]; exact List.mem_of_getElem? hk
            have := ((fets_mem ns (i + 1) j).1 this).1
            omega
          exact ((chain_facts (push := push) ht ns.length j false hj).2.1 x hx).2
        rw [setAll_get _ _ _ x (by rw [fetch_len]; exact hxl)]
        by_cases hk2 : k < (fets ns i).length
        · rw [List.getElem?_append_left hk2] at hk
          have hj := (fets_mem ns i j).1 (List.mem_of_getElem? hk)
          have hb : x < i := chain_before ht hf h ns.length j false hj.1 x hx
          rw [if_neg (fun hin => by have := (c2 x hin).1; omega)]
          exact h1 k j hk x hx
        · rw [List.getElem?_append_right (by omega)] at hk
          have hk0 : k - (fets ns i).length = 0 := by
            have := (List.getElem?_eq_some_iff.1 hk).1
            simp at this
            omega
          rw [hk0] at hk
          simp only [List.getElem?_cons_zero, Option.some.injEq] at hk
          subst hk
          rw [if_pos hx, e3, show k = (fets ns i).length by omega]
      · rw [setAll_get _ _ _ x (by rw [fetch_len]; exact hx), if_neg (hno i (by simp))]
        exact h2 x hx fun j hj => hno j (by simp [hj])
    · have e1 : fetchP ns push (i + 1) = fetchP ns push i := if_neg h
      have e2 : fets ns (i + 1) = fets ns i := if_neg h
      rw [e1, e2]
      exact ⟨h1, h2⟩
end
end Go.Proofs.Ytjpogmomgmjmbaa.ParS

/-! Which part a condition is in; a part's nodes stand behind its fetch. Plain lists, no program. -/
namespace Go.Proofs.Ytjpogmomgmjmbaa.ParS
open LexS
set_option linter.unusedVariables false

theorem condP_len (ns : List Nd) : ∀ (i : Nat) (p : List Int), (condP ns i p).length = p.length
  | 0, p => rfl
  | i + 1, p => by
    show (condP ns i _).length = _
    rw [condP_len ns i]
    split
    · rw [List.length_set]
    · rfl
/-- What the way down from i leaves. -/
theorem condP_spec {ns : List Nd} (hup : ∀ x, x < ns.length → 11 ≤ kindAt ns x → x < upP ns x ∧ upP ns x < ns.length) : ∀ (i : Nat), i ≤ ns.length → ∀ (p : List Int), p.length = ns.length →
    (∀ x, i ≤ x → (condP ns i p)[x]? = p[x]?) ∧ (∀ x, x < i → kindAt ns x < 11 → (condP ns i p)[x]? = p[x]?) ∧ ∀ x, x < i → 11 ≤ kindAt ns x → (condP ns i p)[x]? = (condP ns i p)[upP ns x]?
  | 0, _, p, _ => ⟨fun x _ => rfl, fun x h => by omega, fun x h => by omega⟩
  | i + 1, hi, p, hp => by
    by_cases h : 11 ≤ kindAt ns i
    · have e : condP ns (i + 1) p = condP ns i (p.set i ((p[upP ns i]?).getD (-1))) := by
        show condP ns i (if 11 ≤ kindAt ns i then _ else _) = _
        rw [if_pos h]
      obtain ⟨a, b, c⟩ := condP_spec hup i (by omega) (p.set i ((p[upP ns i]?).getD (-1))) (by rw [List.length_set]; exact hp)
      obtain ⟨u1, u2⟩ := hup i (by omega) h
      rw [e]
      refine ⟨fun x hx => ?_, fun x hx hk => ?_, fun x hx hk => ?_⟩
      · rw [a x (by omega), List.getElem?_set_ne (by omega)]
      · by_cases hxi : x = i
        · subst hxi; omega
        · rw [b x (by omega) hk, List.getElem?_set_ne (by omega)]
      · by_cases hxi : x = i
        · subst hxi
          rw [a x (Nat.le_refl _), a (upP ns x) (by omega), List.getElem?_set_self (by omega), List.getElem?_set_ne (by omega)]
          obtain ⟨v, hv⟩ : ∃ v, p[upP ns x]? = some v := ⟨p[upP ns x], List.getElem?_eq_getElem (by omega)⟩
          rw [hv]
          rfl
        · exact c x (by omega) hk
    · have e : condP ns (i + 1) p = condP ns i p := by
        show condP ns i (if 11 ≤ kindAt ns i then _ else _) = _
        rw [if_neg h]
      obtain ⟨a, b, c⟩ := condP_spec hup i (by omega) p hp
      rw [e]
      refine ⟨fun x hx => a x (by omega), fun x hx hk => ?_, fun x hx hk => ?_⟩
      · by_cases hxi : x = i
        · subst hxi
          exact a x (Nat.le_refl _)
        · exact b x (by omega) hk
      · by_cases hxi : x = i
        · subst hxi; omega
        · exact c x (by omega) hk
/-- A query's nodes: a tree that fits, whose last node is no condition. -/
structure QNs (ns : List Nd) : Prop where
  tree : Tree 0 ns
  fits : Fits 0 ns
  last : kindAt ns (ns.length - 1) < 11
section
variable {ns : List Nd} (hq : QNs ns) {push : Bool}
include hq
theorem up_of {x : Nat} (h : x + 1 < ns.length) : ∃ nd, ns[upP ns x]? = some nd ∧ x ∈ nd.l ∧ x < upP ns x ∧ upP ns x < ns.length ∧ (byS ns)[x]? = some ((upP ns x : Nat) : Int) := by
  obtain ⟨p, ⟨nd, h1, h2⟩, h3, h4, h5⟩ := by_end hq.tree h
  have e : upP ns x = p := by
    unfold upP
    rw [h5]
    simp
  rw [e]
  exact ⟨nd, h1, h2, h3, h4, h5⟩
theorem cond_not_last {x : Nat} (hx : x < ns.length) (hk : 11 ≤ kindAt ns x) : x + 1 < ns.length := by
  have h := hq.last
  by_cases e : x = ns.length - 1
  · rw [e] at hk; omega
  · omega
theorem cond_up {x : Nat} (hx : x < ns.length) (hk : 11 ≤ kindAt ns x) : x < upP ns x ∧ upP ns x < ns.length := by
  obtain ⟨nd, _, _, h3, h4, _⟩ := up_of hq (cond_not_last hq hx hk)
  exact ⟨h3, h4⟩
omit hq in
theorem part_len : (partS ns push).length = ns.length := by
  unfold partS
  rw [condP_len, fetch_len]
theorem part_rows {x : Nat} (hx : x < ns.length) (hk : kindAt ns x < 11) : (partS ns push)[x]? = (fetchP ns push ns.length).1[x]? :=
  (condP_spec (fun x hx hk => cond_up hq hx hk) ns.length (Nat.le_refl _) _ (fetch_len _)).2.1 x hx hk
theorem part_cond {x : Nat} (hx : x < ns.length) (hk : 11 ≤ kindAt ns x) : (partS ns push)[x]? = (partS ns push)[upP ns x]? :=
  (condP_spec (fun x hx hk => cond_up hq hx hk) ns.length (Nat.le_refl _) _ (fetch_len _)).2.2 x hx hk
/-- The where that a condition stands in. -/
theorem cond_root : ∀ (m x : Nat), ns.length ≤ x + m → x < ns.length → 11 ≤ kindAt ns x →
    ∃ s a nd, ns[s]? = some nd ∧ nd.kind = 2 ∧ nd.l[0]? = some a ∧ a < x ∧ x < s ∧ s < ns.length ∧ (partS ns push)[x]? = (partS ns push)[s]? ∧ kindAt ns a < 11
  | 0, x, hm, hx, hk => by omega
  | m + 1, x, hm, hx, hk => by
    obtain ⟨nd, h1, h2, h3, h4, _⟩ := up_of hq (cond_not_last hq hx hk)
    obtain ⟨c, hc⟩ : ∃ c, ns[x]? = some c := ⟨ns[x], List.getElem?_eq_getElem hx⟩
    rw [kindAt_of hc] at hk
    obtain ⟨j, hj⟩ := List.getElem?_of_mem h2
    have hfit := hq.fits _ _ h1
    obtain ⟨_, _, c', hc', hjr⟩ := hfit.below j x hj
    rw [Nat.sub_zero] at hc'
    rw [hc] at hc'
    injection hc' with hc'
    subst hc'
    have hj2 : rowsOf nd.kind ≤ j := hjr.2 hk
    have hjl := (List.getElem?_eq_some_iff.1 hj).1
    rw [hfit.len] at hjl
    by_cases hk2 : 11 ≤ nd.kind
    · obtain ⟨s, a, sd, s1, s2, s3, s4, s5, s6, s7, s8⟩ := cond_root m (upP ns x) (by omega) h4 (by rw [kindAt_of h1]; exact hk2)
      refine ⟨s, a, sd, s1, s2, s3, ?_, by omega, s6, ?_, s8⟩
      · rcases Nat.lt_trichotomy a x with h | h | h
        · exact h
        · rw [h, kindAt_of hc] at s8
          omega
        · obtain ⟨ca, hca⟩ : ∃ ca, ns[a]? = some ca := ⟨ns[a], List.getElem?_eq_getElem (by omega)⟩
          have := hfit.under hk2 j x hj a ca (by omega) s4 hca
          rw [kindAt_of hca] at s8
          omega
      · rw [part_cond hq hx (by rw [kindAt_of hc]; exact hk)]
        exact s7
    · have hkd : nd.kind = 2 := by
        have h5 := hfit.kd
        unfold known at h5
        unfold rowsOf at hj2 hjl
        unfold condsOf at hjl
        by_cases e2 : nd.kind = 2
        · exact e2
        · exfalso
          by_cases e6 : 2 ≤ nd.kind ∧ nd.kind ≤ 6
          · rw [if_pos e6] at hj2 hjl
            rw [if_neg (by omega), if_neg (by omega)] at hjl
            omega
          · rw [if_neg e6] at hj2 hjl
            by_cases e7 : nd.kind = 7 ∨ nd.kind = 8
            · rw [if_pos e7] at hj2 hjl
              rw [if_neg (by omega), if_neg (by omega)] at hjl
              omega
            · rw [if_neg e7, if_neg (by omega), if_neg (by omega)] at hjl
              omega
      have hj1 : j = 1 := by
        rw [hkd] at hj2 hjl
        have e1 : rowsOf 2 = 1 := rfl
        have e2 : condsOf 2 = 1 := rfl
        omega
      subst hj1
      have h0 : 0 < nd.l.length := by rw [hfit.len, hkd]; decide
      obtain ⟨a, ha⟩ : ∃ a, nd.l[0]? = some a := ⟨nd.l[0], List.getElem?_eq_getElem h0⟩
      have hax := hfit.order a x ha hj
      obtain ⟨_, _, ca, hca, har⟩ := hfit.below 0 a ha
      rw [Nat.sub_zero] at hca
      refine ⟨upP ns x, a, nd, h1, hkd, ha, hax, h3, h4, part_cond hq hx (by rw [kindAt_of hc]; exact hk), ?_⟩
      rw [kindAt_of hca]
      have e1 : rowsOf nd.kind = 1 := by rw [hkd]; rfl
      rw [e1] at har
      omega
end
/-- A chain's node behind its first one was come to from the one that it names first. -/
theorem chain_prev {ns : List Nd} (ht : Tree 0 ns) {push : Bool} : ∀ (f a : Nat) (e : Bool), a < ns.length → ∀ s ∈ chainP ns push f a e, s ≠ a → ∃ y ∈ chainP ns push f a e, ∃ nd, ns[s]? = some nd ∧ nd.l[0]? = some y
  | 0, a, e, ha => fun s hs hne => by
    rw [show chainP ns push 0 a e = [a] from rfl, List.mem_singleton] at hs
    exact absurd hs hne
  | f + 1, a, true, ha => fun s hs hne => by
    rw [show chainP ns push (f + 1) a true = [a] from rfl, List.mem_singleton] at hs
    exact absurd hs hne
  | f + 1, a, false, ha => fun s hs hne => by
    rcases hg : goesP ns push a with ⟨on, e⟩
    cases on with
    | false =>
      have e1 : chainP ns push (f + 1) a false = [a] := by
        show (match goesP ns push a with | (true, e) => _ | (false, _) => [a]) = _
        rw [hg]
      rw [e1, List.mem_singleton] at hs
      exact absurd hs hne
    | true =>
      have e1 : chainP ns push (f + 1) a false = a :: chainP ns push f (upP ns a) e := by
        show (match goesP ns push a with | (true, e) => _ | (false, _) => [a]) = _
        rw [hg]
      obtain ⟨p, nd, _, h2, h3, h4, h5, h6, h7, h8⟩ := goes_true ht hg
      rw [e1] at hs ⊢
      rcases List.mem_cons.1 hs with rfl | hs
      · exact absurd rfl hne
      · by_cases hsu : s = upP ns a
        · rw [hsu, h6]
          exact ⟨a, by simp, nd, h2, h3⟩
        · obtain ⟨y, hy, nd2, h9, h10⟩ := chain_prev ht f (upP ns a) e (by rw [h6]; exact h8) s hs hsu
          exact ⟨y, List.mem_cons_of_mem _ hy, nd2, h9, h10⟩
end Go.Proofs.Ytjpogmomgmjmbaa.ParS
