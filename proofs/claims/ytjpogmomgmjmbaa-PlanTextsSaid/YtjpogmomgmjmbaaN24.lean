/- The walk of the reference's ends. -/
import Derived.Test.YtjpogmomgmjmbaaN23
/-! The walk of the reference's ends. -/
namespace Go.Proofs.Ytjpogmomgmjmbaa
open Go.RowKit LexS ParS BigFrame
set_option maxHeartbeats 4000000
set_option linter.unusedVariables false
set_option linter.unusedSimpArgs false
attribute [local go_sem] World.cell?_alloc_some cell_drewN_new free_drewN_new cell_drew_new free_drew_new

def lastP (ns : List Nd) (push : Bool) (f a : Nat) (e : Bool) : Nat := (chainP ns push f a e).getLast?.getD a
section
variable {ns : List Nd} {push : Bool} {f a : Nat}
theorem chain_head (ns : List Nd) (push : Bool) (f a : Nat) (e : Bool) : ∃ l, chainP ns push f a e = a :: l := by
  cases f with
  | zero => exact ⟨[], rfl⟩
  | succ f =>
    cases e with
    | true => exact ⟨[], rfl⟩
    | false =>
      rcases hg : goesP ns push a with ⟨on, e2⟩
      cases on with
      | false => exact ⟨[], by show (match goesP ns push a with | (true, e) => _ | (false, _) => [a]) = _; rw [hg]⟩
      | true => exact ⟨chainP ns push f (upP ns a) e2, by show (match goesP ns push a with | (true, e) => _ | (false, _) => [a]) = _; rw [hg]⟩
theorem lastP_true : lastP ns push f a true = a := by
  cases f <;> rfl
theorem chain_stop {e : Bool} (h : goesP ns push a = (false, e)) : chainP ns push (f + 1) a false = [a] := by
  show (match goesP ns push a with | (true, e) => _ | (false, _) => [a]) = _
  rw [h]
theorem chain_on {e : Bool} (h : goesP ns push a = (true, e)) : chainP ns push (f + 1) a false = a :: chainP ns push f (upP ns a) e := by
  show (match goesP ns push a with | (true, e) => _ | (false, _) => [a]) = _
  rw [h]
theorem lastP_stop {e : Bool} (h : goesP ns push a = (false, e)) : lastP ns push (f + 1) a false = a := by
  unfold lastP
  rw [chain_stop h]
  rfl
theorem lastP_on {e : Bool} (h : goesP ns push a = (true, e)) : lastP ns push (f + 1) a false = lastP ns push f (upP ns a) e := by
  unfold lastP
  rw [chain_on h]
  obtain ⟨l, hl⟩ := chain_head ns push f (upP ns a) e
  rw [hl, List.getLast?_cons_cons]
  rcases hx : (upP ns a :: l).getLast? with _ | y
  · rw [List.getLast?_eq_none_iff] at hx; cases hx
  · rfl
end
theorem ret_nat {a b : Nat} (h : a = b) : Ending.returned (.int .i64 (a : Int)) = .returned (.int .i64 (b : Int)) := by rw [h]
def EndsR (W : World) (x : Nat) (e : Ending) (W' : World) : Prop := e = .returned (.int .i64 (x : Int)) ∧ Below W.heap.size W W'
/-- What a part's end is looked for in. -/
structure EN (W : World) (g cap bb : Nat) (ns : List Nd) : Prop where
  nr : NR W (.slice (some ⟨g, 0, none⟩) ns.length cap) ns
  cap : ns.length ≤ cap
  kb : Blk W bb 3 (intsZ (byS ns)).toArray
  qn : QNs ns
  small : ns.length ≤ 128
set_option maxRecDepth 100000 in
theorem ends_any {W : World} {g cap bb j : Nat} {ns : List Nd} {push : Bool} (h : EN W g cap bb ns) (hj : j < ns.length) :
    Calls Try.prog 23 #[.agg #[.slice (some ⟨g, 0, none⟩) ns.length cap], .slice (some ⟨bb, 0, none⟩) ns.length ns.length, .int .i64 (j : Int), .bool push] W (EndsR W (lastOf ns push j)) := by
  have HH := Lib.hid h
  have hs := h.small
  have hcap := h.cap
  have HL := Lib.hid (show lastP ns push ns.length j false = lastOf ns push j from rfl)
  have hb0 : Below W.heap.size W (W.alloc (.cells #[.slice (some ⟨g, 0, none⟩) ns.length cap] 25)) := (Below.refl _ _).alloc (Nat.le_refl _) _
  have HB0 := Lib.hid (And.intro hb0 (Blk.new W 25 #[.slice (some ⟨g, 0, none⟩) ns.length cap]))
  clear h hb0
  go_enter Try.func23, Try.ntmps23
  go_wp2_with fail
  go_loopg [2] (ns.length + 1) (fun gk c wr => ∃ a f : Nat, a < ns.length ∧ ns.length ≤ a + f ∧ ns.length < a + gk ∧ c = .int .i64 (a : Int) ∧ lastP ns push f a false = lastOf ns push j ∧ Below W.heap.size W wr ∧ Blk wr W.heap.size 25 #[.slice (some ⟨g, 0, none⟩) ns.length cap])
  case atStart => exact ⟨j, ns.length, hj, by omega, by omega, rfl, HL.out, HB0.out⟩
  case round =>
    obtain ⟨a, f, ha, haf, hgk, rfl, hlast, hbel, hqb⟩ := hrel
    obtain ⟨f, rfl⟩ : ∃ f', f = f' + 1 := ⟨f - 1, by omega⟩
    have HLA := Lib.hid hlast
    have c0 : wr.cell? ⟨W.heap.size, 0, none⟩ = some (.slice (some ⟨g, 0, none⟩) ns.length cap) := hqb.cell 0
    have hn := NR.stay hbel HH.out.nr
    have HW := Lib.hid (And.intro hbel hqb)
    have a0 : (0 : Int) ≤ (a : Int) := by omega
    have a1 : (a : Int) < (ns.length : Int) := by omega
    have hkb := HH.out.kb.kept hbel
    have HKB := Lib.hid hkb
    obtain ⟨na, hna⟩ : ∃ na, ns[a]? = some na := ⟨ns[a], List.getElem?_eq_getElem ha⟩
    have hcases : (byS ns)[a]? = some (-1) ∨ ∃ p nd, (byS ns)[a]? = some ((p : Nat) : Int) ∧ ns[p]? = some nd ∧ a ∈ nd.l := by
      rcases byP_inv ns ns.length (Nat.le_refl _) a ha with ⟨_, h2⟩ | ⟨p, _, ⟨nd, h2, h3⟩, h4⟩
      · exact .inl h2
      · exact .inr ⟨p, nd, h4, h2, h3⟩
    rcases hcases with hb | ⟨p, nd, hb, hp, hm⟩
    · have d0 := intsZ_get hkb hb
      have HE := Lib.hid (show a = lastOf ns push j by rw [← hlast]; exact (lastP_stop (goes_no hb)).symm)
      clear hlast hbel hqb hn hkb hna hb
      go_wp2_with fail
      go_ret
      exact ⟨ret_nat HE.out, HW.out.1⟩
    · have d0 := intsZ_get hkb hb
      have hlt := names_lt HH.out.qn.tree ⟨nd, hp, hm⟩
      obtain ⟨m, b, pl, cl, hm1, hk, hr, hlv, hlc, hls⟩ := old_node hn hp
      obtain ⟨_, _, _, hn2⟩ := nr_node hn hna
      have e2 : wr.cell? ⟨g, a * 19, none⟩ = some (.int .i64 (na.kind : Int)) := hn2.kind
      have p0 : (0 : Int) ≤ (p : Int) := by omega
      have p1 : (p : Int) < (ns.length : Int) := by omega
      have hne : 0 < nd.l.length := List.length_pos_iff.2 (by rintro e; rw [e] at hm; cases hm)
      obtain ⟨x, hx⟩ : ∃ x, nd.l[0]? = some x := ⟨nd.l[0], List.getElem?_eq_getElem hne⟩
      obtain ⟨gl, rfl, hgl⟩ := hls 0 x hx
      have l0 : (0 : Int) < (nd.l.length : Int) := by omega
      have HG := Lib.hid (goes_up (push := push) hb hp)
      have HX := Lib.hid hx
      have HU := Lib.hid (show upP ns a = p by unfold upP; rw [hb]; simp)
      have HK := Lib.hid (show kindAt ns a = na.kind by unfold kindAt; rw [hna]; rfl)
      have HKN := Lib.hid (HH.out.qn.fits p nd hp).kd
      have HM := Lib.hid hm1
      have HLV := Lib.hid hlv
      have HR := Lib.hid hr
      have hone := hk.ones
      have HPL := Lib.hid hlt
      clear hlast hbel hqb hn hkb hna hb hp hm hlt hm1 hk hr hlv hls hn2 hx
      go_wp2_with fail
      have HS := Lib.hid (show wr.drew.cell? ⟨W.heap.size, 0, none⟩ = some (.slice (some ⟨g, 0, none⟩) ns.length cap) ∧ wr.drew.cell? ⟨bb, a, none⟩ = some (.int .i64 (p : Int)) ∧ wr.drew.rangeAt g (p * 19) m.cells from ⟨c0, d0, HR.out⟩)
      have HC := Lib.hid (show Below W.heap.size W wr.drew ∧ Blk wr.drew W.heap.size 25 #[.slice (some ⟨g, 0, none⟩) ns.length cap] ∧ wr.drew.cell? ⟨g, a * 19, none⟩ = some (.int .i64 (na.kind : Int)) ∧ wr.drew.cell? ⟨gl, 0, none⟩ = some (.int .i64 (x : Int)) ∧ Blk wr.drew bb 3 (intsZ (byS ns)).toArray from ⟨below_drewN HW.out.1 1, HW.out.2.drew, e2, hgl, HKB.out.drew⟩)
      clear c0 d0 e2 hgl
      refine wp_region_held_drew (S := fun w' => w'.cell? ⟨W.heap.size, 0, none⟩ = some (.slice (some ⟨g, 0, none⟩) ns.length cap) ∧ w'.cell? ⟨bb, a, none⟩ = some (.int .i64 (p : Int)) ∧ w'.rangeAt g (p * 19) m.cells) (by kernel_rfl) HS.out (fun hHeld => ?_)
      generalize wr.drew = wd at HS HC hHeld ⊢
      have hth := nd_there wd
      have HBA := Lib.hid (show Below wd.heap.size wd (wd.alloc (.cells zeroNd 43)) from (Below.refl _ _).alloc (Nat.le_refl _) _)
      refine wpAnyH_take (i := 0) (oi := { dst := some 17, op := Go.Op.fieldAddr 25 (Go.Operand.tmp 4) 0, type := 0, pos := "ref.go:64", after := #[], guard := none }) (v := ?v1) rfl (by kernel_rfl) (by kernel_rfl) (by kernel_rfl) (fun _ _ _ h => h) (Or.inl ⟨by rfl, ?hy1⟩) (by assumption) ?rest1
      case hy1 =>
        intro w hSw
        (try dsimp only at hSw)
        go_simp
        try with_reducible rfl
      try simp only [Act.put, List.setIfInBounds_toArray, List.set_cons_zero, List.set_cons_succ]
      refine wpAnyH_take (i := 1) (oi := { dst := some 18, op := Go.Op.load 23 (Go.Operand.tmp 17), type := 23, pos := "ref.go:64", after := #[{ on := 0, ground := Go.Ground.data }], guard := none }) (v := ?v2) rfl (by kernel_rfl) (by kernel_rfl) (by kernel_rfl) (fun _ _ _ h => h) (Or.inl ⟨by rfl, ?hy2⟩) (by assumption) ?rest2
      case hy2 =>
        intro w hSw
        (try dsimp only at hSw)
        go_simp
        try with_reducible rfl
      try simp only [Act.put, List.setIfInBounds_toArray, List.set_cons_zero, List.set_cons_succ]
      refine wpAnyH_take (i := 2) (oi := { dst := some 19, op := Go.Op.move (Go.Operand.tmp 1), type := 39, pos := "ref.go:64", after := #[], guard := none }) (v := ?v3) rfl (by kernel_rfl) (by kernel_rfl) (by kernel_rfl) (fun _ _ _ h => h) (Or.inl ⟨by rfl, ?hy3⟩) (by assumption) ?rest3
      case hy3 =>
        intro w hSw
        (try dsimp only at hSw)
        go_simp
        try with_reducible rfl
      try simp only [Act.put, List.setIfInBounds_toArray, List.set_cons_zero, List.set_cons_succ]
      refine wpAnyH_take (i := 3) (oi := { dst := some 20, op := Go.Op.move (Go.Operand.tmp 2), type := 3, pos := "ref.go:64", after := #[], guard := none }) (v := ?v4) rfl (by kernel_rfl) (by kernel_rfl) (by kernel_rfl) (fun _ _ _ h => h) (Or.inl ⟨by rfl, ?hy4⟩) (by assumption) ?rest4
      case hy4 =>
        intro w hSw
        (try dsimp only at hSw)
        go_simp
        try with_reducible rfl
      try simp only [Act.put, List.setIfInBounds_toArray, List.set_cons_zero, List.set_cons_succ]
      refine wpAnyH_take (i := 4) (oi := { dst := some 21, op := Go.Op.indexAddr 39 (Go.Operand.tmp 19) (Go.Operand.tmp 20), type := 0, pos := "ref.go:64", after := #[{ on := 2, ground := Go.Ground.data }, { on := 3, ground := Go.Ground.data }], guard := none }) (v := ?v5) rfl (by kernel_rfl) (by kernel_rfl) (by kernel_rfl) (fun _ _ _ h => h) (Or.inl ⟨by rfl, ?hy5⟩) (by assumption) ?rest5
      case hy5 =>
        intro w hSw
        (try dsimp only at hSw)
        go_simp
        try with_reducible rfl
      try simp only [Act.put, List.setIfInBounds_toArray, List.set_cons_zero, List.set_cons_succ]
      refine wpAnyH_take (i := 5) (oi := { dst := some 22, op := Go.Op.load 3 (Go.Operand.tmp 21), type := 3, pos := "ref.go:64", after := #[{ on := 4, ground := Go.Ground.data }], guard := none }) (v := ?v6) rfl (by kernel_rfl) (by kernel_rfl) (by kernel_rfl) (fun _ _ _ h => h) (Or.inl ⟨by rfl, ?hy6⟩) (by assumption) ?rest6
      case hy6 =>
        intro w hSw
        (try dsimp only at hSw)
        go_simp
        try with_reducible rfl
      try simp only [Act.put, List.setIfInBounds_toArray, List.set_cons_zero, List.set_cons_succ]
      refine wpAnyH_take (i := 6) (oi := { dst := some 23, op := Go.Op.indexAddr 23 (Go.Operand.tmp 18) (Go.Operand.tmp 22), type := 0, pos := "ref.go:64", after := #[{ on := 1, ground := Go.Ground.data }, { on := 5, ground := Go.Ground.data }], guard := none }) (v := ?v7) rfl (by kernel_rfl) (by kernel_rfl) (by kernel_rfl) (fun _ _ _ h => h) (Or.inl ⟨by rfl, ?hy7⟩) (by assumption) ?rest7
      case hy7 =>
        intro w hSw
        (try dsimp only at hSw)
        go_simp
        try with_reducible rfl
      try simp only [Act.put, List.setIfInBounds_toArray, List.set_cons_zero, List.set_cons_succ]
      refine' wpAnyH_take (i := 7) (oi := { dst := some 24, op := Go.Op.load 43 (Go.Operand.tmp 23), type := 43, pos := "ref.go:64", after := #[{ on := 6, ground := Go.Ground.data }], guard := none }) (v := _) rfl (by kernel_rfl) (by kernel_rfl) (by kernel_rfl) (fun _ _ _ h => h) (yieldsIf_load_mid (by rfl) _ _ rfl _ _ rfl _ _ ?hS1 ?hu1 ?hd1 ?hi1) (by assumption) ?restm1
      case hS1 => intro w hSw; (try dsimp only at hSw); exact hSw.2.2
      case hu1 => exact undNode
      case hd1 => rfl
      case hi1 => exact sizeNode
      try simp only [Act.put, List.setIfInBounds_toArray, List.set_cons_zero, List.set_cons_succ]
      refine wpAnyH_ready (rs := [8]) (by kernel_rfl) (by simp) ?_
      refine AllReadyH.cons (o := { dst := some 9, op := Go.Op.alloc 43, type := 0, pos := "ref.go:64", after := #[], guard := none }) rfl (fun K hK => ?_) ?_
      · go_simp
        refine hK.out _ _ ?_ (fun hHeld => ?_)
        · exact ⟨keepc HBA.out HS.out.1, keepc HBA.out HS.out.2.1, range_kept HBA.out HS.out.2.2⟩
        · clear hK K
          try simp only [Act.put, List.setIfInBounds_toArray, List.set_cons_zero, List.set_cons_succ]
          refine wpAnyH_ready (rs := [9]) (by kernel_rfl) (by simp) ?_
          refine AllReadyH.cons (o := { dst := none, op := Go.Op.store 43 (Go.Operand.tmp 9) (Go.Operand.tmp 24), type := 0, pos := "ref.go:64", after := #[{ on := 8, ground := Go.Ground.data }, { on := 7, ground := Go.Ground.data }, { on := 0, ground := Go.Ground.phase }, { on := 1, ground := Go.Ground.phase }, { on := 2, ground := Go.Ground.phase }, { on := 3, ground := Go.Ground.phase }, { on := 4, ground := Go.Ground.phase }, { on := 5, ground := Go.Ground.phase }, { on := 6, ground := Go.Ground.phase }, { on := 7, ground := Go.Ground.phase }, { on := 8, ground := Go.Ground.phase }], guard := none }) rfl (fun K hK => ?_) ?_
          · rw [if_pos (by rfl)]
            refine wp_store_mid 43 (.tmp 9) (.tmp 24) (by rfl) wd.heap.size 0 m.cells.toArray (by rfl) (by rfl) hth sizeNode hone ?_
            generalize hw4 : World.setCells _ _ _ _ = w4
            have F4 := Lib.hid (nd_stored (m := m) hw4)
            clear hw4 hth hone
            refine hK.out _ _ ?_ (fun hHeld => ?_)
            · exact ⟨keepc F4.out.1 HS.out.1, keepc F4.out.1 HS.out.2.1, range_kept F4.out.1 HS.out.2.2⟩
            · clear hK K
              try simp only [Act.put, List.setIfInBounds_toArray, List.set_cons_zero, List.set_cons_succ]
              refine wpAnyH_done (by kernel_rfl) ?_ _
              have HC4 := Lib.hid (show Below W.heap.size W w4 ∧ Blk w4 W.heap.size 25 #[.slice (some ⟨g, 0, none⟩) ns.length cap] ∧ Blk w4 bb 3 (intsZ (byS ns)).toArray from ⟨chain HC.out.1 F4.out.1, HC.out.2.1.kept F4.out.1, HC.out.2.2.2.2.kept F4.out.1⟩)
              have x0 : w4.cell? ⟨W.heap.size, 0, none⟩ = some (.slice (some ⟨g, 0, none⟩) ns.length cap) := HC4.out.2.1.cell 0
              have x1 : w4.cell? ⟨g, a * 19, none⟩ = some (.int .i64 (na.kind : Int)) := keepc F4.out.1 HC.out.2.2.1
              have x2 : w4.cell? ⟨gl, 0, none⟩ = some (.int .i64 (x : Int)) := keepc F4.out.1 HC.out.2.2.2.1
              have x3 : w4.cell? ⟨bb, a, none⟩ = some (.int .i64 (p : Int)) := keepc F4.out.1 HS.out.2.1
              have k0 : w4.cell? ⟨wd.heap.size, 0, none⟩ = some (.int .i64 (nd.kind : Int)) := by
                have := F4.out.2.cell 0
                rw [← HM.out]
                exact this
              have k16 : w4.cell? ⟨wd.heap.size, 16, none⟩ = some (.slice (some ⟨gl, 0, none⟩) nd.l.length cl) := by
                have := F4.out.2.cell 16
                rw [← HLV.out]
                exact this
              by_cases hxa : x = a
              case neg =>
                have q1 : ((x : Int) != (a : Int)) = true := by rw [bne_iff_ne]; omega
                have q2 : ¬ (x : Int) = (a : Int) := by omega
                have HE := Lib.hid (show a = lastOf ns push j by
                  rw [← HLA.out]
                  refine (lastP_stop (e := false) ?_).symm
                  rw [HG.out, HX.out, if_neg (by simpa using hxa)])
                clear hxa
                go_wp2_with fail
                go_ret
                exact ⟨ret_nat HE.out, HC4.out.1⟩
              case pos =>
                subst hxa
                have q1 : ((x : Int) != (x : Int)) = false := by simp
                have HE := Lib.hid (show goesP ns push x = (if nd.kind = 2 then (push || decide (na.kind = 1), false) else if nd.kind = 3 ∨ nd.kind = 4 then (push, false) else if nd.kind = 5 ∨ nd.kind = 6 then (push, true) else (false, false)) by rw [HG.out, HX.out, if_pos rfl, HK.out])
                clear HG HX HK
                have stop : ∀ e, goesP ns push x = (false, e) → x = lastOf ns push j := fun e h => by rw [← HLA.out]; exact (lastP_stop h).symm
                have go_on : goesP ns push x = (true, false) → lastP ns push f p false = lastOf ns push j := fun h => by rw [← HLA.out, lastP_on h, HU.out]
                have go_end : goesP ns push x = (true, true) → p = lastOf ns push j := fun h => by rw [← HLA.out, lastP_on h, HU.out, lastP_true]
                have HST := Lib.hid (And.intro stop (And.intro go_on go_end))
                have hxp := HPL.out.1
                have hpn := HPL.out.2.1
                clear stop go_on go_end
                rcases known_cases HKN.out with hk | hk | hk | hk | hk | hk | hk | hk | hk | hk | hk | hk | hk
                all_goals
                  rw [hk] at k0 HE
                  clear hk HKN
                  cases push
                case inr.inl.false =>
                  by_cases hk1 : na.kind = 1
                  · have r1 : ((na.kind : Int) == 1) = true := by rw [beq_iff_eq]; omega
                    have r2 : (na.kind : Int) = 1 := by omega
                    have HF := Lib.hid (HST.out.2.1 (HE.out.trans (by rw [hk1]; rfl)))
                    clear hk1 HE
                    go_wp2_with fail
                    go_roundg (ns.length - x)
                    case measure => omega
                    case rel => exact ⟨p, f, hpn, by omega, by omega, rfl, HF.out, HC4.out.1, HC4.out.2.1⟩
                  · have r1 : ((na.kind : Int) == 1) = false := by rw [beq_eq_false_iff_ne]; omega
                    have r2 : ¬ (na.kind : Int) = 1 := by omega
                    have HF := Lib.hid (HST.out.1 false (HE.out.trans (by rw [show decide (na.kind = 1) = false from decide_eq_false hk1]; rfl)))
                    clear hk1 HE
                    go_wp2_with fail
                    go_ret
                    exact ⟨ret_nat HF.out, HC4.out.1⟩
                case inr.inl.true =>
                  have HF := Lib.hid (HST.out.2.1 (HE.out.trans rfl))
                  clear HE
                  go_wp2_with fail
                  go_roundg (ns.length - x)
                  case measure => omega
                  case rel => exact ⟨p, f, hpn, by omega, by omega, rfl, HF.out, HC4.out.1, HC4.out.2.1⟩
                case inr.inr.inl.true =>
                  have HF := Lib.hid (HST.out.2.1 (HE.out.trans rfl))
                  clear HE
                  go_wp2_with fail
                  go_roundg (ns.length - x)
                  case measure => omega
                  case rel => exact ⟨p, f, hpn, by omega, by omega, rfl, HF.out, HC4.out.1, HC4.out.2.1⟩
                case inr.inr.inr.inl.true =>
                  have HF := Lib.hid (HST.out.2.1 (HE.out.trans rfl))
                  clear HE
                  go_wp2_with fail
                  go_roundg (ns.length - x)
                  case measure => omega
                  case rel => exact ⟨p, f, hpn, by omega, by omega, rfl, HF.out, HC4.out.1, HC4.out.2.1⟩
                case inr.inr.inr.inr.inl.true =>
                  have HF := Lib.hid (HST.out.2.2 (HE.out.trans rfl))
                  clear HE
                  go_wp2_with fail
                  go_ret
                  exact ⟨ret_nat HF.out, HC4.out.1⟩
                case inr.inr.inr.inr.inr.inl.true =>
                  have HF := Lib.hid (HST.out.2.2 (HE.out.trans rfl))
                  clear HE
                  go_wp2_with fail
                  go_ret
                  exact ⟨ret_nat HF.out, HC4.out.1⟩
                case inr.inr.inr.inr.inl.false =>
                  have HF := Lib.hid (HST.out.1 true (HE.out.trans rfl))
                  clear HE
                  go_wp2_with fail
                  go_ret
                  exact ⟨ret_nat HF.out, HC4.out.1⟩
                case inr.inr.inr.inr.inr.inl.false =>
                  have HF := Lib.hid (HST.out.1 true (HE.out.trans rfl))
                  clear HE
                  go_wp2_with fail
                  go_ret
                  exact ⟨ret_nat HF.out, HC4.out.1⟩
                all_goals
                  have HF := Lib.hid (HST.out.1 false (HE.out.trans rfl))
                  clear HE
                  go_wp2_with fail
                  go_ret
                  exact ⟨ret_nat HF.out, HC4.out.1⟩
          exact AllReadyH.nil
      exact AllReadyH.nil
end Go.Proofs.Ytjpogmomgmjmbaa
