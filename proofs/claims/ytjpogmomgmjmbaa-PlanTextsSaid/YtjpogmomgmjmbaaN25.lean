/- The walk of plan's Split. -/
import Derived.Test.YtjpogmomgmjmbaaN23
import Derived.Test.YtjpogmomgmjmbaaN24
import Derived.Deep.AppendLies
/-! The walk of plan's Split. -/
namespace Go.Proofs.Ytjpogmomgmjmbaa
open Go.RowKit LexS ParS BigFrame
set_option maxHeartbeats 4000000
set_option linter.unusedVariables false
set_option linter.unusedSimpArgs false
attribute [local go_sem] World.cell?_alloc_some cell_drewN_new free_drewN_new cell_drew_new free_drew_new

theorem split_start (W : World) (a b : Array Value) (c d : Value) :
    Below W.heap.size W ((((W.alloc (.cells a 25)).alloc (.cells b 31)).alloc (.cells #[c, .slice none 0 0, .slice none 0 0] 55)).alloc (.cells #[d] 53)) ∧
    Blk ((((W.alloc (.cells a 25)).alloc (.cells b 31)).alloc (.cells #[c, .slice none 0 0, .slice none 0 0] 55)).alloc (.cells #[d] 53)) (W.heap.size + 1) 31 b ∧
    Blk ((((W.alloc (.cells a 25)).alloc (.cells b 31)).alloc (.cells #[c, .slice none 0 0, .slice none 0 0] 55)).alloc (.cells #[d] 53)) (W.heap.size + 1 + 1) 55 #[c, .slice none 0 0, .slice none 0 0] ∧
    Blk ((((W.alloc (.cells a 25)).alloc (.cells b 31)).alloc (.cells #[c, .slice none 0 0, .slice none 0 0] 55)).alloc (.cells #[d] 53)) (W.heap.size + 1 + 1 + 1) 53 #[d] ∧
    ((((W.alloc (.cells a 25)).alloc (.cells b 31)).alloc (.cells #[c, .slice none 0 0, .slice none 0 0] 55)).alloc (.cells #[d] 53)).heap.size = W.heap.size + 4 := by
  have e1 : (W.alloc (.cells a 25)).heap.size = W.heap.size + 1 := World.size_alloc _ _
  have e2 : ((W.alloc (.cells a 25)).alloc (.cells b 31)).heap.size = W.heap.size + 1 + 1 := by rw [World.size_alloc, e1]
  have e3 : (((W.alloc (.cells a 25)).alloc (.cells b 31)).alloc (.cells #[c, .slice none 0 0, .slice none 0 0] 55)).heap.size = W.heap.size + 1 + 1 + 1 := by rw [World.size_alloc, e2]
  refine ⟨(((Below.refl _ _).alloc (Nat.le_refl _) _).alloc (by rw [e1]; omega) _ |>.alloc (by rw [e2]; omega) _).alloc (by rw [e3]; omega) _, ?_, ?_, ?_, by rw [World.size_alloc, e3]⟩
  · rw [← e1]; exact ((Blk.new _ _ _).alloc _).alloc _
  · rw [← e2]; exact (Blk.new _ _ _).alloc _
  · rw [← e3]; exact Blk.new _ _ _
theorem fetch_no {ns : List Nd} {push : Bool} {i : Nat} (h : ¬ kindAt ns i = 1) : fetchP ns push (i + 1) = fetchP ns push i := if_neg h
theorem fetch_yes {ns : List Nd} {push : Bool} {i : Nat} (h : kindAt ns i = 1) : fetchP ns push (i + 1) = (setAll ((fetchP ns push i).2.length : Int) (chainS ns push i) (fetchP ns push i).1, (fetchP ns push i).2 ++ [lastOf ns push i]) := if_pos h
theorem fets_le (ns : List Nd) : ∀ i, (fets ns i).length ≤ i
  | 0 => Nat.le_refl _
  | i + 1 => by
    have := fets_le ns i
    unfold fets
    split
    · rw [List.length_append, List.length_singleton]; omega
    · omega
theorem chain_true {ns : List Nd} {push : Bool} {f a : Nat} : chainP ns push f a true = [a] := by
  cases f <;> rfl
theorem infoQuery : (Try.prog.info? 25).map (fun i => (i.zero, i.size, i.bytes)) = some (some (.agg #[.slice none 0 0]), 1, 24) := by kernel_rfl
/-- What Split has, once it lays parts. -/
structure SV (W0 Ws wr : World) (sp g cap : Nat) (ns : List Nd) (push : Bool) (p q tl : Nat) (lv : Value) (pb : Nat) (pv rv : Value) (vs : List Value) (k : Nat) : Prop where
  sw : SW W0 Ws wr sp g cap ns p q tl (partS ns push) (lastS ns push) lv
  pl : Blk wr pb 31 #[pv, rv]
  qr : QRow wr (pb + 1) pv vs ((splitParts ns push).take k)
  lt : tl < pb
section
variable {W0 Ws wr w' : World} {sp g cap p q tl pb k : Nat} {ns : List Nd} {push : Bool} {lv pv rv u : Value} {vs : List Value}
theorem SV.kept (h : SV W0 Ws wr sp g cap ns push p q tl lv pb pv rv vs k) (hb : Below wr.heap.size wr w') : SV W0 Ws w' sp g cap ns push p q tl lv pb pv rv vs k := ⟨h.sw.kept hb, h.pl.kept hb, h.qr.kept hb, h.lt⟩
theorem SV.grow {v' : Value} {l : List Nd} (h : SV W0 Ws wr sp g cap ns push p q tl lv pb pv rv vs k) (hk : (splitParts ns push)[k]? = some l) (hn : NO wr 0 u l) (hg : wr.grownBy w' pv.ownBlock) (ho : w'.ownsRow (pb + 1) 25 1 v' (((splitParts ns push).take k).length + 1) (vs ++ [u])) :
    Blk w' pb 31 #[pv, rv] ∧ SW W0 Ws w' sp g cap ns p q tl (partS ns push) (lastS ns push) lv ∧ SV W0 Ws (w'.setCell ⟨pb, 0, none⟩ v') sp g cap ns push p q tl lv pb v' rv (vs ++ [u]) (k + 1) := by
  have hown : ∀ k, pv.ownBlock = some k → pb + 1 ≤ k := fun k hk => (h.qr.row.lt k hk).1
  have hb : Below (pb + 1) wr w' := (Below.refl (pb + 1) wr).grown hg h.pl.lt hown
  have h1 := h.lt
  have hpl : Blk w' pb 31 #[pv, rv] := h.pl.low hb (Nat.lt_succ_self _)
  have hsw : SW W0 Ws w' sp g cap ns p q tl (partS ns push) (lastS ns push) lv := h.sw.keptB (hb.mono (by omega)) (row_grown2 h.sw.row (by decide) h.qr.row hg)
  have hb2 : Below pb w' (w'.setCell ⟨pb, 0, none⟩ v') := (Below.refl _ _).setCell (p := ⟨pb, 0, none⟩) (Nat.le_refl _) _
  refine ⟨hpl, hsw, hsw.keptB (hb2.mono (by omega)) (row_far hsw.row hpl (by decide) 0 v'), hpl.put 0 v', ?_, h.lt⟩
  have e : (splitParts ns push).take (k + 1) = (splitParts ns push).take k ++ [l] := by rw [List.take_add_one, hk]; rfl
  rw [e]
  exact (h.qr.grow hn hg ho).far2 (by decide) (by decide) (by decide) (by decide) (by decide) hpl
end
theorem splitParts_get {ns : List Nd} {push : Bool} {k : Nat} (h : k < (lastS ns push).length) : (splitParts ns push)[k]? = some (takeP ns (inPart ns push k) (nodeAt ns) ns.length).2 := by
  unfold splitParts
  rw [List.getElem?_map, List.getElem?_range h]
  rfl
theorem nodeAt_of {ns : List Nd} {i : Nat} {nd : Nd} (h : ns[i]? = some nd) : nodeAt ns i = nd := by
  unfold nodeAt
  rw [h]
  rfl
theorem node_l {ns : List Nd} (hq : QNs ns) {i : Nat} {nd : Nd} (h : ns[i]? = some nd) : nd.l.length ≤ 2 ∧ ∀ x ∈ nd.l, x < ns.length := by
  have hf := hq.fits i nd h
  have hi := some_lt h
  refine ⟨?_, fun x hx => ?_⟩
  · rw [hf.len]
    rcases known_cases hf.kd with e | e | e | e | e | e | e | e | e | e | e | e | e <;> rw [e] <;> decide
  · obtain ⟨j, hj⟩ := List.getElem?_of_mem hx
    have := (hf.below j x hj).2.1
    omega
theorem res_plan {f : Func} {r q g : Nat} {tmps : Array Value} {w : World} {pv rv : Value} {n : Int} (hf : f.results = #[.cell r 31, .tmp q]) (ht : tmps[r]?.getD undef = .pointer (some ⟨g, 0, none⟩)) (hq : tmps[q]?.getD undef = .int .i64 n)
    (h : Blk w g 31 #[pv, rv]) : (results f tmps).run Try.prog w = .ok (.tuple #[.agg #[pv, rv], .int .i64 n]) w := by
  have h0 : w.cell? ⟨g, 0, none⟩ = some pv := h.cell 0
  have h1 : w.cell? ⟨g, 1, none⟩ = some rv := h.cell 1
  simp [results, hf, go_sem, ht, hq, h0, h1]
theorem fetch_below {ns : List Nd} (hq : QNs ns) : ∀ (k x : Nat), x ≤ k → x < ns.length → kindAt ns x < 11 → ∃ j, j < ns.length ∧ kindAt ns j = 1 := by
  intro k
  induction k with
  | zero =>
    intro x hx hxl hk
    have h1 : ns[x]? = some ns[x] := List.getElem?_eq_getElem hxl
    have hf := hq.fits x _ h1
    rw [kindAt_of h1] at hk
    refine ⟨x, hxl, ?_⟩
    rw [kindAt_of h1]
    have h0 : ns[x].l.length = 0 := by
      rcases Nat.eq_zero_or_pos ns[x].l.length with h | h
      · exact h
      · have := (hf.below 0 _ (List.getElem?_eq_getElem h)).2.1
        omega
    rw [hf.len] at h0
    rcases known_cases hf.kd with e | e | e | e | e | e | e | e | e | e | e | e | e <;> rw [e] at h0 hk ⊢ <;> first | rfl | (exfalso; revert h0; decide) | omega
  | succ k ih =>
    intro x hx hxl hk
    have h1 : ns[x]? = some ns[x] := List.getElem?_eq_getElem hxl
    have hf := hq.fits x _ h1
    by_cases hr : rowsOf ns[x].kind = 0
    · refine ⟨x, hxl, ?_⟩
      rw [kindAt_of h1] at hk ⊢
      rcases known_cases hf.kd with e | e | e | e | e | e | e | e | e | e | e | e | e <;> rw [e] at hr hk ⊢ <;> first | rfl | (exfalso; revert hr; decide) | omega
    · have hl : 0 < ns[x].l.length := by rw [hf.len]; omega
      obtain ⟨_, h2, c, hc, hcr⟩ := hf.below 0 _ (List.getElem?_eq_getElem hl)
      rw [Nat.sub_zero] at hc
      refine ih (ns[x].l[0]) (by omega) (by omega) ?_
      rw [kindAt_of hc]
      have : ¬ 11 ≤ c.kind := fun h => hr (by have := hcr.2 h; omega)
      omega
theorem last_pos {ns : List Nd} (hq : QNs ns) (push : Bool) : 0 < (lastS ns push).length := by
  have hpos : 0 < ns.length := List.length_pos_iff.2 hq.tree.ne
  obtain ⟨j, h1, h2⟩ := fetch_below hq ns.length (ns.length - 1) (by omega) (by omega) hq.last
  rw [lasts_len]
  exact List.length_pos_iff.2 (List.ne_nil_of_mem ((fets_mem ns _ j).2 ⟨h1, h2⟩))
theorem rest_l {ns : List Nd} (hq : QNs ns) {push : Bool} {i : Nat} (hi : i < ns.length) : (restNode ns push i).l.length ≤ 2 ∧ ∀ x ∈ (restNode ns push i).l, x < ns.length := by
  have hn : ns[i]? = some ns[i] := List.getElem?_eq_getElem hi
  unfold restNode
  split
  · rw [nodeAt_of hn]
    exact node_l hq hn
  · exact ⟨Nat.zero_le _, fun x hx => by cases hx⟩
theorem QRow.zero {W : World} {B : Nat} {v : Value} {vs : List Value} {nss : List (List Nd)} (h : QRow W B v vs nss) : QRow W 0 v vs nss := ⟨h.len, own_zero h.row, h.each⟩
theorem split_end {W0 Ws wr : World} {sp g cap p q tl pb k : Nat} {ns rest : List Nd} {push : Bool} {lv pv rv u : Value} {vs : List Value} (hk : (splitParts ns push).take k = splitParts ns push) (h : SV W0 Ws wr sp g cap ns push p q tl lv pb pv rv vs k) (hn : NO wr 0 u rest) :
    Blk (((wr.setCell ⟨pb, 1, none⟩ u).setCell ⟨W0.heap.size + 1, 0, none⟩ pv).setCell ⟨W0.heap.size + 1, 1, none⟩ u) (W0.heap.size + 1) 31 #[pv, u] ∧ QRow (((wr.setCell ⟨pb, 1, none⟩ u).setCell ⟨W0.heap.size + 1, 0, none⟩ pv).setCell ⟨W0.heap.size + 1, 1, none⟩ u) 0 pv vs (splitParts ns push) ∧
    NO (((wr.setCell ⟨pb, 1, none⟩ u).setCell ⟨W0.heap.size + 1, 0, none⟩ pv).setCell ⟨W0.heap.size + 1, 1, none⟩ u) 0 u rest ∧ Below W0.heap.size W0 (((wr.setCell ⟨pb, 1, none⟩ u).setCell ⟨W0.heap.size + 1, 0, none⟩ pv).setCell ⟨W0.heap.size + 1, 1, none⟩ u) := by
  have hq := h.qr.zero
  rw [hk] at hq
  have e1 := h.sw.wse
  have e2 := h.sw.lts
  have e3 := h.lt
  have b1 : Blk (wr.setCell ⟨pb, 1, none⟩ u) (W0.heap.size + 1) 31 #[.slice none 0 0, .slice none 0 0] := h.sw.res.far (p := ⟨pb, 1, none⟩) (by dsimp only; omega) u
  have b2 := b1.put 0 pv
  refine ⟨b2.put 1 u, ?_, ?_, ?_⟩
  · exact ((hq.far2 (by decide) (by decide) (by decide) (by decide) (by decide) h.pl).far2 (by decide) (by decide) (by decide) (by decide) (by decide) b1).far2 (by decide) (by decide) (by decide) (by decide) (by decide) b2
  · exact ((hn.far2 (by decide) (by decide) (by decide) (by decide) h.pl).far2 (by decide) (by decide) (by decide) (by decide) b1).far2 (by decide) (by decide) (by decide) (by decide) b2
  · exact ((h.sw.low.setCell (p := ⟨pb, 1, none⟩) (by dsimp only; omega) _).setCell (p := ⟨W0.heap.size + 1, 0, none⟩) (by dsimp only; omega) _).setCell (p := ⟨W0.heap.size + 1, 1, none⟩) (by dsimp only; omega) _
/-- The walk along a part's nodes. -/
def WalkB (ns : List Nd) (push : Bool) (k : Int) (L : Nat) (final : List Int) (gk : Nat) (c10 c11 c12 : Value) (P : List Int → Prop) : Prop :=
  ∃ (a f : Nat) (e : Bool) (part : List Int), a < ns.length ∧ ns.length ≤ a + f ∧ c10 = .int .i64 (a : Int) ∧ c12 = .bool e ∧ P part ∧
    ((c11 = .bool true ∧ ns.length < a + gk ∧ setAll k (chainP ns push f a e) part = final ∧ lastP ns push f a e = L) ∨ (c11 = .bool false ∧ part = final ∧ a = L))
set_option maxRecDepth 100000 in
theorem split_any {W : World} {g cap : Nat} {ns : List Nd} {push : Bool} (hn : NR W (.slice (some ⟨g, 0, none⟩) ns.length cap) ns) (hq : QNs ns) (hcap : ns.length ≤ cap) (hs : ns.length ≤ 128) :
    Calls Try.prog 7 #[.agg #[.slice (some ⟨g, 0, none⟩) ns.length cap], .bool push] W (SplitR W (splitParts ns push) (splitRest ns push)) := by
  have HN := Lib.hid hn
  have HQ := Lib.hid hq
  clear hn hq
  go_enter Try.func7, Try.ntmps7
  go_wp2_with fail
  obtain ⟨x1, x2, x3, x4, x5⟩ := split_start W #[.slice (some ⟨g, 0, none⟩) ns.length cap] #[.slice none 0 0, .slice none 0 0] (.slice (some ⟨g, 0, none⟩) ns.length cap) (.pointer (some ⟨W.heap.size + 1 + 1, 0, none⟩))
  generalize World.alloc (World.alloc (World.alloc (World.alloc W _) _) _) _ = Ws at x1 x2 x3 x4 x5 ⊢
  have HX := Lib.hid (And.intro x1 (And.intro x2 (And.intro x4 x5)))
  refine (shaped_any (NR.stay x1 HN.out) x3 HQ.out hcap hs).mono ?_
  clear x1 x2 x3 x4 x5
  rintro e w1 ⟨p, q, rfl, hsx⟩
  have HSX := Lib.hid hsx
  have HT6 := Lib.hid (show Blk w1 (W.heap.size + 1 + 1 + 1) 53 #[RP (W.heap.size + 1 + 1)] from hsx.mv.stp (.slice none 0 0) |>.blk HX.out.2.2.1 (by omega) (by intro e; cases e))
  have HRS := Lib.hid (show Blk w1 (W.heap.size + 1) 31 #[.slice none 0 0, .slice none 0 0] from hsx.mv.stp (.slice none 0 0) |>.blk HX.out.2.1 (by omega) (by intro e; cases e))
  clear hsx
  go_upto_region 5 with fail
  obtain ⟨tl, htl⟩ : ∃ tl, tl = w1.heap.size := ⟨_, rfl⟩
  have HW := Lib.hid (show SW W Ws (w1.alloc (.cells #[.slice none 0 0] 39)) (W.heap.size + 1 + 1) g cap ns p q tl (fetchP ns push 0).1 (fetchP ns push 0).2 (.slice none 0 0) from by
    have hb : Below w1.heap.size w1 (w1.alloc (.cells #[.slice none 0 0] 39)) := (Below.refl _ _).alloc (Nat.le_refl _) _
    have hz := HX.out.2.2.2
    refine ⟨HSX.out.kept hb, ?_, HT6.out.kept hb, HRS.out.kept hb, by rw [htl]; exact Blk.new _ _ _, nil_row, by rw [htl]; exact HSX.out.kb.lt, by rw [htl]; exact HSX.out.kp.lt, by rw [htl]; exact HSX.out.mv.size, hz⟩
    have := HSX.out.mv.below (base := W.heap.size) (by omega) (by intro k e; cases e) (by omega)
    exact HX.out.1.trans (this.trans (hb.mono (by have := HSX.out.mv.size; omega))))
  rw [← htl]
  generalize w1.alloc _ = w2 at HW ⊢
  clear HT6 HRS HSX HX htl
  have c6 : w2.cell? ⟨W.heap.size + 1 + 1 + 1, 0, none⟩ = some (RP (W.heap.size + 1 + 1)) := HW.out.t6.cell 0
  have c0 : w2.cell? ⟨W.heap.size + 1 + 1, 0, none⟩ = some (.slice (some ⟨g, 0, none⟩) ns.length cap) := HW.out.sx.box.cell 0
  go_wp2_with fail
  go_loopg [30] (ns.length + 1) (fun gk c wr => ∃ (i : Nat) (lv : Value), i ≤ ns.length ∧ ns.length < i + gk ∧ c = .int .i64 (i : Int) ∧ SW W Ws wr (W.heap.size + 1 + 1) g cap ns p q tl (fetchP ns push i).1 (fetchP ns push i).2 lv)
  case atStart => exact ⟨0, _, Nat.zero_le _, by omega, rfl, HW.out⟩
  case round =>
    obtain ⟨i, lv, hi, hgk, rfl, hsw⟩ := hrel
    clear c6 c0
    have HS1 := Lib.hid hsw
    by_cases hlt : i < ns.length
    · obtain ⟨n1, hn1⟩ : ∃ n1, ns[i]? = some n1 := ⟨ns[i], List.getElem?_eq_getElem hlt⟩
      obtain ⟨m, b, pl, cl, hm, hk, hr, hlv, hls⟩ := sx_node hsw.sx hn1
      have t0 : (0 : Int) ≤ (i : Int) := by omega
      have t1 : (i : Int) < (ns.length : Int) := by omega
      have t2 : decide ((i : Int) < (ns.length : Int)) = true := decide_eq_true t1
      have w1_ : IntKind.i64.wrap ((i : Int) + 1) = (i : Int) + 1 := IntWalk.i64_in _ (by omega)
      have hth := nd_there wr
      have hone := hk.ones
      have HR := Lib.hid hr
      have HN1 := Lib.hid hn1
      have HM := Lib.hid hm
      have HK := Lib.hid (kindAt_of hn1)
      clear hsw hn1 hm hk hr hlv hls
      go_upto_region 8 with (first
        | (refine wpList_load_mid (by rfl) 43 (.tmp 33) (by rfl) g (i * 19) (by rfl) m.cells _ HR.out undNode (by rfl) sizeNode ?_)
        | (refine wpList_store_mid (by rfl) 43 (.tmp 9) (.tmp 34) (by rfl) wr.heap.size 0 m.cells.toArray (by rfl) (by rfl) hth sizeNode hone ?_
           generalize hw4 : World.setCells _ _ _ _ = w4
           have F4 := Lib.hid (nd_stored (m := m) hw4)
           have k0 : w4.cell? ⟨wr.heap.size, 0, none⟩ = some (.int .i64 (n1.kind : Int)) := by
             have := F4.out.2.cell 0
             rw [← HM.out]
             exact this
           clear hw4 hth hone))
      have HS4 := Lib.hid (HS1.out.kept F4.out.1)
      by_cases hk1 : n1.kind = 1
      · have v1 : ((n1.kind : Int) != 1) = false := by rw [bne_eq_false_iff_eq]; omega
        have v2 : (n1.kind : Int) = 1 := by omega
        have HF := Lib.hid (fetch_yes (push := push) (HK.out.trans hk1))
        clear hk1
        have c6 : w4.cell? ⟨W.heap.size + 1 + 1 + 1, 0, none⟩ = some (RP (W.heap.size + 1 + 1)) := HS4.out.t6.cell 0
        obtain ⟨o7, cp7, rfl⟩ := row_slice HS4.out.row
        go_upto_block 2 with fail
        go_cut [10] (fun s10 wx => s10 = .int .i64 (lastOf ns push i : Int) ∧ SW W Ws wx (W.heap.size + 1 + 1) g cap ns p q tl (fetchP ns push (i + 1)).1 (fetchP ns push i).2 (.slice o7 (fetchP ns push i).2.length cp7))
        case first =>
          clear c6
          go_wp2_with fail
          go_loopg [10, 11, 12] (ns.length + 1) (fun gk2 c10 c11 c12 wr2 => WalkB ns push ((fetchP ns push i).2.length : Int) (lastOf ns push i) (fetchP ns push (i + 1)).1 gk2 c10 c11 c12 fun part => SW W Ws wr2 (W.heap.size + 1 + 1) g cap ns p q tl part (fetchP ns push i).2 (.slice o7 (fetchP ns push i).2.length cp7))
          case atStart => exact ⟨i, ns.length, false, (fetchP ns push i).1, hlt, by omega, rfl, rfl, HS4.out, .inl ⟨rfl, by omega, by rw [HF.out]; rfl, rfl⟩⟩
          case round =>
            obtain ⟨a, f, e, part, ha, haf, rfl, rfl, hsw, hon⟩ := hrel
            have HS5 := Lib.hid hsw
            clear hsw
            rcases hon with ⟨rfl, hgk2, hset, hlast⟩ | ⟨rfl, rfl, rfl⟩
            · have hby0 := HS5.out.sx.kp
              obtain ⟨x, hx⟩ : ∃ x, part[a]? = some x := ⟨part[a]'(by rw [HS5.out.sx.pl]; exact ha), List.getElem?_eq_getElem _⟩
              have c6 : wr.cell? ⟨W.heap.size + 1 + 1 + 1, 0, none⟩ = some (RP (W.heap.size + 1 + 1)) := HS5.out.t6.cell 0
              have c2 : wr.cell? ⟨W.heap.size + 1 + 1, 2, none⟩ = some (.slice (some ⟨q, 0, none⟩) ns.length ns.length) := HS5.out.sx.box.cell 2
              have c7 : wr.cell? ⟨tl, 0, none⟩ = some (.slice o7 (fetchP ns push i).2.length cp7) := HS5.out.lb.cell 0
              have HX5 := Lib.hid hx
              have a0 : (0 : Int) ≤ (a : Int) := by omega
              have a1 : (a : Int) < (ns.length : Int) := by omega
              have HSE := Lib.hid (And.intro hset hlast)
              clear hx hby0 hset hlast
              go_wp2_with fail
              rw [show (#[{ dst := some 40, op := Go.Op.load 53 (Go.Operand.tmp 6), type := 53, pos := "plan.go:111", after := #[], guard := none }, { dst := some 41, op := Go.Op.nilCheck (Go.Operand.tmp 40), type := 0, pos := "plan.go:111", after := #[{ on := 0, ground := Go.Ground.data }], guard := none }, { dst := some 42, op := Go.Op.fieldAddr 55 (Go.Operand.tmp 41) 2, type := 0, pos := "plan.go:111", after := #[{ on := 1, ground := Go.Ground.data }], guard := none }, { dst := some 43, op := Go.Op.load 39 (Go.Operand.tmp 42), type := 39, pos := "plan.go:111", after := #[{ on := 2, ground := Go.Ground.data }], guard := none }, { dst := some 44, op := Go.Op.move (Go.Operand.tmp 10), type := 3, pos := "plan.go:111", after := #[], guard := none }, { dst := some 45, op := Go.Op.load 39 (Go.Operand.tmp 7), type := 39, pos := "plan.go:111", after := #[], guard := none }, { dst := some 46, op := Go.Op.call { callee := Go.Callee.builtin Go.Builtin.len, args := #[Go.Operand.tmp 45], argTypes := #[39] }, type := 3, pos := "plan.go:111", after := #[{ on := 5, ground := Go.Ground.data }], guard := none }, { dst := some 47, op := Go.Op.indexAddr 39 (Go.Operand.tmp 43) (Go.Operand.tmp 44), type := 0, pos := "plan.go:111", after := #[{ on := 3, ground := Go.Ground.data }, { on := 4, ground := Go.Ground.data }, { on := 0, ground := Go.Ground.phase }, { on := 1, ground := Go.Ground.phase }, { on := 2, ground := Go.Ground.phase }, { on := 3, ground := Go.Ground.phase }, { on := 4, ground := Go.Ground.phase }, { on := 5, ground := Go.Ground.phase }, { on := 6, ground := Go.Ground.phase }], guard := none }, { dst := none, op := Go.Op.store 3 (Go.Operand.tmp 47) (Go.Operand.tmp 46), type := 0, pos := "plan.go:111", after := #[{ on := 7, ground := Go.Ground.data }, { on := 6, ground := Go.Ground.data }, { on := 0, ground := Go.Ground.phase }, { on := 1, ground := Go.Ground.phase }, { on := 2, ground := Go.Ground.phase }, { on := 3, ground := Go.Ground.phase }, { on := 4, ground := Go.Ground.phase }, { on := 5, ground := Go.Ground.phase }, { on := 6, ground := Go.Ground.phase }], guard := none }] : Array Oper) = Array.push #[{ dst := some 40, op := Go.Op.load 53 (Go.Operand.tmp 6), type := 53, pos := "plan.go:111", after := #[], guard := none }, { dst := some 41, op := Go.Op.nilCheck (Go.Operand.tmp 40), type := 0, pos := "plan.go:111", after := #[{ on := 0, ground := Go.Ground.data }], guard := none }, { dst := some 42, op := Go.Op.fieldAddr 55 (Go.Operand.tmp 41) 2, type := 0, pos := "plan.go:111", after := #[{ on := 1, ground := Go.Ground.data }], guard := none }, { dst := some 43, op := Go.Op.load 39 (Go.Operand.tmp 42), type := 39, pos := "plan.go:111", after := #[{ on := 2, ground := Go.Ground.data }], guard := none }, { dst := some 44, op := Go.Op.move (Go.Operand.tmp 10), type := 3, pos := "plan.go:111", after := #[], guard := none }, { dst := some 45, op := Go.Op.load 39 (Go.Operand.tmp 7), type := 39, pos := "plan.go:111", after := #[], guard := none }, { dst := some 46, op := Go.Op.call { callee := Go.Callee.builtin Go.Builtin.len, args := #[Go.Operand.tmp 45], argTypes := #[39] }, type := 3, pos := "plan.go:111", after := #[{ on := 5, ground := Go.Ground.data }], guard := none }, { dst := some 47, op := Go.Op.indexAddr 39 (Go.Operand.tmp 43) (Go.Operand.tmp 44), type := 0, pos := "plan.go:111", after := #[{ on := 3, ground := Go.Ground.data }, { on := 4, ground := Go.Ground.data }, { on := 0, ground := Go.Ground.phase }, { on := 1, ground := Go.Ground.phase }, { on := 2, ground := Go.Ground.phase }, { on := 3, ground := Go.Ground.phase }, { on := 4, ground := Go.Ground.phase }, { on := 5, ground := Go.Ground.phase }, { on := 6, ground := Go.Ground.phase }], guard := none }] { dst := none, op := Go.Op.store 3 (Go.Operand.tmp 47) (Go.Operand.tmp 46), type := 0, pos := "plan.go:111", after := #[{ on := 7, ground := Go.Ground.data }, { on := 6, ground := Go.Ground.data }, { on := 0, ground := Go.Ground.phase }, { on := 1, ground := Go.Ground.phase }, { on := 2, ground := Go.Ground.phase }, { on := 3, ground := Go.Ground.phase }, { on := 4, ground := Go.Ground.phase }, { on := 5, ground := Go.Ground.phase }, { on := 6, ground := Go.Ground.phase }], guard := none } from rfl]
              refine wp_region_last (S := fun w' => w'.cell? ⟨W.heap.size + 1 + 1 + 1, 0, none⟩ = some (RP (W.heap.size + 1 + 1)) ∧ w'.cell? ⟨W.heap.size + 1 + 1, 2, none⟩ = some (.slice (some ⟨q, 0, none⟩) ns.length ns.length) ∧ w'.cell? ⟨tl, 0, none⟩ = some (.slice o7 (fetchP ns push i).2.length cp7)) (by kernel_rfl) (by kernel_rfl) (show wr.drew.cell? _ = _ ∧ wr.drew.cell? _ = _ ∧ wr.drew.cell? _ = _ from ⟨c6, c2, c7⟩) (fun hHeld => ?_)
              have HSD := Lib.hid (HS5.out.kept (show Below wr.heap.size wr wr.drew from ⟨rfl, rfl, rfl, Nat.le_refl _, fun _ _ => rfl⟩))
              clear c6 c2 c7
              generalize wr.drew = wd at hHeld HSD ⊢
              refine wpAnyH_take (i := 0) (oi := { dst := some 40, op := Go.Op.load 53 (Go.Operand.tmp 6), type := 53, pos := "plan.go:111", after := #[], guard := none }) (v := ?v1) rfl (by kernel_rfl) (by kernel_rfl) (by kernel_rfl) (fun _ _ _ h => h) (Or.inl ⟨by rfl, ?hy1⟩) (by assumption) ?rest1
              case hy1 =>
                intro w hSw
                (try dsimp only at hSw)
                go_simp
                try with_reducible rfl
              try simp only [Act.put, List.setIfInBounds_toArray, List.set_cons_zero, List.set_cons_succ]
              refine wpAnyH_take (i := 1) (oi := { dst := some 41, op := Go.Op.nilCheck (Go.Operand.tmp 40), type := 0, pos := "plan.go:111", after := #[{ on := 0, ground := Go.Ground.data }], guard := none }) (v := ?v2) rfl (by kernel_rfl) (by kernel_rfl) (by kernel_rfl) (fun _ _ _ h => h) (Or.inl ⟨by rfl, ?hy2⟩) (by assumption) ?rest2
              case hy2 =>
                intro w hSw
                (try dsimp only at hSw)
                go_simp
                try with_reducible rfl
              try simp only [Act.put, List.setIfInBounds_toArray, List.set_cons_zero, List.set_cons_succ]
              refine wpAnyH_take (i := 2) (oi := { dst := some 42, op := Go.Op.fieldAddr 55 (Go.Operand.tmp 41) 2, type := 0, pos := "plan.go:111", after := #[{ on := 1, ground := Go.Ground.data }], guard := none }) (v := ?v3) rfl (by kernel_rfl) (by kernel_rfl) (by kernel_rfl) (fun _ _ _ h => h) (Or.inl ⟨by rfl, ?hy3⟩) (by assumption) ?rest3
              case hy3 =>
                intro w hSw
                (try dsimp only at hSw)
                go_simp
                try with_reducible rfl
              try simp only [Act.put, List.setIfInBounds_toArray, List.set_cons_zero, List.set_cons_succ]
              refine wpAnyH_take (i := 3) (oi := { dst := some 43, op := Go.Op.load 39 (Go.Operand.tmp 42), type := 39, pos := "plan.go:111", after := #[{ on := 2, ground := Go.Ground.data }], guard := none }) (v := ?v4) rfl (by kernel_rfl) (by kernel_rfl) (by kernel_rfl) (fun _ _ _ h => h) (Or.inl ⟨by rfl, ?hy4⟩) (by assumption) ?rest4
              case hy4 =>
                intro w hSw
                (try dsimp only at hSw)
                go_simp
                try with_reducible rfl
              try simp only [Act.put, List.setIfInBounds_toArray, List.set_cons_zero, List.set_cons_succ]
              refine wpAnyH_take (i := 4) (oi := { dst := some 44, op := Go.Op.move (Go.Operand.tmp 10), type := 3, pos := "plan.go:111", after := #[], guard := none }) (v := ?v5) rfl (by kernel_rfl) (by kernel_rfl) (by kernel_rfl) (fun _ _ _ h => h) (Or.inl ⟨by rfl, ?hy5⟩) (by assumption) ?rest5
              case hy5 =>
                intro w hSw
                (try dsimp only at hSw)
                go_simp
                try with_reducible rfl
              try simp only [Act.put, List.setIfInBounds_toArray, List.set_cons_zero, List.set_cons_succ]
              refine wpAnyH_take (i := 5) (oi := { dst := some 45, op := Go.Op.load 39 (Go.Operand.tmp 7), type := 39, pos := "plan.go:111", after := #[], guard := none }) (v := ?v6) rfl (by kernel_rfl) (by kernel_rfl) (by kernel_rfl) (fun _ _ _ h => h) (Or.inl ⟨by rfl, ?hy6⟩) (by assumption) ?rest6
              case hy6 =>
                intro w hSw
                (try dsimp only at hSw)
                go_simp
                try with_reducible rfl
              try simp only [Act.put, List.setIfInBounds_toArray, List.set_cons_zero, List.set_cons_succ]
              refine wpAnyH_take (i := 6) (oi := { dst := some 46, op := Go.Op.call { callee := Go.Callee.builtin Go.Builtin.len, args := #[Go.Operand.tmp 45], argTypes := #[39] }, type := 3, pos := "plan.go:111", after := #[{ on := 5, ground := Go.Ground.data }], guard := none }) (v := ?v7) rfl (by kernel_rfl) (by kernel_rfl) (by kernel_rfl) (fun _ _ _ h => h) (Or.inl ⟨by rfl, ?hy7⟩) (by assumption) ?rest7
              case hy7 =>
                intro w hSw
                (try dsimp only at hSw)
                go_simp
                try with_reducible rfl
              try simp only [Act.put, List.setIfInBounds_toArray, List.set_cons_zero, List.set_cons_succ]
              refine wpAnyH_take (i := 7) (oi := { dst := some 47, op := Go.Op.indexAddr 39 (Go.Operand.tmp 43) (Go.Operand.tmp 44), type := 0, pos := "plan.go:111", after := #[{ on := 3, ground := Go.Ground.data }, { on := 4, ground := Go.Ground.data }, { on := 0, ground := Go.Ground.phase }, { on := 1, ground := Go.Ground.phase }, { on := 2, ground := Go.Ground.phase }, { on := 3, ground := Go.Ground.phase }, { on := 4, ground := Go.Ground.phase }, { on := 5, ground := Go.Ground.phase }, { on := 6, ground := Go.Ground.phase }], guard := none }) (v := ?v8) rfl (by kernel_rfl) (by kernel_rfl) (by kernel_rfl) (fun _ _ _ h => h) (Or.inl ⟨by rfl, ?hy8⟩) (by assumption) ?rest8
              case hy8 =>
                intro w hSw
                (try dsimp only at hSw)
                go_simp
                try with_reducible rfl
              try simp only [Act.put, List.setIfInBounds_toArray, List.set_cons_zero, List.set_cons_succ]
              refine wpAnyH_done (by kernel_rfl) ?_ _
              have dq := intsZ_get HSD.out.sx.kp HX5.out
              have dq1 := HSD.out.sx.kp.free a
              refine then_step (fun K hK => ?_)
              go_simp
              refine hK.out _ _ ?_
              clear hK K hHeld dq dq1
              have HS6 := Lib.hid (HSD.out.put_part a ((fetchP ns push i).2.length : Int))
              generalize wd.setCell _ _ = w6 at HS6 ⊢
              clear HSD
              cases e with
              | true =>
                have HFI := Lib.hid (show part.set a ((fetchP ns push i).2.length : Int) = (fetchP ns push (i + 1)).1 ∧ a = lastOf ns push i from by
                  have h1 := HSE.out.1
                  have h2 := HSE.out.2
                  rw [chain_true] at h1
                  rw [lastP_true] at h2
                  exact ⟨h1, h2⟩)
                go_wp2_with fail
                go_meet
                exact ⟨by rw [← HFI.out.2], by rw [← HFI.out.1]; exact HS6.out⟩
              | false =>
                obtain ⟨f, rfl⟩ : ∃ f', f = f' + 1 := ⟨f - 1, by omega⟩
                rcases hg : goesP ns push a with ⟨on, e⟩
                have hgo := goes_any (push := push) HS6.out.sx.sm HQ.out.tree HQ.out.fits ha
                rw [hg] at hgo
                have HGO := Lib.hid hgo
                have HG := Lib.hid hg
                have c6 : w6.cell? ⟨W.heap.size + 1 + 1 + 1, 0, none⟩ = some (RP (W.heap.size + 1 + 1)) := HS6.out.t6.cell 0
                clear hgo hg
                cases on with
                | false =>
                  have HFI := Lib.hid (show part.set a ((fetchP ns push i).2.length : Int) = (fetchP ns push (i + 1)).1 ∧ a = lastOf ns push i from by
                    have h1 := HSE.out.1
                    have h2 := HSE.out.2
                    rw [chain_stop HG.out] at h1
                    rw [lastP_stop HG.out] at h2
                    exact ⟨h1, h2⟩)
                  go_wp2_with fail
                  refine HGO.out.mono ?_
                  rintro e2 w7 ⟨rfl, hdr⟩
                  have HS7 := Lib.hid (HS6.out.kept hdr.below)
                  clear hdr
                  go_wp2_with fail
                  go_roundg 0
                  case measure => omega
                  case rel => exact ⟨a, f + 1, e, _, ha, by omega, rfl, rfl, HS7.out, .inr ⟨rfl, HFI.out.1, HFI.out.2⟩⟩
                | true =>
                  obtain ⟨y, _, hy, _, _, _, _, hup, hay, hyn⟩ := goes_true HQ.out.tree HG.out
                  have HFI := Lib.hid (show setAll ((fetchP ns push i).2.length : Int) (chainP ns push f y e) (part.set a ((fetchP ns push i).2.length : Int)) = (fetchP ns push (i + 1)).1 ∧ lastP ns push f y e = lastOf ns push i from by
                    have h1 := HSE.out.1
                    have h2 := HSE.out.2
                    rw [chain_on HG.out, hup] at h1
                    rw [lastP_on HG.out, hup] at h2
                    exact ⟨h1, h2⟩)
                  have HY := Lib.hid hy
                  clear hy hup
                  go_wp2_with fail
                  refine HGO.out.mono ?_
                  rintro e2 w7 ⟨rfl, hdr⟩
                  have HS7 := Lib.hid (HS6.out.kept hdr.below)
                  have c6 : w7.cell? ⟨W.heap.size + 1 + 1 + 1, 0, none⟩ = some (RP (W.heap.size + 1 + 1)) := HS7.out.t6.cell 0
                  have c1 : w7.cell? ⟨W.heap.size + 1 + 1, 1, none⟩ = some (.slice (some ⟨p, 0, none⟩) ns.length ns.length) := HS7.out.sx.box.cell 1
                  have cy := intsZ_get HS7.out.sx.kb HY.out
                  clear hdr
                  go_wp2_with fail
                  go_roundg (ns.length - a)
                  case measure => omega
                  case rel => exact ⟨y, f, e, _, hyn, by omega, rfl, rfl, HS7.out, .inl ⟨rfl, by omega, HFI.out.1, HFI.out.2⟩⟩
            · go_wp2_with fail
              go_meet
              exact ⟨rfl, HS5.out⟩
        case rest =>
          obtain ⟨rfl, hsw⟩ := hcut
          have HS8 := Lib.hid hsw
          obtain ⟨i0, hi0, hz0, hz1, hz2⟩ := info_parts infoInt
          have HB2 := Lib.hid (show Below wc.heap.size wc (wc.alloc (.cells #[.int .i64 (lastOf ns push i : Int)] 3)) from (Below.refl _ _).alloc (Nat.le_refl _) _)
          have HS9 := Lib.hid (hsw.kept HB2.out)
          have HNW := Lib.hid (show ∀ (j : Nat) u, [Value.int .i64 (lastOf ns push i : Int)][j]? = some u → (wc.alloc (.cells #[.int .i64 (lastOf ns push i : Int)] 3)).cell? ((⟨wc.heap.size, 0, none⟩ : Addr).add j) = some u from fun j u hu => blk_cells (Blk.new wc 3 #[.int .i64 (lastOf ns push i : Int)]) j u (by simpa using hu))
          have HSZ := Lib.hid HS9.out.lu
          have c7 : wc.cell? ⟨tl, 0, none⟩ = some (.slice o7 (fetchP ns push i).2.length cp7) := hsw.lb.cell 0
          have HLL := Lib.hid (show (fetchP ns push i).2.length ≤ 128 from by rw [fetch_snd, List.length_map]; exact Nat.le_trans (fets_le ns i) (by omega))
          clear hsw c6
          go_wp2_with (at_builtin; refine wpList_append_own _ rfl _ _ _ rfl (tl + 1) 3 i0 _ 1 8 (by kernel_rfl) hi0 hz0 hz1 hz2 rfl (by decide) _ (fetchP ns push i).2.length (intsL (fetchP ns push i).2) rfl HS9.out.row ⟨wc.heap.size, 0, none⟩ 1 1 [.int .i64 (lastOf ns push i : Int)] rfl rfl HNW.out (by simp [Value.oneCell']) (by simp only [maxLen]; have := HLL.out; omega) (by have := HLL.out; omega) HSZ.out ?_)
          intro v' w' ho hgr _
          have HFN := Lib.hid (show SW W Ws (w'.setCell ⟨tl, 0, none⟩ v') (W.heap.size + 1 + 1) g cap ns p q tl (fetchP ns push (i + 1)).1 (fetchP ns push (i + 1)).2 v' from HS9.out.grow hgr (by
            rw [show (fetchP ns push (i + 1)).2 = (fetchP ns push i).2 ++ [lastOf ns push i] from congrArg Prod.snd HF.out, List.length_append, intsL, List.map_append]
            exact ho))
          have hlb := HS9.out.grow_lb hgr
          have d0 : w'.cell? ⟨tl, 0, none⟩ = some (.slice o7 (fetchP ns push i).2.length cp7) := hlb.cell 0
          have d1 := hlb.free 0
          obtain ⟨o8, cp8, rfl⟩ := row_slice ho
          clear ho hgr hlb c7
          go_wp2_with fail
          go_roundg (ns.length - i)
          case measure => omega
          case rel => exact ⟨i + 1, _, by omega, by omega, rfl, HFN.out⟩
      · have v1 : ((n1.kind : Int) != 1) = true := by rw [bne_iff_ne]; omega
        have v2 : ¬ (n1.kind : Int) = 1 := by omega
        have HF := Lib.hid (fetch_no (push := push) (i := i) (ns := ns) (by rw [HK.out]; exact hk1))
        clear hk1
        go_wp2_with fail
        go_roundg (ns.length - i)
        case measure => omega
        case rel => exact ⟨i + 1, lv, by omega, by omega, rfl, by rw [HF.out]; exact HS4.out⟩
    · have hin : i = ns.length := by omega
      subst hin
      have t1 : ¬ (ns.length : Int) < (ns.length : Int) := by omega
      have t2 : decide ((ns.length : Int) < (ns.length : Int)) = false := decide_eq_false t1
      have c6 : wr.cell? ⟨W.heap.size + 1 + 1 + 1, 0, none⟩ = some (RP (W.heap.size + 1 + 1)) := HS1.out.t6.cell 0
      have c0 : wr.cell? ⟨W.heap.size + 1 + 1, 0, none⟩ = some (.slice (some ⟨g, 0, none⟩) ns.length cap) := HS1.out.sx.box.cell 0
      have hpos : 0 < ns.length := List.length_pos_iff.2 HQ.out.tree.ne
      have a8 : IntKind.i64.wrap ((ns.length : Int) - 1) = (ns.length : Int) - 1 := IntWalk.i64_in _ (by omega)
      have HC0 := Lib.hid (show condP ns ns.length (fetchP ns push ns.length).1 = partS ns push from rfl)
      clear hsw
      go_wp2_with fail
      go_loopg [13] (ns.length + 1) (fun gk2 c wr2 => ∃ (i : Nat) (part : List Int), i ≤ ns.length ∧ i < gk2 ∧ c = .int .i64 ((i : Int) - 1) ∧ SW W Ws wr2 (W.heap.size + 1 + 1) g cap ns p q tl part (lastS ns push) lv ∧ condP ns i part = partS ns push)
      case atStart => exact ⟨ns.length, _, Nat.le_refl _, by omega, rfl, HS1.out, HC0.out⟩
      case round =>
        obtain ⟨i, part, hi, hgk2, rfl, hsw, hcond⟩ := hrel
        clear c6 c0 a8
        have HS2 := Lib.hid hsw
        have HCO := Lib.hid hcond
        have c6 : wr.cell? ⟨W.heap.size + 1 + 1 + 1, 0, none⟩ = some (RP (W.heap.size + 1 + 1)) := HS2.out.t6.cell 0
        have c0 : wr.cell? ⟨W.heap.size + 1 + 1, 0, none⟩ = some (.slice (some ⟨g, 0, none⟩) ns.length cap) := HS2.out.sx.box.cell 0
        clear hsw hcond
        rcases Nat.eq_zero_or_pos i with rfl | hpos2
        · have HP := Lib.hid (show part = partS ns push from HCO.out)
          rw [show (((0 : Nat) : Int) - 1) = (-1 : Int) from rfl]
          go_upto_region 26 with fail
          obtain ⟨pb, hpb⟩ : ∃ pb, pb = wr.heap.size := ⟨_, rfl⟩
          have HV := Lib.hid (show SV W Ws (wr.alloc (.cells #[.slice none 0 0, .slice none 0 0] 31)) (W.heap.size + 1 + 1) g cap ns push p q tl lv pb (.slice none 0 0) (.slice none 0 0) [] 0 from by
            have hb : Below wr.heap.size wr (wr.alloc (.cells #[.slice none 0 0, .slice none 0 0] 31)) := (Below.refl _ _).alloc (Nat.le_refl _) _
            refine ⟨by rw [← HP.out]; exact HS2.out.kept hb, by rw [hpb]; exact Blk.new _ _ _, QRow.nil, by rw [hpb]; exact HS2.out.lu⟩)
          rw [← hpb]
          generalize wr.alloc _ = w3 at HV ⊢
          clear hpb c6 c0 HS2 HP HC0 HCO
          obtain ⟨o7, cp7, rfl⟩ := row_slice HV.out.sw.row
          have c7 : w3.cell? ⟨tl, 0, none⟩ = some (.slice o7 (lastS ns push).length cp7) := HV.out.sw.lb.cell 0
          have hK : (lastS ns push).length ≤ 128 := by rw [lasts_len]; exact Nat.le_trans (fets_le ns _) hs
          go_wp2_with fail
          go_loopg [110] ((lastS ns push).length + 1) (fun gk2 c wr2 => ∃ (k : Nat) (pv : Value) (vs : List Value), k ≤ (lastS ns push).length ∧ (lastS ns push).length < k + gk2 ∧ c = .int .i64 (k : Int) ∧ SV W Ws wr2 (W.heap.size + 1 + 1) g cap ns push p q tl (.slice o7 (lastS ns push).length cp7) pb pv (.slice none 0 0) vs k)
          case atStart => exact ⟨0, _, _, Nat.zero_le _, by omega, rfl, HV.out⟩
          case round =>
            obtain ⟨k, pv, vs, hk, hgk2, rfl, hsv⟩ := hrel
            clear c7
            have HV1 := Lib.hid hsv
            by_cases hkl : k < (lastS ns push).length
            · have t0 : (0 : Int) ≤ (k : Int) := by omega
              have t1 : (k : Int) < ((lastS ns push).length : Int) := by omega
              have t2 : decide ((k : Int) < ((lastS ns push).length : Int)) = true := decide_eq_true t1
              have w4_ : IntKind.i64.wrap ((k : Int) + 1) = (k : Int) + 1 := IntWalk.i64_in _ (by omega)
              have HSP := Lib.hid (splitParts_get (push := push) hkl)
              have hlk : ((splitParts ns push).take k).length = k := by
                have : (splitParts ns push).length = (lastS ns push).length := by simp [splitParts]
                rw [List.length_take, this]
                omega
              have hrow := hsv.qr.row
              rw [hlk] at hrow
              obtain ⟨o9, cp9, rfl⟩ := row_slice hrow
              have HLK := Lib.hid hlk
              clear hsv hrow hlk
              go_upto_region 29 with fail
              obtain ⟨kb, hkb⟩ : ∃ kb, kb = wr.heap.size := ⟨_, rfl⟩
              have HV4 := Lib.hid (show SV W Ws (wr.alloc (.cells #[.int .i64 (k : Int)] 3)) (W.heap.size + 1 + 1) g cap ns push p q tl (.slice o7 (lastS ns push).length cp7) pb (.slice o9 k cp9) (.slice none 0 0) vs k ∧ Blk (wr.alloc (.cells #[.int .i64 (k : Int)] 3)) kb 3 #[.int .i64 (k : Int)] from
                ⟨HV1.out.kept ((Below.refl _ _).alloc (Nat.le_refl _) _), by rw [hkb]; exact Blk.new _ _ _⟩)
              rw [← hkb]
              generalize wr.alloc _ = w4 at HV4 ⊢
              clear hkb HV1
              have c6 : w4.cell? ⟨W.heap.size + 1 + 1 + 1, 0, none⟩ = some (RP (W.heap.size + 1 + 1)) := HV4.out.1.sw.t6.cell 0
              have cp : w4.cell? ⟨pb, 0, none⟩ = some (.slice o9 k cp9) := HV4.out.1.pl.cell 0
              rw [show (#[{ dst := some 113, op := Go.Op.fieldAddr 31 (Go.Operand.tmp 15) 0, type := 0, pos := "plan.go:130", after := #[], guard := none }, { dst := some 114, op := Go.Op.load 29 (Go.Operand.tmp 113), type := 29, pos := "plan.go:130", after := #[{ on := 0, ground := Go.Ground.data }], guard := none }, { dst := some 115, op := Go.Op.load 53 (Go.Operand.tmp 6), type := 53, pos := "plan.go:130", after := #[], guard := none }, { dst := some 116, op := Go.Op.makeFunc (Go.Fn.func 19) #[] #[Go.Operand.tmp 6, Go.Operand.tmp 16], type := 60, pos := "plan.go:130", after := #[], guard := none }, { dst := some 117, op := Go.Op.move (Go.Operand.tmp 14), type := 58, pos := "plan.go:130", after := #[], guard := none }, { dst := some 118, op := Go.Op.call { callee := Go.Callee.value (Go.Operand.func 18), args := #[Go.Operand.tmp 115, Go.Operand.tmp 116, Go.Operand.tmp 117], argTypes := #[53, 60, 58] }, type := 25, pos := "plan.go:130", after := #[{ on := 2, ground := Go.Ground.data }, { on := 3, ground := Go.Ground.data }, { on := 4, ground := Go.Ground.data }], guard := none }, { dst := some 119, op := Go.Op.buildSlice 29 1 #[(0, Go.Operand.tmp 118)], type := 29, pos := "plan.go:130", after := #[{ on := 5, ground := Go.Ground.data }], guard := none }, { dst := some 120, op := Go.Op.call { callee := Go.Callee.builtin Go.Builtin.append, args := #[Go.Operand.tmp 114, Go.Operand.tmp 119], argTypes := #[29, 29] }, type := 29, pos := "plan.go:130", after := #[{ on := 1, ground := Go.Ground.data }, { on := 6, ground := Go.Ground.data }, { on := 5, ground := Go.Ground.chain }], guard := none }, { dst := some 121, op := Go.Op.fieldAddr 31 (Go.Operand.tmp 15) 0, type := 0, pos := "plan.go:130", after := #[{ on := 0, ground := Go.Ground.phase }, { on := 1, ground := Go.Ground.phase }, { on := 2, ground := Go.Ground.phase }, { on := 3, ground := Go.Ground.phase }, { on := 4, ground := Go.Ground.phase }, { on := 5, ground := Go.Ground.phase }, { on := 6, ground := Go.Ground.phase }, { on := 7, ground := Go.Ground.phase }], guard := none }, { dst := none, op := Go.Op.store 29 (Go.Operand.tmp 121) (Go.Operand.tmp 120), type := 0, pos := "plan.go:130", after := #[{ on := 8, ground := Go.Ground.data }, { on := 7, ground := Go.Ground.data }, { on := 7, ground := Go.Ground.chain }, { on := 0, ground := Go.Ground.phase }, { on := 1, ground := Go.Ground.phase }, { on := 2, ground := Go.Ground.phase }, { on := 3, ground := Go.Ground.phase }, { on := 4, ground := Go.Ground.phase }, { on := 5, ground := Go.Ground.phase }, { on := 6, ground := Go.Ground.phase }, { on := 7, ground := Go.Ground.phase }], guard := none }] : Array Oper) = Array.push #[{ dst := some 113, op := Go.Op.fieldAddr 31 (Go.Operand.tmp 15) 0, type := 0, pos := "plan.go:130", after := #[], guard := none }, { dst := some 114, op := Go.Op.load 29 (Go.Operand.tmp 113), type := 29, pos := "plan.go:130", after := #[{ on := 0, ground := Go.Ground.data }], guard := none }, { dst := some 115, op := Go.Op.load 53 (Go.Operand.tmp 6), type := 53, pos := "plan.go:130", after := #[], guard := none }, { dst := some 116, op := Go.Op.makeFunc (Go.Fn.func 19) #[] #[Go.Operand.tmp 6, Go.Operand.tmp 16], type := 60, pos := "plan.go:130", after := #[], guard := none }, { dst := some 117, op := Go.Op.move (Go.Operand.tmp 14), type := 58, pos := "plan.go:130", after := #[], guard := none }, { dst := some 118, op := Go.Op.call { callee := Go.Callee.value (Go.Operand.func 18), args := #[Go.Operand.tmp 115, Go.Operand.tmp 116, Go.Operand.tmp 117], argTypes := #[53, 60, 58] }, type := 25, pos := "plan.go:130", after := #[{ on := 2, ground := Go.Ground.data }, { on := 3, ground := Go.Ground.data }, { on := 4, ground := Go.Ground.data }], guard := none }, { dst := some 119, op := Go.Op.buildSlice 29 1 #[(0, Go.Operand.tmp 118)], type := 29, pos := "plan.go:130", after := #[{ on := 5, ground := Go.Ground.data }], guard := none }, { dst := some 120, op := Go.Op.call { callee := Go.Callee.builtin Go.Builtin.append, args := #[Go.Operand.tmp 114, Go.Operand.tmp 119], argTypes := #[29, 29] }, type := 29, pos := "plan.go:130", after := #[{ on := 1, ground := Go.Ground.data }, { on := 6, ground := Go.Ground.data }, { on := 5, ground := Go.Ground.chain }], guard := none }, { dst := some 121, op := Go.Op.fieldAddr 31 (Go.Operand.tmp 15) 0, type := 0, pos := "plan.go:130", after := #[{ on := 0, ground := Go.Ground.phase }, { on := 1, ground := Go.Ground.phase }, { on := 2, ground := Go.Ground.phase }, { on := 3, ground := Go.Ground.phase }, { on := 4, ground := Go.Ground.phase }, { on := 5, ground := Go.Ground.phase }, { on := 6, ground := Go.Ground.phase }, { on := 7, ground := Go.Ground.phase }], guard := none }] { dst := none, op := Go.Op.store 29 (Go.Operand.tmp 121) (Go.Operand.tmp 120), type := 0, pos := "plan.go:130", after := #[{ on := 8, ground := Go.Ground.data }, { on := 7, ground := Go.Ground.data }, { on := 7, ground := Go.Ground.chain }, { on := 0, ground := Go.Ground.phase }, { on := 1, ground := Go.Ground.phase }, { on := 2, ground := Go.Ground.phase }, { on := 3, ground := Go.Ground.phase }, { on := 4, ground := Go.Ground.phase }, { on := 5, ground := Go.Ground.phase }, { on := 6, ground := Go.Ground.phase }, { on := 7, ground := Go.Ground.phase }], guard := none } from rfl]
              refine wp_region_last (S := fun w' => w'.cell? ⟨W.heap.size + 1 + 1 + 1, 0, none⟩ = some (RP (W.heap.size + 1 + 1)) ∧ w'.cell? ⟨pb, 0, none⟩ = some (.slice o9 k cp9)) (by kernel_rfl) (by kernel_rfl) (show w4.drew.cell? _ = _ ∧ w4.drew.cell? _ = _ from ⟨c6, cp⟩) (fun hHeld => ?_)
              have hbd : Below w4.heap.size w4 w4.drew := ⟨rfl, rfl, rfl, Nat.le_refl _, fun _ _ => rfl⟩
              have HVD := Lib.hid (And.intro (HV4.out.1.kept hbd) (HV4.out.2.kept hbd))
              clear c6 cp hbd
              generalize w4.drew = wd at hHeld HVD ⊢
              have c6 : wd.cell? ⟨W.heap.size + 1 + 1 + 1, 0, none⟩ = some (RP (W.heap.size + 1 + 1)) := HVD.out.1.sw.t6.cell 0
              have HTK := Lib.hid (take_part (so := inPart ns push k) (made := nodeAt ns) (f1 := ⟨W.heap.size + 1 + 1 + 1, 0, none⟩) (f2 := ⟨kb, 0, none⟩) (m1 := ⟨W.heap.size + 1 + 1 + 1, 0, none⟩) HVD.out.1.sw.sx.sm
                (fun W1 i hb hi => by
                  obtain ⟨x, hx⟩ : ∃ x, (partS ns push)[i]? = some x := ⟨(partS ns push)[i]'(by rw [part_len]; exact hi), List.getElem?_eq_getElem _⟩
                  have := in_part (a := i) (HVD.out.1.sw.sx.sm.kept hb) (keepc hb c6) ((HVD.out.2.kept hb).cell 0) hx
                  unfold inPart
                  rw [partAt_of hx]
                  exact this)
                (fun W1 i hb hi _ => by
                  have hn : ns[i]? = some ns[i] := List.getElem?_eq_getElem hi
                  rw [nodeAt_of hn]
                  exact node_of (HVD.out.1.sw.sx.sm.kept hb) (keepc hb c6) hn)
                (fun i hi _ => by
                  have hn : ns[i]? = some ns[i] := List.getElem?_eq_getElem hi
                  rw [nodeAt_of hn]
                  exact node_l HQ.out hn))
              obtain ⟨iq, hiq, hq0, hq1, hq2⟩ := info_parts infoQuery
              clear c6
              refine wpAnyH_take (i := 0) (oi := { dst := some 113, op := Go.Op.fieldAddr 31 (Go.Operand.tmp 15) 0, type := 0, pos := "plan.go:130", after := #[], guard := none }) (v := ?v28) rfl (by kernel_rfl) (by kernel_rfl) (by kernel_rfl) (fun _ _ _ h => h) (Or.inl ⟨by rfl, ?hy28⟩) (by assumption) ?rest28
              case hy28 =>
                intro w hSw
                (try dsimp only at hSw)
                go_simp
                try with_reducible rfl
              try simp only [Act.put, List.setIfInBounds_toArray, List.set_cons_zero, List.set_cons_succ]
              refine wpAnyH_take (i := 1) (oi := { dst := some 114, op := Go.Op.load 29 (Go.Operand.tmp 113), type := 29, pos := "plan.go:130", after := #[{ on := 0, ground := Go.Ground.data }], guard := none }) (v := ?v29) rfl (by kernel_rfl) (by kernel_rfl) (by kernel_rfl) (fun _ _ _ h => h) (Or.inl ⟨by rfl, ?hy29⟩) (by assumption) ?rest29
              case hy29 =>
                intro w hSw
                (try dsimp only at hSw)
                go_simp
                try with_reducible rfl
              try simp only [Act.put, List.setIfInBounds_toArray, List.set_cons_zero, List.set_cons_succ]
              refine wpAnyH_take (i := 2) (oi := { dst := some 115, op := Go.Op.load 53 (Go.Operand.tmp 6), type := 53, pos := "plan.go:130", after := #[], guard := none }) (v := ?v30) rfl (by kernel_rfl) (by kernel_rfl) (by kernel_rfl) (fun _ _ _ h => h) (Or.inl ⟨by rfl, ?hy30⟩) (by assumption) ?rest30
              case hy30 =>
                intro w hSw
                (try dsimp only at hSw)
                go_simp
                try with_reducible rfl
              try simp only [Act.put, List.setIfInBounds_toArray, List.set_cons_zero, List.set_cons_succ]
              refine wpAnyH_take (i := 3) (oi := { dst := some 116, op := Go.Op.makeFunc (Go.Fn.func 19) #[] #[Go.Operand.tmp 6, Go.Operand.tmp 16], type := 60, pos := "plan.go:130", after := #[], guard := none }) (v := ?v31) rfl (by kernel_rfl) (by kernel_rfl) (by kernel_rfl) (fun _ _ _ h => h) (Or.inl ⟨by rfl, ?hy31⟩) (by assumption) ?rest31
              case hy31 =>
                intro w hSw
                (try dsimp only at hSw)
                go_simp
                try with_reducible rfl
              try simp only [Act.put, List.setIfInBounds_toArray, List.set_cons_zero, List.set_cons_succ]
              refine wpAnyH_take (i := 4) (oi := { dst := some 117, op := Go.Op.move (Go.Operand.tmp 14), type := 58, pos := "plan.go:130", after := #[], guard := none }) (v := ?v32) rfl (by kernel_rfl) (by kernel_rfl) (by kernel_rfl) (fun _ _ _ h => h) (Or.inl ⟨by rfl, ?hy32⟩) (by assumption) ?rest32
              case hy32 =>
                intro w hSw
                (try dsimp only at hSw)
                go_simp
                try with_reducible rfl
              try simp only [Act.put, List.setIfInBounds_toArray, List.set_cons_zero, List.set_cons_succ]
              refine wpAnyH_ready (rs := [5]) (by kernel_rfl) (by simp) ?_
              refine AllReadyH.cons (o := { dst := some 118, op := Go.Op.call { callee := Go.Callee.value (Go.Operand.func 18), args := #[Go.Operand.tmp 115, Go.Operand.tmp 116, Go.Operand.tmp 117], argTypes := #[53, 60, 58] }, type := 25, pos := "plan.go:130", after := #[{ on := 2, ground := Go.Ground.data }, { on := 3, ground := Go.Ground.data }, { on := 4, ground := Go.Ground.data }], guard := none }) rfl (fun K hK => ?_) ?_
              · go_simp
                go_at_call 18
                (with_reducible refine HTK.out.mono ?_)
                rintro e w5 ⟨v, rfl, hno, hb5⟩
                have HN5 := Lib.hid hno
                obtain ⟨o10, cp10, rfl⟩ : ∃ o c, v = .slice o (takeP ns (inPart ns push k) (nodeAt ns) ns.length).2.length c := by
                  obtain ⟨ms, _, ho, _⟩ := hno
                  exact row_slice ho
                have HV5 := Lib.hid (HVD.out.1.kept hb5)
                clear hno hb5
                refine hK.out _ _ ?_ (fun hHeld => ?_)
                · exact ⟨HV5.out.sw.t6.cell 0, HV5.out.pl.cell 0⟩
                · clear hK K
                  try simp only [Act.put, List.setIfInBounds_toArray, List.set_cons_zero, List.set_cons_succ]
                  refine wpAnyH_ready (rs := [6]) (by kernel_rfl) (by simp) ?_
                  refine AllReadyH.cons (o := { dst := some 119, op := Go.Op.buildSlice 29 1 #[(0, Go.Operand.tmp 118)], type := 29, pos := "plan.go:130", after := #[{ on := 5, ground := Go.Ground.data }], guard := none }) rfl (fun K hK => ?_) ?_
                  · go_simp
                    have HB6 := Lib.hid (show Below w5.heap.size w5 (w5.alloc (.cells #[.slice o10 (takeP ns (inPart ns push k) (nodeAt ns) ns.length).2.length cp10] 25)) from (Below.refl _ _).alloc (Nat.le_refl _) _)
                    have HV6 := Lib.hid (And.intro (HV5.out.kept HB6.out) (HN5.out.zero.kept HB6.out))
                    have HNW := Lib.hid (show ∀ (j : Nat) u, [Value.slice o10 (takeP ns (inPart ns push k) (nodeAt ns) ns.length).2.length cp10][j]? = some u → (w5.alloc (.cells #[.slice o10 (takeP ns (inPart ns push k) (nodeAt ns) ns.length).2.length cp10] 25)).cell? ((⟨w5.heap.size, 0, none⟩ : Addr).add j) = some u from fun j u hu => blk_cells (Blk.new w5 25 #[.slice o10 (takeP ns (inPart ns push k) (nodeAt ns) ns.length).2.length cp10]) j u (by simpa using hu))
                    have HRQ := HV6.out.1.qr.row
                    rw [HLK.out] at HRQ
                    have HRQ := Lib.hid HRQ
                    generalize hw6 : w5.alloc _ = w6 at HB6 HV6 HNW HRQ ⊢
                    clear hw6
                    refine hK.out _ _ ?_ (fun hHeld => ?_)
                    · exact ⟨HV6.out.1.sw.t6.cell 0, HV6.out.1.pl.cell 0⟩
                    · clear hK K
                      try simp only [Act.put, List.setIfInBounds_toArray, List.set_cons_zero, List.set_cons_succ]
                      refine wpAnyH_ready (rs := [7]) (by kernel_rfl) (by simp) ?_
                      refine AllReadyH.cons (o := { dst := some 120, op := Go.Op.call { callee := Go.Callee.builtin Go.Builtin.append, args := #[Go.Operand.tmp 114, Go.Operand.tmp 119], argTypes := #[29, 29] }, type := 29, pos := "plan.go:130", after := #[{ on := 1, ground := Go.Ground.data }, { on := 6, ground := Go.Ground.data }, { on := 5, ground := Go.Ground.chain }], guard := none }) rfl (fun K hK => ?_) ?_
                      · refine step_append_lies _ (by rfl) _ _ _ (by rfl) (pb + 1) 25 iq _ 1 24 (by kernel_rfl) hiq hq0 hq1 hq2 (by rfl) (by decide) _ k vs (by rfl) HRQ.out ⟨w5.heap.size, 0, none⟩ 1 1 [.slice o10 (takeP ns (inPart ns push k) (nodeAt ns) ns.length).2.length cp10] (by rfl) (by rfl) HNW.out (by simp [Value.oneCell']) (by decide) (by unfold maxLen; omega) (by omega) HV6.out.1.pl.lt _ rfl ?_
                        intro gq cq w7 ho hgr _ _
                        have HG := Lib.hid (HV6.out.1.grow HSP.out HV6.out.2 hgr (by rw [HLK.out]; exact ho))
                        clear ho hgr
                        refine hK.out _ _ ?_ (fun hHeld => ?_)
                        · exact ⟨HG.out.2.1.t6.cell 0, HG.out.1.cell 0⟩
                        · clear hK K
                          try simp only [Act.put, List.setIfInBounds_toArray, List.set_cons_zero, List.set_cons_succ]
                          refine wpAnyH_take (i := 8) (oi := { dst := some 121, op := Go.Op.fieldAddr 31 (Go.Operand.tmp 15) 0, type := 0, pos := "plan.go:130", after := #[{ on := 0, ground := Go.Ground.phase }, { on := 1, ground := Go.Ground.phase }, { on := 2, ground := Go.Ground.phase }, { on := 3, ground := Go.Ground.phase }, { on := 4, ground := Go.Ground.phase }, { on := 5, ground := Go.Ground.phase }, { on := 6, ground := Go.Ground.phase }, { on := 7, ground := Go.Ground.phase }], guard := none }) (v := ?v33) rfl (by kernel_rfl) (by kernel_rfl) (by kernel_rfl) (fun _ _ _ h => h) (Or.inl ⟨by rfl, ?hy33⟩) (by assumption) ?rest33
                          case hy33 =>
                            intro w hSw
                            (try dsimp only at hSw)
                            go_simp
                            try with_reducible rfl
                          try simp only [Act.put, List.setIfInBounds_toArray, List.set_cons_zero, List.set_cons_succ]
                          refine wpAnyH_done (by kernel_rfl) ?_ _
                          have dq : w7.cell? ⟨pb, 0, none⟩ = some (.slice o9 k cp9) := HG.out.1.cell 0
                          have dq1 := HG.out.1.free 0
                          refine then_step (fun K hK => ?_)
                          go_simp
                          refine hK.out _ _ ?_
                          clear hK K dq dq1
                          have HV8 := Lib.hid HG.out.2.2
                          generalize w7.setCell _ _ = w8 at HV8 ⊢
                          clear HG HV6 HNW HRQ HB6 HN5 HV5
                          go_wp2_with fail
                          go_roundg ((lastS ns push).length - k)
                          case measure => omega
                          case rel => exact ⟨k + 1, _, _, by omega, by omega, rfl, HV8.out⟩
                      exact AllReadyH.nil
                  exact AllReadyH.nil
              exact AllReadyH.nil
            · have hin : k = (lastS ns push).length := by omega
              subst hin
              have t1 : ¬ ((lastS ns push).length : Int) < ((lastS ns push).length : Int) := by omega
              have t2 : decide (((lastS ns push).length : Int) < ((lastS ns push).length : Int)) = false := decide_eq_false t1
              have hall : (splitParts ns push).take (lastS ns push).length = splitParts ns push := List.take_of_length_le (by simp [splitParts])
              have HALL := Lib.hid hall
              clear hsv hall
              have c6 : wr.cell? ⟨W.heap.size + 1 + 1 + 1, 0, none⟩ = some (RP (W.heap.size + 1 + 1)) := HV1.out.sw.t6.cell 0
              have c7 : wr.cell? ⟨tl, 0, none⟩ = some (.slice o7 (lastS ns push).length cp7) := HV1.out.sw.lb.cell 0
              have hlp := last_pos HQ.out push
              obtain ⟨ol, cl7, hov, _, _, hoc⟩ := ints_row HV1.out.sw.row
              obtain ⟨lg, hlg, hlc⟩ := hoc (List.length_pos_iff.1 hlp)
              rw [hlg] at hov
              injection hov with hov
              subst hov
              have HTK := Lib.hid (take_rest (so := inRest ns push) (made := restNode ns push) (f1 := ⟨W.heap.size + 1 + 1 + 1, 0, none⟩) (f2 := ⟨tl, 0, none⟩) (m1 := ⟨W.heap.size + 1 + 1 + 1, 0, none⟩) HV1.out.sw.sx.sm
                (fun W1 i hb hi => by
                  obtain ⟨x, hx⟩ : ∃ x, (partS ns push)[i]? = some x := ⟨(partS ns push)[i]'(by rw [part_len]; exact hi), List.getElem?_eq_getElem _⟩
                  have := in_rest (a := i) (lasts := (lastS ns push).map fun (y : Nat) => (y : Int)) (HV1.out.sw.sx.sm.kept hb) (keepc hb c6) (keepc hb c7) hx (fun h0 => by
                    rcases at_cases HQ.out (push := push) hi with h | ⟨k, j, h1, h2⟩
                    · rw [partAt_of hx] at h; omega
                    · rw [partAt_of hx] at h2
                      have h3 := lasts_get (push := push) h1
                      have h4 := some_lt h3
                      subst h2
                      refine ⟨lastOf ns push j, by omega, hK, ?_, ?_⟩
                      · rw [Int.toNat_natCast]
                        exact keepc hb (hlc k _ h3)
                      · rw [Int.toNat_natCast, List.getElem?_map, h3]
                        rfl)
                  unfold inRest
                  rw [partAt_of hx]
                  have e : decide (((lastS ns push).map fun (y : Nat) => (y : Int))[x.toNat]? = some (i : Int)) = decide ((lastS ns push)[x.toNat]? = some i) := by
                    rw [Bool.eq_iff_iff, decide_eq_true_eq, decide_eq_true_eq, List.getElem?_map]
                    rcases (lastS ns push)[x.toNat]? with _ | z
                    · simp
                    · simp; omega
                  rw [e] at this
                  exact this)
                (fun W1 i hb hi _ => by
                  have hn : ns[i]? = some ns[i] := List.getElem?_eq_getElem hi
                  obtain ⟨x, hx⟩ : ∃ x, (partS ns push)[i]? = some x := ⟨(partS ns push)[i]'(by rw [part_len]; exact hi), List.getElem?_eq_getElem _⟩
                  have := rest_of (HV1.out.sw.sx.sm.kept hb) (keepc hb c6) hn hx
                  unfold restNode
                  rw [nodeAt_of hn, partAt_of hx]
                  exact this)
                (fun i hi _ => rest_l HQ.out hi))
              clear hlc c7 hlp
              go_wp2_with fail
              refine HTK.out.mono ?_
              rintro e w5 ⟨v, rfl, hno, hb5⟩
              have HN5 := Lib.hid hno
              obtain ⟨o10, cp10, rfl⟩ : ∃ o c, v = .slice o (splitRest ns push).length c := by
                obtain ⟨ms, _, ho, _⟩ := hno
                exact row_slice ho
              have HV5 := Lib.hid (HV1.out.kept hb5)
              have hr9 := HV1.out.qr.row
              rw [HALL.out] at hr9
              obtain ⟨o9, cp9, rfl⟩ := row_slice hr9
              clear hno hb5 c6 hr9
              have p0 : w5.cell? ⟨pb, 0, none⟩ = some (.slice o9 (splitParts ns push).length cp9) := HV5.out.pl.cell 0
              have p1 : w5.cell? ⟨pb, 1, none⟩ = some (.slice none 0 0) := HV5.out.pl.cell 1
              have q1 := HV5.out.pl.free 1
              have hne : pb ≠ W.heap.size + 1 := by have := HV5.out.sw.wse; have := HV5.out.sw.lts; have := HV5.out.lt; omega
              have hne2 : W.heap.size + 1 ≠ pb := fun e => hne e.symm
              have HRE := Lib.hid HV5.out.sw.res
              have r0 : w5.cell? ⟨W.heap.size + 1, 0, none⟩ = some (.slice none 0 0) := HRE.out.cell 0
              have r1 : w5.cell? ⟨W.heap.size + 1, 1, none⟩ = some (.slice none 0 0) := HRE.out.cell 1
              have s0 := HRE.out.free 0
              have s1 := HRE.out.free 1
              have HEN := Lib.hid (split_end HALL.out HV5.out HN5.out.zero)
              go_wp2_with fail
              exact bodyPost_ret (res_plan Try.results7 rfl rfl HEN.out.1) rfl ⟨_, _, vs, rfl, HEN.out.2⟩
        · obtain ⟨i, rfl⟩ : ∃ j, i = j + 1 := ⟨i - 1, by omega⟩
          have hlt2 : i < ns.length := by omega
          obtain ⟨n1, hn1⟩ : ∃ n1, ns[i]? = some n1 := ⟨ns[i], List.getElem?_eq_getElem hlt2⟩
          obtain ⟨_, _, _, hnd⟩ := nr_node HS2.out.sx.sm.nr hn1
          have hck : wr.cell? ⟨g, i * 19, none⟩ = some (.int .i64 (n1.kind : Int)) := hnd.kind
          rw [show (((i + 1 : Nat) : Int) - 1) = (i : Int) from by omega]
          have t0 : (0 : Int) ≤ (i : Int) := by omega
          have t1 : (i : Int) < (ns.length : Int) := by omega
          have w3_ : IntKind.i64.wrap ((i : Int) - 1) = (i : Int) - 1 := IntWalk.i64_in _ (by omega)
          have HK := Lib.hid (kindAt_of hn1)
          clear hnd hn1
          by_cases hk : 11 ≤ n1.kind
          · have v1 : decide (11 ≤ n1.kind) = true := decide_eq_true hk
            have v2 : decide ((11 : Int) ≤ (n1.kind : Int)) = true := decide_eq_true (by omega)
            obtain ⟨_, _, _, hu1, hu2, hu3⟩ := up_of HQ.out (cond_not_last HQ.out hlt2 (by rw [HK.out]; exact hk))
            obtain ⟨x, hx⟩ : ∃ x, part[upP ns i]? = some x := ⟨part[upP ns i]'(by rw [HS2.out.sx.pl]; exact hu2), List.getElem?_eq_getElem _⟩
            obtain ⟨x0, hx0⟩ : ∃ x0, part[i]? = some x0 := ⟨part[i]'(by rw [HS2.out.sx.pl]; exact hlt2), List.getElem?_eq_getElem _⟩
            have HC2 := Lib.hid (show condP ns i (part.set i x) = partS ns push from by
              rw [← HCO.out]
              show _ = condP ns i (if 11 ≤ kindAt ns i then _ else _)
              rw [if_pos (by rw [HK.out]; exact hk), hx]
              rfl)
            have c1 : wr.cell? ⟨W.heap.size + 1 + 1, 1, none⟩ = some (.slice (some ⟨p, 0, none⟩) ns.length ns.length) := HS2.out.sx.box.cell 1
            have c2 : wr.cell? ⟨W.heap.size + 1 + 1, 2, none⟩ = some (.slice (some ⟨q, 0, none⟩) ns.length ns.length) := HS2.out.sx.box.cell 2
            have cu := intsZ_get HS2.out.sx.kb hu3
            have cx := intsZ_get HS2.out.sx.kp hx
            have HX0 := Lib.hid hx0
            have u0 : (0 : Int) ≤ (upP ns i : Int) := by omega
            have u1 : (upP ns i : Int) < (ns.length : Int) := by omega
            generalize upP ns i = up at cu cx hu1 hu2 u0 u1
            clear hx hx0 hu3 hk
            go_wp2_with fail
            rw [show (#[{ dst := some 88, op := Go.Op.load 53 (Go.Operand.tmp 6), type := 53, pos := "plan.go:124", after := #[], guard := none }, { dst := some 89, op := Go.Op.nilCheck (Go.Operand.tmp 88), type := 0, pos := "plan.go:124", after := #[{ on := 0, ground := Go.Ground.data }], guard := none }, { dst := some 90, op := Go.Op.fieldAddr 55 (Go.Operand.tmp 89) 2, type := 0, pos := "plan.go:124", after := #[{ on := 1, ground := Go.Ground.data }], guard := none }, { dst := some 91, op := Go.Op.load 39 (Go.Operand.tmp 90), type := 39, pos := "plan.go:124", after := #[{ on := 2, ground := Go.Ground.data }], guard := none }, { dst := some 92, op := Go.Op.move (Go.Operand.tmp 13), type := 3, pos := "plan.go:124", after := #[], guard := none }, { dst := some 93, op := Go.Op.load 53 (Go.Operand.tmp 6), type := 53, pos := "plan.go:124", after := #[], guard := none }, { dst := some 94, op := Go.Op.nilCheck (Go.Operand.tmp 93), type := 0, pos := "plan.go:124", after := #[{ on := 5, ground := Go.Ground.data }], guard := none }, { dst := some 95, op := Go.Op.fieldAddr 55 (Go.Operand.tmp 94) 2, type := 0, pos := "plan.go:124", after := #[{ on := 6, ground := Go.Ground.data }], guard := none }, { dst := some 96, op := Go.Op.load 39 (Go.Operand.tmp 95), type := 39, pos := "plan.go:124", after := #[{ on := 7, ground := Go.Ground.data }], guard := none }, { dst := some 97, op := Go.Op.load 53 (Go.Operand.tmp 6), type := 53, pos := "plan.go:124", after := #[], guard := none }, { dst := some 98, op := Go.Op.nilCheck (Go.Operand.tmp 97), type := 0, pos := "plan.go:124", after := #[{ on := 9, ground := Go.Ground.data }], guard := none }, { dst := some 99, op := Go.Op.fieldAddr 55 (Go.Operand.tmp 98) 1, type := 0, pos := "plan.go:124", after := #[{ on := 10, ground := Go.Ground.data }], guard := none }, { dst := some 100, op := Go.Op.load 39 (Go.Operand.tmp 99), type := 39, pos := "plan.go:124", after := #[{ on := 11, ground := Go.Ground.data }], guard := none }, { dst := some 101, op := Go.Op.move (Go.Operand.tmp 13), type := 3, pos := "plan.go:124", after := #[], guard := none }, { dst := some 102, op := Go.Op.indexAddr 39 (Go.Operand.tmp 100) (Go.Operand.tmp 101), type := 0, pos := "plan.go:124", after := #[{ on := 12, ground := Go.Ground.data }, { on := 13, ground := Go.Ground.data }], guard := none }, { dst := some 103, op := Go.Op.load 3 (Go.Operand.tmp 102), type := 3, pos := "plan.go:124", after := #[{ on := 14, ground := Go.Ground.data }], guard := none }, { dst := some 104, op := Go.Op.indexAddr 39 (Go.Operand.tmp 96) (Go.Operand.tmp 103), type := 0, pos := "plan.go:124", after := #[{ on := 8, ground := Go.Ground.data }, { on := 15, ground := Go.Ground.data }], guard := none }, { dst := some 105, op := Go.Op.load 3 (Go.Operand.tmp 104), type := 3, pos := "plan.go:124", after := #[{ on := 16, ground := Go.Ground.data }], guard := none }, { dst := some 106, op := Go.Op.indexAddr 39 (Go.Operand.tmp 91) (Go.Operand.tmp 92), type := 0, pos := "plan.go:124", after := #[{ on := 3, ground := Go.Ground.data }, { on := 4, ground := Go.Ground.data }, { on := 0, ground := Go.Ground.phase }, { on := 1, ground := Go.Ground.phase }, { on := 2, ground := Go.Ground.phase }, { on := 3, ground := Go.Ground.phase }, { on := 4, ground := Go.Ground.phase }, { on := 5, ground := Go.Ground.phase }, { on := 6, ground := Go.Ground.phase }, { on := 7, ground := Go.Ground.phase }, { on := 8, ground := Go.Ground.phase }, { on := 9, ground := Go.Ground.phase }, { on := 10, ground := Go.Ground.phase }, { on := 11, ground := Go.Ground.phase }, { on := 12, ground := Go.Ground.phase }, { on := 13, ground := Go.Ground.phase }, { on := 14, ground := Go.Ground.phase }, { on := 15, ground := Go.Ground.phase }, { on := 16, ground := Go.Ground.phase }, { on := 17, ground := Go.Ground.phase }], guard := none }, { dst := none, op := Go.Op.store 3 (Go.Operand.tmp 106) (Go.Operand.tmp 105), type := 0, pos := "plan.go:124", after := #[{ on := 18, ground := Go.Ground.data }, { on := 17, ground := Go.Ground.data }, { on := 0, ground := Go.Ground.phase }, { on := 1, ground := Go.Ground.phase }, { on := 2, ground := Go.Ground.phase }, { on := 3, ground := Go.Ground.phase }, { on := 4, ground := Go.Ground.phase }, { on := 5, ground := Go.Ground.phase }, { on := 6, ground := Go.Ground.phase }, { on := 7, ground := Go.Ground.phase }, { on := 8, ground := Go.Ground.phase }, { on := 9, ground := Go.Ground.phase }, { on := 10, ground := Go.Ground.phase }, { on := 11, ground := Go.Ground.phase }, { on := 12, ground := Go.Ground.phase }, { on := 13, ground := Go.Ground.phase }, { on := 14, ground := Go.Ground.phase }, { on := 15, ground := Go.Ground.phase }, { on := 16, ground := Go.Ground.phase }, { on := 17, ground := Go.Ground.phase }], guard := none }] : Array Oper) = Array.push #[{ dst := some 88, op := Go.Op.load 53 (Go.Operand.tmp 6), type := 53, pos := "plan.go:124", after := #[], guard := none }, { dst := some 89, op := Go.Op.nilCheck (Go.Operand.tmp 88), type := 0, pos := "plan.go:124", after := #[{ on := 0, ground := Go.Ground.data }], guard := none }, { dst := some 90, op := Go.Op.fieldAddr 55 (Go.Operand.tmp 89) 2, type := 0, pos := "plan.go:124", after := #[{ on := 1, ground := Go.Ground.data }], guard := none }, { dst := some 91, op := Go.Op.load 39 (Go.Operand.tmp 90), type := 39, pos := "plan.go:124", after := #[{ on := 2, ground := Go.Ground.data }], guard := none }, { dst := some 92, op := Go.Op.move (Go.Operand.tmp 13), type := 3, pos := "plan.go:124", after := #[], guard := none }, { dst := some 93, op := Go.Op.load 53 (Go.Operand.tmp 6), type := 53, pos := "plan.go:124", after := #[], guard := none }, { dst := some 94, op := Go.Op.nilCheck (Go.Operand.tmp 93), type := 0, pos := "plan.go:124", after := #[{ on := 5, ground := Go.Ground.data }], guard := none }, { dst := some 95, op := Go.Op.fieldAddr 55 (Go.Operand.tmp 94) 2, type := 0, pos := "plan.go:124", after := #[{ on := 6, ground := Go.Ground.data }], guard := none }, { dst := some 96, op := Go.Op.load 39 (Go.Operand.tmp 95), type := 39, pos := "plan.go:124", after := #[{ on := 7, ground := Go.Ground.data }], guard := none }, { dst := some 97, op := Go.Op.load 53 (Go.Operand.tmp 6), type := 53, pos := "plan.go:124", after := #[], guard := none }, { dst := some 98, op := Go.Op.nilCheck (Go.Operand.tmp 97), type := 0, pos := "plan.go:124", after := #[{ on := 9, ground := Go.Ground.data }], guard := none }, { dst := some 99, op := Go.Op.fieldAddr 55 (Go.Operand.tmp 98) 1, type := 0, pos := "plan.go:124", after := #[{ on := 10, ground := Go.Ground.data }], guard := none }, { dst := some 100, op := Go.Op.load 39 (Go.Operand.tmp 99), type := 39, pos := "plan.go:124", after := #[{ on := 11, ground := Go.Ground.data }], guard := none }, { dst := some 101, op := Go.Op.move (Go.Operand.tmp 13), type := 3, pos := "plan.go:124", after := #[], guard := none }, { dst := some 102, op := Go.Op.indexAddr 39 (Go.Operand.tmp 100) (Go.Operand.tmp 101), type := 0, pos := "plan.go:124", after := #[{ on := 12, ground := Go.Ground.data }, { on := 13, ground := Go.Ground.data }], guard := none }, { dst := some 103, op := Go.Op.load 3 (Go.Operand.tmp 102), type := 3, pos := "plan.go:124", after := #[{ on := 14, ground := Go.Ground.data }], guard := none }, { dst := some 104, op := Go.Op.indexAddr 39 (Go.Operand.tmp 96) (Go.Operand.tmp 103), type := 0, pos := "plan.go:124", after := #[{ on := 8, ground := Go.Ground.data }, { on := 15, ground := Go.Ground.data }], guard := none }, { dst := some 105, op := Go.Op.load 3 (Go.Operand.tmp 104), type := 3, pos := "plan.go:124", after := #[{ on := 16, ground := Go.Ground.data }], guard := none }, { dst := some 106, op := Go.Op.indexAddr 39 (Go.Operand.tmp 91) (Go.Operand.tmp 92), type := 0, pos := "plan.go:124", after := #[{ on := 3, ground := Go.Ground.data }, { on := 4, ground := Go.Ground.data }, { on := 0, ground := Go.Ground.phase }, { on := 1, ground := Go.Ground.phase }, { on := 2, ground := Go.Ground.phase }, { on := 3, ground := Go.Ground.phase }, { on := 4, ground := Go.Ground.phase }, { on := 5, ground := Go.Ground.phase }, { on := 6, ground := Go.Ground.phase }, { on := 7, ground := Go.Ground.phase }, { on := 8, ground := Go.Ground.phase }, { on := 9, ground := Go.Ground.phase }, { on := 10, ground := Go.Ground.phase }, { on := 11, ground := Go.Ground.phase }, { on := 12, ground := Go.Ground.phase }, { on := 13, ground := Go.Ground.phase }, { on := 14, ground := Go.Ground.phase }, { on := 15, ground := Go.Ground.phase }, { on := 16, ground := Go.Ground.phase }, { on := 17, ground := Go.Ground.phase }], guard := none }] { dst := none, op := Go.Op.store 3 (Go.Operand.tmp 106) (Go.Operand.tmp 105), type := 0, pos := "plan.go:124", after := #[{ on := 18, ground := Go.Ground.data }, { on := 17, ground := Go.Ground.data }, { on := 0, ground := Go.Ground.phase }, { on := 1, ground := Go.Ground.phase }, { on := 2, ground := Go.Ground.phase }, { on := 3, ground := Go.Ground.phase }, { on := 4, ground := Go.Ground.phase }, { on := 5, ground := Go.Ground.phase }, { on := 6, ground := Go.Ground.phase }, { on := 7, ground := Go.Ground.phase }, { on := 8, ground := Go.Ground.phase }, { on := 9, ground := Go.Ground.phase }, { on := 10, ground := Go.Ground.phase }, { on := 11, ground := Go.Ground.phase }, { on := 12, ground := Go.Ground.phase }, { on := 13, ground := Go.Ground.phase }, { on := 14, ground := Go.Ground.phase }, { on := 15, ground := Go.Ground.phase }, { on := 16, ground := Go.Ground.phase }, { on := 17, ground := Go.Ground.phase }], guard := none } from rfl]
            refine wp_region_last (S := fun w' => w'.cell? ⟨W.heap.size + 1 + 1 + 1, 0, none⟩ = some (RP (W.heap.size + 1 + 1)) ∧ w'.cell? ⟨W.heap.size + 1 + 1, 2, none⟩ = some (.slice (some ⟨q, 0, none⟩) ns.length ns.length) ∧ w'.cell? ⟨W.heap.size + 1 + 1, 1, none⟩ = some (.slice (some ⟨p, 0, none⟩) ns.length ns.length) ∧ w'.cell? ⟨p, i, none⟩ = some (.int .i64 (up : Int)) ∧ w'.cell? ⟨q, up, none⟩ = some (.int .i64 x)) (by kernel_rfl) (by kernel_rfl) (show wr.drew.cell? _ = _ ∧ wr.drew.cell? _ = _ ∧ wr.drew.cell? _ = _ ∧ wr.drew.cell? _ = _ ∧ wr.drew.cell? _ = _ from ⟨c6, c2, c1, cu, cx⟩) (fun hHeld => ?_)
            have HSD := Lib.hid (HS2.out.kept (show Below wr.heap.size wr wr.drew from ⟨rfl, rfl, rfl, Nat.le_refl _, fun _ _ => rfl⟩))
            clear c6 c2 c1 cu cx c0 hck
            generalize wr.drew = wd at hHeld HSD ⊢
            refine wpAnyH_take (i := 0) (oi := { dst := some 88, op := Go.Op.load 53 (Go.Operand.tmp 6), type := 53, pos := "plan.go:124", after := #[], guard := none }) (v := ?v9) rfl (by kernel_rfl) (by kernel_rfl) (by kernel_rfl) (fun _ _ _ h => h) (Or.inl ⟨by rfl, ?hy9⟩) (by assumption) ?rest9
            case hy9 =>
              intro w hSw
              (try dsimp only at hSw)
              go_simp
              try with_reducible rfl
            try simp only [Act.put, List.setIfInBounds_toArray, List.set_cons_zero, List.set_cons_succ]
            refine wpAnyH_take (i := 1) (oi := { dst := some 89, op := Go.Op.nilCheck (Go.Operand.tmp 88), type := 0, pos := "plan.go:124", after := #[{ on := 0, ground := Go.Ground.data }], guard := none }) (v := ?v10) rfl (by kernel_rfl) (by kernel_rfl) (by kernel_rfl) (fun _ _ _ h => h) (Or.inl ⟨by rfl, ?hy10⟩) (by assumption) ?rest10
            case hy10 =>
              intro w hSw
              (try dsimp only at hSw)
              go_simp
              try with_reducible rfl
            try simp only [Act.put, List.setIfInBounds_toArray, List.set_cons_zero, List.set_cons_succ]
            refine wpAnyH_take (i := 2) (oi := { dst := some 90, op := Go.Op.fieldAddr 55 (Go.Operand.tmp 89) 2, type := 0, pos := "plan.go:124", after := #[{ on := 1, ground := Go.Ground.data }], guard := none }) (v := ?v11) rfl (by kernel_rfl) (by kernel_rfl) (by kernel_rfl) (fun _ _ _ h => h) (Or.inl ⟨by rfl, ?hy11⟩) (by assumption) ?rest11
            case hy11 =>
              intro w hSw
              (try dsimp only at hSw)
              go_simp
              try with_reducible rfl
            try simp only [Act.put, List.setIfInBounds_toArray, List.set_cons_zero, List.set_cons_succ]
            refine wpAnyH_take (i := 3) (oi := { dst := some 91, op := Go.Op.load 39 (Go.Operand.tmp 90), type := 39, pos := "plan.go:124", after := #[{ on := 2, ground := Go.Ground.data }], guard := none }) (v := ?v12) rfl (by kernel_rfl) (by kernel_rfl) (by kernel_rfl) (fun _ _ _ h => h) (Or.inl ⟨by rfl, ?hy12⟩) (by assumption) ?rest12
            case hy12 =>
              intro w hSw
              (try dsimp only at hSw)
              go_simp
              try with_reducible rfl
            try simp only [Act.put, List.setIfInBounds_toArray, List.set_cons_zero, List.set_cons_succ]
            refine wpAnyH_take (i := 4) (oi := { dst := some 92, op := Go.Op.move (Go.Operand.tmp 13), type := 3, pos := "plan.go:124", after := #[], guard := none }) (v := ?v13) rfl (by kernel_rfl) (by kernel_rfl) (by kernel_rfl) (fun _ _ _ h => h) (Or.inl ⟨by rfl, ?hy13⟩) (by assumption) ?rest13
            case hy13 =>
              intro w hSw
              (try dsimp only at hSw)
              go_simp
              try with_reducible rfl
            try simp only [Act.put, List.setIfInBounds_toArray, List.set_cons_zero, List.set_cons_succ]
            refine wpAnyH_take (i := 5) (oi := { dst := some 93, op := Go.Op.load 53 (Go.Operand.tmp 6), type := 53, pos := "plan.go:124", after := #[], guard := none }) (v := ?v14) rfl (by kernel_rfl) (by kernel_rfl) (by kernel_rfl) (fun _ _ _ h => h) (Or.inl ⟨by rfl, ?hy14⟩) (by assumption) ?rest14
            case hy14 =>
              intro w hSw
              (try dsimp only at hSw)
              go_simp
              try with_reducible rfl
            try simp only [Act.put, List.setIfInBounds_toArray, List.set_cons_zero, List.set_cons_succ]
            refine wpAnyH_take (i := 6) (oi := { dst := some 94, op := Go.Op.nilCheck (Go.Operand.tmp 93), type := 0, pos := "plan.go:124", after := #[{ on := 5, ground := Go.Ground.data }], guard := none }) (v := ?v15) rfl (by kernel_rfl) (by kernel_rfl) (by kernel_rfl) (fun _ _ _ h => h) (Or.inl ⟨by rfl, ?hy15⟩) (by assumption) ?rest15
            case hy15 =>
              intro w hSw
              (try dsimp only at hSw)
              go_simp
              try with_reducible rfl
            try simp only [Act.put, List.setIfInBounds_toArray, List.set_cons_zero, List.set_cons_succ]
            refine wpAnyH_take (i := 7) (oi := { dst := some 95, op := Go.Op.fieldAddr 55 (Go.Operand.tmp 94) 2, type := 0, pos := "plan.go:124", after := #[{ on := 6, ground := Go.Ground.data }], guard := none }) (v := ?v16) rfl (by kernel_rfl) (by kernel_rfl) (by kernel_rfl) (fun _ _ _ h => h) (Or.inl ⟨by rfl, ?hy16⟩) (by assumption) ?rest16
            case hy16 =>
              intro w hSw
              (try dsimp only at hSw)
              go_simp
              try with_reducible rfl
            try simp only [Act.put, List.setIfInBounds_toArray, List.set_cons_zero, List.set_cons_succ]
            refine wpAnyH_take (i := 8) (oi := { dst := some 96, op := Go.Op.load 39 (Go.Operand.tmp 95), type := 39, pos := "plan.go:124", after := #[{ on := 7, ground := Go.Ground.data }], guard := none }) (v := ?v17) rfl (by kernel_rfl) (by kernel_rfl) (by kernel_rfl) (fun _ _ _ h => h) (Or.inl ⟨by rfl, ?hy17⟩) (by assumption) ?rest17
            case hy17 =>
              intro w hSw
              (try dsimp only at hSw)
              go_simp
              try with_reducible rfl
            try simp only [Act.put, List.setIfInBounds_toArray, List.set_cons_zero, List.set_cons_succ]
            refine wpAnyH_take (i := 9) (oi := { dst := some 97, op := Go.Op.load 53 (Go.Operand.tmp 6), type := 53, pos := "plan.go:124", after := #[], guard := none }) (v := ?v18) rfl (by kernel_rfl) (by kernel_rfl) (by kernel_rfl) (fun _ _ _ h => h) (Or.inl ⟨by rfl, ?hy18⟩) (by assumption) ?rest18
            case hy18 =>
              intro w hSw
              (try dsimp only at hSw)
              go_simp
              try with_reducible rfl
            try simp only [Act.put, List.setIfInBounds_toArray, List.set_cons_zero, List.set_cons_succ]
            refine wpAnyH_take (i := 10) (oi := { dst := some 98, op := Go.Op.nilCheck (Go.Operand.tmp 97), type := 0, pos := "plan.go:124", after := #[{ on := 9, ground := Go.Ground.data }], guard := none }) (v := ?v19) rfl (by kernel_rfl) (by kernel_rfl) (by kernel_rfl) (fun _ _ _ h => h) (Or.inl ⟨by rfl, ?hy19⟩) (by assumption) ?rest19
            case hy19 =>
              intro w hSw
              (try dsimp only at hSw)
              go_simp
              try with_reducible rfl
            try simp only [Act.put, List.setIfInBounds_toArray, List.set_cons_zero, List.set_cons_succ]
            refine wpAnyH_take (i := 11) (oi := { dst := some 99, op := Go.Op.fieldAddr 55 (Go.Operand.tmp 98) 1, type := 0, pos := "plan.go:124", after := #[{ on := 10, ground := Go.Ground.data }], guard := none }) (v := ?v20) rfl (by kernel_rfl) (by kernel_rfl) (by kernel_rfl) (fun _ _ _ h => h) (Or.inl ⟨by rfl, ?hy20⟩) (by assumption) ?rest20
            case hy20 =>
              intro w hSw
              (try dsimp only at hSw)
              go_simp
              try with_reducible rfl
            try simp only [Act.put, List.setIfInBounds_toArray, List.set_cons_zero, List.set_cons_succ]
            refine wpAnyH_take (i := 12) (oi := { dst := some 100, op := Go.Op.load 39 (Go.Operand.tmp 99), type := 39, pos := "plan.go:124", after := #[{ on := 11, ground := Go.Ground.data }], guard := none }) (v := ?v21) rfl (by kernel_rfl) (by kernel_rfl) (by kernel_rfl) (fun _ _ _ h => h) (Or.inl ⟨by rfl, ?hy21⟩) (by assumption) ?rest21
            case hy21 =>
              intro w hSw
              (try dsimp only at hSw)
              go_simp
              try with_reducible rfl
            try simp only [Act.put, List.setIfInBounds_toArray, List.set_cons_zero, List.set_cons_succ]
            refine wpAnyH_take (i := 13) (oi := { dst := some 101, op := Go.Op.move (Go.Operand.tmp 13), type := 3, pos := "plan.go:124", after := #[], guard := none }) (v := ?v22) rfl (by kernel_rfl) (by kernel_rfl) (by kernel_rfl) (fun _ _ _ h => h) (Or.inl ⟨by rfl, ?hy22⟩) (by assumption) ?rest22
            case hy22 =>
              intro w hSw
              (try dsimp only at hSw)
              go_simp
              try with_reducible rfl
            try simp only [Act.put, List.setIfInBounds_toArray, List.set_cons_zero, List.set_cons_succ]
            refine wpAnyH_take (i := 14) (oi := { dst := some 102, op := Go.Op.indexAddr 39 (Go.Operand.tmp 100) (Go.Operand.tmp 101), type := 0, pos := "plan.go:124", after := #[{ on := 12, ground := Go.Ground.data }, { on := 13, ground := Go.Ground.data }], guard := none }) (v := ?v23) rfl (by kernel_rfl) (by kernel_rfl) (by kernel_rfl) (fun _ _ _ h => h) (Or.inl ⟨by rfl, ?hy23⟩) (by assumption) ?rest23
            case hy23 =>
              intro w hSw
              (try dsimp only at hSw)
              go_simp
              try with_reducible rfl
            try simp only [Act.put, List.setIfInBounds_toArray, List.set_cons_zero, List.set_cons_succ]
            refine wpAnyH_take (i := 15) (oi := { dst := some 103, op := Go.Op.load 3 (Go.Operand.tmp 102), type := 3, pos := "plan.go:124", after := #[{ on := 14, ground := Go.Ground.data }], guard := none }) (v := ?v24) rfl (by kernel_rfl) (by kernel_rfl) (by kernel_rfl) (fun _ _ _ h => h) (Or.inl ⟨by rfl, ?hy24⟩) (by assumption) ?rest24
            case hy24 =>
              intro w hSw
              (try dsimp only at hSw)
              go_simp
              try with_reducible rfl
            try simp only [Act.put, List.setIfInBounds_toArray, List.set_cons_zero, List.set_cons_succ]
            refine wpAnyH_take (i := 16) (oi := { dst := some 104, op := Go.Op.indexAddr 39 (Go.Operand.tmp 96) (Go.Operand.tmp 103), type := 0, pos := "plan.go:124", after := #[{ on := 8, ground := Go.Ground.data }, { on := 15, ground := Go.Ground.data }], guard := none }) (v := ?v25) rfl (by kernel_rfl) (by kernel_rfl) (by kernel_rfl) (fun _ _ _ h => h) (Or.inl ⟨by rfl, ?hy25⟩) (by assumption) ?rest25
            case hy25 =>
              intro w hSw
              (try dsimp only at hSw)
              go_simp
              try with_reducible rfl
            try simp only [Act.put, List.setIfInBounds_toArray, List.set_cons_zero, List.set_cons_succ]
            refine wpAnyH_take (i := 17) (oi := { dst := some 105, op := Go.Op.load 3 (Go.Operand.tmp 104), type := 3, pos := "plan.go:124", after := #[{ on := 16, ground := Go.Ground.data }], guard := none }) (v := ?v26) rfl (by kernel_rfl) (by kernel_rfl) (by kernel_rfl) (fun _ _ _ h => h) (Or.inl ⟨by rfl, ?hy26⟩) (by assumption) ?rest26
            case hy26 =>
              intro w hSw
              (try dsimp only at hSw)
              go_simp
              try with_reducible rfl
            try simp only [Act.put, List.setIfInBounds_toArray, List.set_cons_zero, List.set_cons_succ]
            refine wpAnyH_take (i := 18) (oi := { dst := some 106, op := Go.Op.indexAddr 39 (Go.Operand.tmp 91) (Go.Operand.tmp 92), type := 0, pos := "plan.go:124", after := #[{ on := 3, ground := Go.Ground.data }, { on := 4, ground := Go.Ground.data }, { on := 0, ground := Go.Ground.phase }, { on := 1, ground := Go.Ground.phase }, { on := 2, ground := Go.Ground.phase }, { on := 3, ground := Go.Ground.phase }, { on := 4, ground := Go.Ground.phase }, { on := 5, ground := Go.Ground.phase }, { on := 6, ground := Go.Ground.phase }, { on := 7, ground := Go.Ground.phase }, { on := 8, ground := Go.Ground.phase }, { on := 9, ground := Go.Ground.phase }, { on := 10, ground := Go.Ground.phase }, { on := 11, ground := Go.Ground.phase }, { on := 12, ground := Go.Ground.phase }, { on := 13, ground := Go.Ground.phase }, { on := 14, ground := Go.Ground.phase }, { on := 15, ground := Go.Ground.phase }, { on := 16, ground := Go.Ground.phase }, { on := 17, ground := Go.Ground.phase }], guard := none }) (v := ?v27) rfl (by kernel_rfl) (by kernel_rfl) (by kernel_rfl) (fun _ _ _ h => h) (Or.inl ⟨by rfl, ?hy27⟩) (by assumption) ?rest27
            case hy27 =>
              intro w hSw
              (try dsimp only at hSw)
              go_simp
              try with_reducible rfl
            try simp only [Act.put, List.setIfInBounds_toArray, List.set_cons_zero, List.set_cons_succ]
            refine wpAnyH_done (by kernel_rfl) ?_ _
            have dq := intsZ_get HSD.out.sx.kp HX0.out
            have dq1 := HSD.out.sx.kp.free i
            refine then_step (fun K hK => ?_)
            go_simp
            refine hK.out _ _ ?_
            clear hK K hHeld dq dq1
            have HS6 := Lib.hid (HSD.out.put_part i x)
            generalize wd.setCell _ _ = w6 at HS6 ⊢
            clear HSD
            go_wp2_with fail
            go_roundg (i + 1)
            case measure => omega
            case rel => exact ⟨i, _, by omega, by omega, rfl, HS6.out, HC2.out⟩
          · have v1 : decide (11 ≤ n1.kind) = false := decide_eq_false hk
            have v2 : decide ((11 : Int) ≤ (n1.kind : Int)) = false := decide_eq_false (by omega)
            have HC2 := Lib.hid (show condP ns i part = partS ns push from by
              rw [← HCO.out]
              show _ = condP ns i (if 11 ≤ kindAt ns i then _ else _)
              rw [if_neg (by rw [HK.out]; exact hk)])
            clear hk
            go_wp2_with fail
            go_roundg (i + 1)
            case measure => omega
            case rel => exact ⟨i, part, by omega, by omega, rfl, HS2.out, HC2.out⟩
end Go.Proofs.Ytjpogmomgmjmbaa
