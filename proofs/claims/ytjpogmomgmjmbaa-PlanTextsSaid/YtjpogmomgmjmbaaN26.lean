/- What a split's parts and its rest are like, as PlanNodes asks it. Plain lists, no program. The walks of the law's helpers. The walks of the law's of and shown. The walk of the law's shown. -/
import Derived.Test.YtjpogmomgmjmbaaN21
import Derived.Test.YtjpogmomgmjmbaaN18
import Derived.Test.YtjpogmomgmjmbaaN25
/-! What a split's parts and its rest are like, as PlanNodes asks it. Plain lists, no program. -/
namespace Go.Proofs.Ytjpogmomgmjmbaa.ParS
open LexS
set_option linter.unusedVariables false

def k9 (nd : Nd) : Bool := decide (nd.kind = 9)
section
variable {ns : List Nd} (hq : QNs ns) {push : Bool}
theorem parts_at {k : Nat} {p : List Nd} (h : (splitParts ns push)[k]? = some p) : p = (takeP ns (inPart ns push k) (nodeAt ns) ns.length).2 ∧ k < (fets ns ns.length).length := by
  unfold splitParts at h
  rw [List.getElem?_map] at h
  by_cases hk : k < (lastS ns push).length
  · rw [List.getElem?_range hk] at h
    injection h with h
    exact ⟨h.symm, by rw [← lasts_len (push := push)]; exact hk⟩
  · rw [List.getElem?_eq_none (by simpa using hk)] at h
    cases h
include hq
theorem part_kinds {k : Nat} {p : List Nd} (h : (splitParts ns push)[k]? = some p) : 0 < p.length ∧ (∀ nd, p[0]? = some nd → nd.kind = 1) ∧ ∀ i nd, 0 < i → p[i]? = some nd → nd.kind ≠ 1 ∧ nd.kind ≠ 9 ∧ nd.kind ≠ 7 ∧ nd.kind ≠ 8 := by
  obtain ⟨rfl, hk⟩ := parts_at h
  obtain ⟨l, hl, hin⟩ := part_nodes hq (push := push) (List.getElem?_eq_getElem hk)
  have hm := take_map ns (inPart ns push k) (nodeAt ns) ns.length
  rw [hl] at hm
  have hj := (fets_mem ns _ _).1 (List.getElem_mem hk)
  have hat : ∀ x, x < ns.length → (nodeAt ns x).kind = kindAt ns x := by
    intro x hx
    unfold nodeAt kindAt
    rw [List.getElem?_eq_getElem hx]
    rfl
  have hget : ∀ (i : Nat) (nd : Nd), (takeP ns (inPart ns push k) (nodeAt ns) ns.length).2[i]? = some nd → ∃ x, ((fets ns ns.length)[k] :: l)[i]? = some x ∧ nd.kind = (nodeAt ns x).kind := by
    intro i nd hi
    have := congrArg (fun z => z[i]?) hm
    simp only [List.getElem?_map, hi, Option.map_some] at this
    rcases hx : ((fets ns ns.length)[k] :: l)[i]? with _ | x
    · rw [hx] at this; cases this
    · rw [hx] at this
      simp only [Option.map_some, Option.some.injEq, Prod.mk.injEq] at this
      exact ⟨x, rfl, this.1⟩
  refine ⟨?_, fun nd h0 => ?_, fun i nd hi h0 => ?_⟩
  · have := congrArg List.length hm
    simp at this
    omega
  · obtain ⟨x, hx, e⟩ := hget 0 nd h0
    simp only [List.getElem?_cons_zero, Option.some.injEq] at hx
    subst hx
    rw [e, hat _ hj.1]
    exact hj.2
  · obtain ⟨x, hx, e⟩ := hget i nd h0
    obtain ⟨i, rfl⟩ : ∃ i', i = i' + 1 := ⟨i - 1, by omega⟩
    rw [List.getElem?_cons_succ] at hx
    obtain ⟨h1, h2⟩ := hin x (List.mem_of_getElem? hx)
    rw [e, hat _ h1]
    omega
theorem rest_input {i : Nat} {nd : Nd} (h : (splitRest ns push)[i]? = some nd) (hk : nd.kind = 9) : nd.n = ((((splitRest ns push).take i).filter k9).length : Int) := by
  have hr := rest_inputs hq (push := push)
  have hi := some_lt h
  have e : (splitRest ns push) = (splitRest ns push).take i ++ nd :: (splitRest ns push).drop (i + 1) := by
    conv => lhs; rw [← List.take_append_drop i (splitRest ns push)]
    rw [List.drop_eq_getElem_cons hi]
    have := List.getElem?_eq_getElem hi
    rw [h] at this
    injection this with this
    rw [← this]
  rw [e, List.filter_append, List.filter_cons_of_pos (by simpa using hk), List.map_append, List.map_cons] at hr
  have h2 := congrArg (fun z => z[(((splitRest ns push).take i).filter k9).length]?) hr
  try dsimp only at h2
  have e1 : ((((splitRest ns push).take i).filter fun nd => decide (nd.kind = 9)).map fun nd => nd.n).length = (((splitRest ns push).take i).filter k9).length := by rw [List.length_map]; rfl
  rw [List.getElem?_append_right (by rw [e1]; exact Nat.le_refl _), e1, Nat.sub_self, List.getElem?_cons_zero, List.getElem?_map] at h2
  rcases hx : (List.range (fets ns ns.length).length)[(((splitRest ns push).take i).filter k9).length]? with _ | x
  · rw [hx] at h2; cases h2
  · rw [hx] at h2
    have hx2 := hx
    rw [List.getElem?_range (some_lt hx |> fun h => by simpa using h)] at hx
    injection hx with hx
    simp only [Option.map_some, Option.some.injEq] at h2
    rw [h2, hx]
theorem rest_all : ((splitRest ns push).filter k9).length = (fets ns ns.length).length := by
  have := congrArg List.length (rest_inputs hq (push := push))
  rw [List.length_map, List.length_map, List.length_range] at this
  exact this
end
theorem filt_next {l : List Nd} {i : Nat} {nd : Nd} (h : l[i]? = some nd) : ((l.take (i + 1)).filter k9).length = ((l.take i).filter k9).length + if nd.kind = 9 then 1 else 0 := by
  rw [List.take_add_one, h, List.filter_append, List.length_append]
  congr 1
  by_cases hk : nd.kind = 9
  · rw [if_pos hk]
    show ([nd].filter k9).length = 1
    rw [List.filter_cons_of_pos (by simpa [k9] using hk)]
    rfl
  · rw [if_neg hk]
    show ([nd].filter k9).length = 0
    rw [List.filter_cons_of_neg (by simpa [k9] using hk)]
    rfl
theorem sum_next {l : List (List Nd)} {i : Nat} {p : List Nd} (h : l[i]? = some p) : ((l.take (i + 1)).map List.length).sum = ((l.take i).map List.length).sum + p.length := by
  rw [List.take_add_one, h]
  simp
theorem fets_next {ns : List Nd} {i : Nat} : (fets ns (i + 1)).length = (fets ns i).length + if kindAt ns i = 1 then 1 else 0 := by
  show (if kindAt ns i = 1 then fets ns i ++ [i] else fets ns i).length = _
  split <;> simp
theorem query_qns {s : Bytes} {ns : List Nd} {a : Nat} (h : queryS s = (ns, a, 0)) : QNs ns ∧ ns.length ≤ 128 := by
  rcases query_tree s with ⟨h1, _⟩ | ⟨_, h2, h3⟩
  · rw [h] at h1; exact absurd rfl h1
  · rw [h] at h2 h3
    refine ⟨?_, h3⟩
    unfold queryS at h
    rcases hx : lexS s with ⟨l, b, e⟩
    rw [hx] at h
    dsimp only at h
    by_cases he : e ≠ 0
    · rw [if_pos he] at h
      injection h with h4 h5
      injection h5 with h6 h7
      exact absurd h7 he
    · rw [if_neg he] at h
      rcases hp : parseS l with ⟨ns2, n, f⟩
      rw [hp] at h
      dsimp only at h
      by_cases hf : f = 0
      · subst hf
        rw [if_pos rfl] at h
        injection h with h4 h5
        subst h4
        obtain ⟨k1, k2, k3⟩ := parse_tree hp
        refine ⟨tree_qt k1, fits_qt k1, ?_⟩
        obtain ⟨c, hc, hc2⟩ := qt_last k1
        rw [kindAt_of hc]
        omega
      · rw [if_neg hf] at h
        rcases hz : l[n]? with _ | t
        all_goals
          rw [hz] at h
          injection h with h4 h5
          injection h5 with h6 h7
          exact absurd h7 hf
end Go.Proofs.Ytjpogmomgmjmbaa.ParS

/-! The walks of the law's helpers. -/
namespace Go.Proofs.Ytjpogmomgmjmbaa
open Go.RowKit LexS ParS BigFrame
set_option maxHeartbeats 4000000
set_option linter.unusedVariables false
set_option linter.unusedSimpArgs false
attribute [local go_sem] World.cell?_alloc_some cell_drewN_new free_drewN_new cell_drew_new free_drew_new

set_option maxRecDepth 100000 in
theorem ints_21 {W : World} {va vb : Value} {l : List Nat} {b1 b2 : Nat} (ha : W.ownsRow b1 3 1 va l.length (intsL l)) (hb : W.ownsRow b2 3 1 vb l.length (intsL l)) :
    Calls Try.prog 11 #[va, vb] W fun e W' => e = .returned (.bool true) ∧ Below W.heap.size W W' := by
  obtain ⟨p, cp, rfl, h1, h2, hp⟩ := ints_row ha
  obtain ⟨q, cq, rfl, h3, h4, hq⟩ := ints_row hb
  simp only [maxLen] at h2 h4
  have HP := Lib.hid (And.intro hp hq)
  clear ha hb hp hq
  go_enter Try.func11, Try.ntmps11
  go_wp2_with fail
  go_loopg [5] (l.length + 1) (fun gk c wr => ∃ i : Nat, i ≤ l.length ∧ l.length < i + gk ∧ c = .int .i64 (i : Int) ∧ Drawn W wr)
  case atStart => exact ⟨0, Nat.zero_le _, by omega, rfl, 0, rfl⟩
  case round =>
    obtain ⟨i, hi, hgk, rfl, k, rfl⟩ := hrel
    by_cases hlt : i < l.length
    · have hne : l ≠ [] := by intro h; rw [h] at hlt; simp at hlt
      obtain ⟨g, rfl, hg⟩ := HP.out.1 hne
      obtain ⟨g2, rfl, hg2⟩ := HP.out.2 hne
      obtain ⟨x, hx⟩ : ∃ x, l[i]? = some x := ⟨l[i], List.getElem?_eq_getElem hlt⟩
      have c1 := hg i x hx
      have c2 := hg2 i x hx
      have n1 : (i : Int) < (l.length : Int) := by omega
      have n2 : (0 : Int) ≤ (i : Int) := by omega
      have n3 : decide ((i : Int) < (l.length : Int)) = true := decide_eq_true n1
      have w1_ : IntKind.i64.wrap ((i : Int) + 1) = (i : Int) + 1 := IntWalk.i64_in _ (by omega)
      clear hg hg2 hx
      go_wp2_with fail
      go_region
      go_wp2_with fail
      go_roundg (l.length - i)
      case measure => omega
      case rel => exact ⟨i + 1, by omega, by omega, rfl, Drawn.more ⟨k, rfl⟩ 1⟩
    · have n1 : ¬ (i : Int) < (l.length : Int) := by omega
      have n3 : decide ((i : Int) < (l.length : Int)) = false := decide_eq_false n1
      go_wp2_with fail
      exact bodyPost_ret (results_tmp rfl _ _ _) rfl ⟨rfl, ⟨rfl, rfl, rfl, Nat.le_refl _, fun _ _ => rfl⟩⟩
def kindsL (ns : List Nd) : List Nat := ns.map (·.kind)
structure KR (W0 : World) (v : Value) (l : List Nat) (lv : Value) (W : World) : Prop where
  low : Below W0.heap.size W0 W
  qb : Blk W W0.heap.size 25 #[v]
  row : W.ownsRow (W0.heap.size + 1) 3 1 lv l.length (intsL l)
set_option maxRecDepth 100000 in
theorem kinds_any {W : World} {v : Value} {ns : List Nd} (h : NR W v ns) (hs : ns.length ≤ 1000) :
    Calls Try.prog 12 #[.agg #[v]] W fun e W' => ∃ v', e = .returned v' ∧ W'.ownsRow (W.heap.size + 1) 3 1 v' (kindsL ns).length (intsL (kindsL ns)) ∧ Below W.heap.size W W' := by
  obtain ⟨p, cap, rfl, h1, h2, h3⟩ := h
  have HC := Lib.hid h3
  clear h3 h2
  go_enter Try.func12, Try.ntmps12
  have hwz : (W.alloc (.cells #[.slice p ns.length cap] 25)).heap.size = W.heap.size + 1 := by
    show (W.heap.push _).size = _
    rw [Array.size_push]
  have HK0 := Lib.hid (show KR W (.slice p ns.length cap) (kindsL (ns.take 0)) (.slice (some ⟨W.heap.size + 1, 0, none⟩) 0 0) ((W.alloc (.cells #[.slice p ns.length cap] 25)).alloc (.cells #[] 3)) from
    ⟨((Below.refl _ _).alloc (Nat.le_refl _) _).alloc (by rw [hwz]; exact Nat.le_succ _) _, (Blk.new W _ _).alloc _, by
      have := World.ownsRow_lit (e := 3) (size := 1) (base := W.heap.size + 1) (W.alloc (.cells #[.slice p ns.length cap] 25)) #[] 0 (by rw [hwz]; exact Nat.le_refl _) (by decide) rfl
      rw [hwz] at this
      exact this⟩)
  have HCK := Lib.hid (show ∀ wr, Below W.heap.size W wr → ∀ (i : Nat) (nd : Nd), ns[i]? = some nd → ∃ g, p = some ⟨g, 0, none⟩ ∧ wr.cell? ⟨g, i * 19, none⟩ = some (.int .i64 (nd.kind : Int)) from fun wr hb i nd hi => by
    obtain ⟨g, hg, hc⟩ := HC.out (by rintro rfl; simp at hi)
    obtain ⟨m, b, rfl, _, hr⟩ := hc i nd hi
    refine ⟨g, hg, keepc hb ?_⟩
    have := hr 0 _ rfl
    rwa [Nat.add_zero] at this)
  clear hwz
  go_wp2_with fail
  go_loopg [3, 4] (ns.length + 1) (fun gk lv c wr => ∃ i : Nat, i ≤ ns.length ∧ ns.length < i + gk ∧ c = .int .i64 (i : Int) ∧ KR W (.slice p ns.length cap) (kindsL (ns.take i)) lv wr)
  case atStart => exact ⟨0, Nat.zero_le _, by omega, rfl, HK0.out⟩
  case round =>
    obtain ⟨i, hi, hgk, rfl, hkr⟩ := hrel
    have HR := Lib.hid hkr
    have c0 : wr.cell? ⟨W.heap.size, 0, none⟩ = some (.slice p ns.length cap) := hkr.qb.cell 0
    obtain ⟨o3, cp3, rfl⟩ := row_slice hkr.row
    have HLN := Lib.hid (show (kindsL (ns.take i)).length = i by simp [kindsL]; omega)
    rw [HLN.out]
    clear hkr
    by_cases hlt : i < ns.length
    · obtain ⟨nd, hnd⟩ : ∃ nd, ns[i]? = some nd := ⟨ns[i], List.getElem?_eq_getElem hlt⟩
      obtain ⟨g, rfl, hg⟩ := HCK.out wr HR.out.low i nd hnd
      have n1 : (i : Int) < (ns.length : Int) := by omega
      have n2 : (0 : Int) ≤ (i : Int) := by omega
      have n3 : decide ((i : Int) < (ns.length : Int)) = true := decide_eq_true n1
      have w1_ : IntKind.i64.wrap ((i : Int) + 1) = (i : Int) + 1 := IntWalk.i64_in _ (by omega)
      have HND := Lib.hid (show kindsL (ns.take (i + 1)) = kindsL (ns.take i) ++ [nd.kind] by rw [List.take_add_one, hnd]; simp [kindsL])
      obtain ⟨i0, hi0, hz0, hz1, hz2⟩ := info_parts infoInt
      have HB2 := Lib.hid (show Below wr.heap.size wr (wr.alloc (.cells #[.int .i64 (nd.kind : Int)] 3)) from (Below.refl _ _).alloc (Nat.le_refl _) _)
      have HRW := Lib.hid (own_kept HR.out.row HB2.out)
      rw [HLN.out] at HRW
      have HN := Lib.hid (show ∀ (j : Nat) u, [Value.int .i64 (nd.kind : Int)][j]? = some u → (wr.alloc (.cells #[.int .i64 (nd.kind : Int)] 3)).cell? ((⟨wr.heap.size, 0, none⟩ : Addr).add j) = some u from fun j u hu => blk_cells (Blk.new wr 3 #[.int .i64 (nd.kind : Int)]) j u (by simpa using hu))
      have HSZ := Lib.hid (Nat.le_trans (show W.heap.size + 1 ≤ wr.heap.size from HR.out.qb.lt) HB2.out.size)
      clear hnd
      go_wp2_with (at_builtin; refine wpList_append_own _ rfl _ _ _ rfl (W.heap.size + 1) 3 i0 _ 1 8 (by kernel_rfl) hi0 hz0 hz1 hz2 rfl (by decide) _ i (intsL (kindsL (ns.take i))) rfl HRW.out ⟨wr.heap.size, 0, none⟩ 1 1 [.int .i64 (nd.kind : Int)] rfl rfl HN.out (by simp [Value.oneCell']) (by simp only [maxLen]; omega) (by omega) HSZ.out ?_)
      intro v' w' ho hgr _
      have hk : ∀ k, (Value.slice o3 i cp3).ownBlock = some k → W.heap.size + 1 ≤ k := fun k hk => (HRW.out.lt k hk).1
      have HF := Lib.hid (show KR W (.slice (some ⟨g, 0, none⟩) ns.length cap) (kindsL (ns.take (i + 1))) v' w' from
        ⟨(chain HR.out.low HB2.out).grown hgr (chain HR.out.low HB2.out).size (fun k e => Nat.le_trans (Nat.le_succ _) (hk k e)), (hgr.block _ (HR.out.qb.kept HB2.out).lt (fun e => by have := hk _ e.symm; omega)).trans (HR.out.qb.kept HB2.out), by
          rw [HND.out, List.length_append, HLN.out, intsL, List.map_append]
          exact ho⟩)
      clear ho hgr hk
      go_wp2_with fail
      go_roundg (ns.length - i)
      case measure => omega
      case rel => exact ⟨i + 1, by omega, by omega, rfl, HF.out⟩
    · have hin : i = ns.length := by omega
      subst hin
      have n1 : ¬ (ns.length : Int) < (ns.length : Int) := by omega
      have n3 : decide ((ns.length : Int) < (ns.length : Int)) = false := decide_eq_false n1
      have HF := Lib.hid (show wr.ownsRow (W.heap.size + 1) 3 1 (.slice o3 ns.length cp3) (kindsL ns).length (intsL (kindsL ns)) by
        have := HR.out.row
        rw [List.take_length] at this
        rw [HLN.out] at HR
        simpa [kindsL] using HR.out.row)
      go_wp2_with fail
      go_ret
      exact ⟨_, rfl, HF.out, HR.out.low⟩
end Go.Proofs.Ytjpogmomgmjmbaa

/-! The walks of the law's of and shown. -/
namespace Go.Proofs.Ytjpogmomgmjmbaa
open Go.RowKit LexS ParS BigFrame
set_option maxHeartbeats 4000000
set_option linter.unusedVariables false
set_option linter.unusedSimpArgs false
attribute [local go_sem] World.cell?_alloc_some cell_drewN_new free_drewN_new cell_drew_new free_drew_new

theorem split_nr {W : World} {v : Value} {ns : List Nd} {push : Bool} (hn : NR W v ns) (hq : QNs ns) (hs : ns.length ≤ 128) :
    Calls Try.prog 7 #[.agg #[v], .bool push] W (SplitR W (splitParts ns push) (splitRest ns push)) := by
  have h := hn
  obtain ⟨p, cap, rfl, hcap, _, h4⟩ := hn
  obtain ⟨g, rfl, _⟩ := h4 hq.tree.ne
  exact split_any h hq hcap hs
theorem res_plan1 {f : Func} {r g : Nat} {tmps : Array Value} {w : World} {pv rv : Value} (hf : f.results = #[.cell r 31]) (ht : tmps[r]?.getD undef = .pointer (some ⟨g, 0, none⟩))
    (h : Blk w g 31 #[pv, rv]) : (results f tmps).run Try.prog w = .ok (.agg #[pv, rv]) w := by
  have h0 : w.cell? ⟨g, 0, none⟩ = some pv := h.cell 0
  have h1 : w.cell? ⟨g, 1, none⟩ = some rv := h.cell 1
  simp [results, hf, go_sem, ht, h0, h1]
/-- A plan that is answered alone. -/
def OfR (W : World) (parts : List (List Nd)) (rest : List Nd) (e : Ending) (W' : World) : Prop := ∃ (pv rv : Value) (vs : List Value), e = .returned (.agg #[pv, rv]) ∧ QRow W' 0 pv vs parts ∧ NO W' 0 rv rest ∧ Below W.heap.size W W'
theorem plan_put {w : World} {g : Nat} {pv rv : Value} {vs : List Value} {parts : List (List Nd)} {rest : List Nd} {W : World} (hb : Blk w g 31 #[.slice none 0 0, .slice none 0 0]) (hq : QRow w 0 pv vs parts) (hn : NO w 0 rv rest) (hl : Below W.heap.size W w) (hg : W.heap.size ≤ g) :
    Blk ((w.setCell ⟨g, 0, none⟩ pv).setCell ⟨g, 1, none⟩ rv) g 31 #[pv, rv] ∧ QRow ((w.setCell ⟨g, 0, none⟩ pv).setCell ⟨g, 1, none⟩ rv) 0 pv vs parts ∧ NO ((w.setCell ⟨g, 0, none⟩ pv).setCell ⟨g, 1, none⟩ rv) 0 rv rest ∧ Below W.heap.size W ((w.setCell ⟨g, 0, none⟩ pv).setCell ⟨g, 1, none⟩ rv) := by
  have b2 := hb.put 0 pv
  refine ⟨b2.put 1 rv, ?_, ?_, (hl.setCell (p := ⟨g, 0, none⟩) hg _).setCell (p := ⟨g, 1, none⟩) hg _⟩
  · exact (hq.far2 (by decide) (by decide) (by decide) (by decide) (by decide) hb).far2 (by decide) (by decide) (by decide) (by decide) (by decide) b2
  · exact (hn.far2 (by decide) (by decide) (by decide) (by decide) hb).far2 (by decide) (by decide) (by decide) (by decide) b2
theorem NO.slice {W : World} {B : Nat} {v : Value} {ns : List Nd} (h : NO W B v ns) : ∃ o c, v = .slice o ns.length c := by
  obtain ⟨ms, _, ho, _⟩ := h
  exact row_slice ho
theorem NS.slice {W : World} {B : Nat} {v : Value} {ns : List Nd} (h : NS W B v ns) : ∃ o c, v = .slice o ns.length c := by
  obtain ⟨ms, _, ho, _⟩ := h
  exact row_slice ho
set_option maxRecDepth 100000 in
theorem of_any (s : ByteArray) (hs : s.size ≤ 140737488351232) {ns : List Nd} {a : Nat} (hx : queryS s.data.toList = (ns, a, 0)) {push : Bool} (w : World) :
    Calls Try.prog 10 #[.string s, .bool push] w (OfR w (splitParts ns push) (splitRest ns push)) := by
  obtain ⟨hq, h128⟩ := query_qns hx
  have HQ := Lib.hid hq
  have HT := Lib.hid (rquery_text s hs)
  have HX := Lib.hid hx
  clear hq hx
  go_enter Try.func10, Try.ntmps10
  go_wp2_with fail
  have hb0 : Below w.heap.size w (w.alloc (.cells #[.slice none 0 0, .slice none 0 0] 31)) := (Below.refl _ _).alloc (Nat.le_refl _) _
  have HB0 := Lib.hid (And.intro hb0 (Blk.new w 31 #[.slice none 0 0, .slice none 0 0]))
  clear hb0
  refine (HT.out _).mono ?_
  rw [HX.out]
  generalize w.alloc _ = w0 at HB0 ⊢
  rintro e w1 ⟨nv, rfl, hns, hb1⟩
  dsimp only at hns ⊢
  obtain ⟨o1, cp1, rfl⟩ := hns.slice
  have HN1 := Lib.hid (hns.kept (show Below w1.heap.size w1 (w1.alloc (.cells #[.slice o1 ns.length cp1] 25)) from (Below.refl _ _).alloc (Nat.le_refl _) _))
  have HB1 := Lib.hid (show Below w.heap.size w (w1.alloc (.cells #[.slice o1 ns.length cp1] 25)) ∧ Blk (w1.alloc (.cells #[.slice o1 ns.length cp1] 25)) w.heap.size 31 #[.slice none 0 0, .slice none 0 0] from
    ⟨chain (chain HB0.out.1 hb1) ((Below.refl _ _).alloc (Nat.le_refl _) _), (HB0.out.2.kept hb1).alloc _⟩)
  clear hns hb1
  go_wp2_with fail
  generalize w1.alloc _ = w2 at HN1 HB1 ⊢
  refine (split_nr HN1.out.nr HQ.out h128).mono ?_
  rintro e w3 ⟨pv, rv, vs, rfl, hqr, hno, hb3⟩
  obtain ⟨o2, cp2, rfl⟩ := row_slice hqr.row
  obtain ⟨o3, cp3, rfl⟩ := hno.slice
  have hb4 : Below w3.heap.size w3 (w3.alloc (.cells #[.slice o2 (splitParts ns push).length cp2, .slice o3 (splitRest ns push).length cp3] 31)) := (Below.refl _ _).alloc (Nat.le_refl _) _
  have hk := (HB1.out.2.kept hb3).kept hb4
  have hlt : w.heap.size < w3.heap.size := (HB1.out.2.kept hb3).lt
  have HE := Lib.hid (plan_put hk (hqr.kept hb4) (hno.kept hb4) (chain (chain HB1.out.1 hb3) hb4) (Nat.le_refl _))
  have hpl := Blk.new w3 31 #[.slice o2 (splitParts ns push).length cp2, .slice o3 (splitRest ns push).length cp3]
  have HKK := Lib.hid (And.intro hk hpl)
  clear hqr hno hb3 hb4 hk hpl
  go_upto_region 3 with fail
  obtain ⟨b3, hb3⟩ : ∃ b, b = w3.heap.size := ⟨_, rfl⟩
  rw [← hb3] at HKK hlt ⊢
  generalize w3.alloc _ = w4 at HE HKK ⊢
  have r0 := HKK.out.1.cell 0
  have r1 := HKK.out.1.cell 1
  have s0 := HKK.out.1.free 0
  have s1 := HKK.out.1.free 1
  have p0 := HKK.out.2.cell 0
  have p1 := HKK.out.2.cell 1
  have hne : b3 ≠ w.heap.size := by omega
  clear hb3
  go_wp2_with fail
  exact bodyPost_ret (res_plan1 Try.results10 rfl HE.out.1) rfl ⟨_, _, vs, rfl, HE.out.2⟩
end Go.Proofs.Ytjpogmomgmjmbaa

/-! The walk of the law's shown. -/
namespace Go.Proofs.Ytjpogmomgmjmbaa
open Go.RowKit LexS ParS BigFrame
set_option maxHeartbeats 4000000
set_option linter.unusedVariables false
set_option linter.unusedSimpArgs false
attribute [local go_sem] World.cell?_alloc_some cell_drewN_new free_drewN_new cell_drew_new free_drew_new

def ex21A : Bytes := [102, 101, 116, 99, 104, 32, 108, 111, 97, 100, 32, 124, 32, 119, 104, 101, 114, 101, 32, 110, 32, 62, 32, 49, 32, 124, 32, 97, 108, 105, 103, 110, 32, 49, 48, 32, 124, 32, 103, 114, 111, 117, 112, 32, 116, 105, 109, 101, 32, 58, 32, 115, 117, 109, 32, 110, 32, 124, 32, 107, 101, 101, 112, 32, 115, 117, 109, 95, 110]
def ex21C : Bytes := [102, 101, 116, 99, 104, 32, 108, 111, 97, 100, 32, 124, 32, 107, 101, 101, 112, 32, 104, 111, 115, 116, 32, 124, 32, 106, 111, 105, 110, 32, 40, 102, 101, 116, 99, 104, 32, 108, 97, 116, 32, 124, 32, 116, 111, 112, 32, 50, 32, 98, 121, 32, 110, 41]
def tA : List Nd := (queryS ex21A).1
def tC : List Nd := (queryS ex21C).1
theorem exA : queryS ex21A = (tA, 0, 0) := by decide +kernel
theorem exC : queryS ex21C = (tC, 0, 0) := by decide +kernel
def pA : List (List Nd) := splitParts tA true
def rA : List Nd := splitRest tA true
def pB : List (List Nd) := splitParts tA false
def rB : List Nd := splitRest tA false
def pC : List (List Nd) := splitParts tC true
def rC : List Nd := splitRest tC true
theorem kA : pA.map kindsL = [[1, 14, 2, 4, 5]] ∧ kindsL rA = [9, 3] := by decide +kernel
theorem kB : pB.map kindsL = [[1, 14, 2]] ∧ kindsL rB = [9, 4, 5, 3] := by decide +kernel
theorem kC : (pC.map kindsL)[1]? = some [1, 6] ∧ pC.length = 2 ∧ kindsL rC = [9, 9, 7] ∧ (rC[2]?.map (·.l)) = some [0, 1] := by decide +kernel
theorem of_lit (l : Bytes) {ns : List Nd} (hx : queryS l = (ns, 0, 0)) (hl : l.length ≤ 2048) (push : Bool) (w : World) : Calls Try.prog 10 #[.string ⟨l.toArray⟩, .bool push] w (OfR w (splitParts ns push) (splitRest ns push)) :=
  of_any ⟨l.toArray⟩ (by show l.toArray.size ≤ _; simp; omega) (a := 0) (by rw [show (⟨l.toArray⟩ : ByteArray).data.toList = l from by simp]; exact hx) w
set_option maxRecDepth 100000 in
theorem shaped_none {W : World} {sp : Nat} (c0 : W.cell? ⟨sp, 0, none⟩ = some (.slice none 0 0)) : Calls Try.prog 15 #[RP sp] W fun e W' => e = .returned (.bool false) ∧ Drawn W W' := by
  go_enter Try.func15, Try.ntmps15
  go_wp2_with fail
  go_big_quiet (fail)
  go_wp2_with fail
  go_ret
  exact ⟨rfl, Drawn.base _ _⟩
set_option maxRecDepth 100000 in
theorem split_none {W : World} {push : Bool} : Calls Try.prog 7 #[.agg #[.slice none 0 0], .bool push] W fun e W' => e = .returned (.tuple #[.agg #[.slice none 0 0, .slice none 0 0], .int .i64 211]) ∧ Below W.heap.size W W' := by
  go_enter Try.func7, Try.ntmps7
  go_wp2_with fail
  obtain ⟨x1, x2, x3, x4, x5⟩ := split_start W #[.slice none 0 0] #[.slice none 0 0, .slice none 0 0] (.slice none 0 0) (.pointer (some ⟨W.heap.size + 1 + 1, 0, none⟩))
  generalize World.alloc (World.alloc (World.alloc (World.alloc W _) _) _) _ = Ws at x1 x2 x3 x4 x5 ⊢
  refine (shaped_none (x3.cell 0)).mono ?_
  rintro e w1 ⟨rfl, hd⟩
  have HB := Lib.hid (And.intro (chain x1 hd.below) (x2.kept hd.below))
  clear x1 x2 x3 x4 x5 hd
  have r0 := HB.out.2.cell 0
  have r1 := HB.out.2.cell 1
  have s0 := HB.out.2.free 0
  have s1 := HB.out.2.free 1
  go_wp2_with fail
  exact bodyPost_ret (res_plan Try.results7 rfl rfl ((HB.out.2.put 0 (.slice none 0 0)).put 1 (.slice none 0 0))) rfl ⟨rfl, (HB.out.1.setCell (p := ⟨W.heap.size + 1, 0, none⟩) (Nat.le_succ _) _).setCell (p := ⟨W.heap.size + 1, 1, none⟩) (Nat.le_succ _) _⟩
theorem qrow_get {W : World} {B i : Nat} {v : Value} {vs : List Value} {nss : List (List Nd)} {ns : List Nd} (h : QRow W B v vs nss) (hi : nss[i]? = some ns) : ∃ (g c : Nat) (u : Value), v = .slice (some ⟨g, 0, none⟩) nss.length c ∧ W.cell? ⟨g, i, none⟩ = some u ∧ NO W 0 u ns := by
  have hil := some_lt hi
  obtain ⟨u, hu⟩ : ∃ u, vs[i]? = some u := ⟨vs[i]'(by rw [h.len]; exact hil), List.getElem?_eq_getElem _⟩
  rcases h.row.2 with ⟨_, h2⟩ | ⟨g, cap, cur, h1, _, h3, _, _, _, h7⟩
  · omega
  · refine ⟨g, cap, u, h1, ?_, h.each i u ns hu hi⟩
    rw [cell_of_row W g i cur _ (0, 0) h3]
    have := congrArg (fun z => z[i]?) h7
    rw [List.getElem?_take_of_lt (by omega), hu] at this
    simpa using this
/-- A plan in memory. -/
structure PlanIs (W : World) (b : Nat) (pv rv : Value) (vs : List Value) (parts : List (List Nd)) (rest : List Nd) : Prop where
  blk : Blk W b 31 #[pv, rv]
  qr : QRow W 0 pv vs parts
  no : NO W 0 rv rest
theorem PlanIs.kept {W W' : World} {b : Nat} {pv rv : Value} {vs : List Value} {parts : List (List Nd)} {rest : List Nd} (h : PlanIs W b pv rv vs parts rest) (hb : Below W.heap.size W W') : PlanIs W' b pv rv vs parts rest := ⟨h.blk.kept hb, h.qr.kept hb, h.no.kept hb⟩
theorem plan_new {W0 W : World} {pv rv : Value} {vs : List Value} {parts : List (List Nd)} {rest : List Nd} (hq : QRow W 0 pv vs parts) (hn : NO W 0 rv rest) (hb : Below W0.heap.size W0 W) : PlanIs (W.alloc (.cells #[pv, rv] 31)) W.heap.size pv rv vs parts rest ∧ Below W0.heap.size W0 (W.alloc (.cells #[pv, rv] 31)) := by
  have k : Below W.heap.size W (W.alloc (.cells #[pv, rv] 31)) := (Below.refl _ _).alloc (Nat.le_refl _) _
  exact ⟨⟨Blk.new _ _ _, hq.kept k, hn.kept k⟩, chain hb k⟩
/-- The three plans of the examples. -/
structure S3 (w W : World) (a b c : Nat) (va ra vb rb vc rc : Value) (xa xb xc : List Value) : Prop where
  low : Below w.heap.size w W
  pa : PlanIs W a va ra xa pA rA
  pb : PlanIs W b vb rb xb pB rB
  pc : PlanIs W c vc rc xc pC rC
theorem S3.kept {w W W' : World} {a b c : Nat} {va ra vb rb vc rc : Value} {xa xb xc : List Value} (h : S3 w W a b c va ra vb rb vc rc xa xb xc) (hb : Below W.heap.size W W') : S3 w W' a b c va ra vb rb vc rc xa xb xc := ⟨chain h.low hb, h.pa.kept hb, h.pb.kept hb, h.pc.kept hb⟩
/-- The parts that the examples look at. -/
def E3 (W : World) (ga gb gc : Nat) (ua ub uc : Value) (ea eb ec : List Nd) : Prop := (W.cell? ⟨ga, 0, none⟩ = some ua ∧ NO W 0 ua ea) ∧ (W.cell? ⟨gb, 0, none⟩ = some ub ∧ NO W 0 ub eb) ∧ (W.cell? ⟨gc, 1, none⟩ = some uc ∧ NO W 0 uc ec)
theorem e3_kept {W W' : World} {ga gb gc : Nat} {ua ub uc : Value} {ea eb ec : List Nd} (hb : Below W.heap.size W W') (h : E3 W ga gb gc ua ub uc ea eb ec) : E3 W' ga gb gc ua ub uc ea eb ec :=
  ⟨⟨keepc hb h.1.1, h.1.2.kept hb⟩, ⟨keepc hb h.2.1.1, h.2.1.2.kept hb⟩, keepc hb h.2.2.1, h.2.2.2.kept hb⟩
theorem kinds_lit {W : World} {v : Value} {ns : List Nd} {l : List Nat} (h : NO W 0 v ns) (hl : kindsL ns = l) (hs : l.length ≤ 1000) : Calls Try.prog 12 #[.agg #[v]] W fun e W' => ∃ v', e = .returned v' ∧ W'.ownsRow (W.heap.size + 1) 3 1 v' l.length (intsL l) ∧ Below W.heap.size W W' := by
  have := kinds_any h.nr (by rw [← hl] at hs; simpa [kindsL] using hs)
  rw [hl] at this
  exact this
theorem ints_lit {W : World} {va : Value} {l : List Nat} {b1 g : Nat} {cs : Array Value} (ha : W.ownsRow b1 3 1 va l.length (intsL l)) (hg : Blk W g 3 cs) (hc : cs = (intsL l).toArray) (hl : l.length ≤ 1000) :
    Calls Try.prog 11 #[va, .slice (some ⟨g, 0, none⟩) l.length l.length] W fun e W' => e = .returned (.bool true) ∧ Below W.heap.size W W' := by
  subst hc
  exact ints_21 ha (own_blk hg (Nat.zero_le g) (by simp [intsL]) hl)
set_option maxRecDepth 100000 in
theorem shown_21 (w : World) : Calls Try.prog 5 #[] w fun e w' => e = .returned (.bool true) ∧ Below w.heap.size w w' := by
  have k1 := of_lit _ exA (by decide) true
  have k2 := of_lit _ exA (by decide) false
  have k3 := of_lit _ exC (by decide) true
  simp only [show splitParts tA true = pA from rfl, show splitRest tA true = rA from rfl] at k1
  simp only [show splitParts tA false = pB from rfl, show splitRest tA false = rB from rfl] at k2
  simp only [show splitParts tC true = pC from rfl, show splitRest tC true = rC from rfl] at k3
  have K1 := Lib.hid k1
  have K2 := Lib.hid k2
  have K3 := Lib.hid k3
  clear k1 k2 k3
  go_enter Try.func5, Try.ntmps5
  go_wp2_with fail
  refine (K1.out _).mono ?_
  rintro e w1 ⟨vA, rA, xA, rfl, qA, nA, bA⟩
  obtain ⟨oA, cA, rfl⟩ := row_slice qA.row
  obtain ⟨ooA, ccA, rfl⟩ := nA.slice
  have PA := Lib.hid (plan_new qA nA bA)
  clear qA nA bA
  go_wp2_with fail
  obtain ⟨iA, hiA⟩ : ∃ b, b = w1.heap.size := ⟨_, rfl⟩
  rw [← hiA] at PA ⊢
  generalize w1.alloc _ = u1 at PA ⊢
  clear hiA
  have FA := Lib.hid PA.out.1
  refine (K2.out _).mono ?_
  rintro e w2 ⟨vB, rB, xB, rfl, qB, nB, bB⟩
  obtain ⟨oB, cB, rfl⟩ := row_slice qB.row
  obtain ⟨ooB, ccB, rfl⟩ := nB.slice
  have PB := Lib.hid (plan_new qB nB bB)
  have FAk := Lib.hid (FA.out.kept (chain bB ((Below.refl _ _).alloc (Nat.le_refl _) (.cells #[.slice oB pB.length cB, .slice ooB rB.length ccB] 31))))
  clear qB nB bB
  go_wp2_with fail
  obtain ⟨iB, hiB⟩ : ∃ b, b = w2.heap.size := ⟨_, rfl⟩
  rw [← hiB] at PB ⊢
  generalize w2.alloc _ = u2 at PB FAk ⊢
  clear hiB
  have FB := Lib.hid PB.out.1
  refine (K3.out _).mono ?_
  rintro e w3 ⟨vC, rC, xC, rfl, qC, nC, bC⟩
  obtain ⟨oC, cC, rfl⟩ := row_slice qC.row
  obtain ⟨ooC, ccC, rfl⟩ := nC.slice
  have PC := Lib.hid (plan_new qC nC bC)
  have FAkk := Lib.hid (FAk.out.kept (chain bC ((Below.refl _ _).alloc (Nat.le_refl _) (.cells #[.slice oC pC.length cC, .slice ooC rC.length ccC] 31))))
  have FBk := Lib.hid (FB.out.kept (chain bC ((Below.refl _ _).alloc (Nat.le_refl _) (.cells #[.slice oC pC.length cC, .slice ooC rC.length ccC] 31))))
  clear qC nC bC
  go_wp2_with fail
  obtain ⟨iC, hiC⟩ : ∃ b, b = w3.heap.size := ⟨_, rfl⟩
  rw [← hiC] at PC ⊢
  generalize w3.alloc _ = u3 at PC FAkk FBk ⊢
  clear hiC
  have H0 := Lib.hid (show S3 w u3 iA iB iC _ _ _ _ _ _ xA xB xC from ⟨chain (chain PA.out.2 PB.out.2) PC.out.2, FAkk.out, FBk.out, PC.out.1⟩)
  clear PA PB PC FA FB FAk FAkk FBk
  refine split_none.mono ?_
  rintro e w4 ⟨rfl, b4⟩
  have H4 := Lib.hid (H0.out.kept (chain b4 ((Below.refl _ _).alloc (Nat.le_refl _) (.cells #[.slice none 0 0, .slice none 0 0] 31))))
  clear H0 b4
  go_upto_region 6 with fail
  generalize w4.alloc _ = u4 at H4 ⊢
  have lA : pA.length = 1 := by have := congrArg List.length kA.1; simpa using this
  have lB : pB.length = 1 := by have := congrArg List.length kB.1; simpa using this
  have lC : pC.length = 2 := kC.2.1
  obtain ⟨eA, heA, hkA⟩ : ∃ e, pA[0]? = some e ∧ kindsL e = [1, 14, 2, 4, 5] := by
    have := congrArg (fun z => z[0]?) kA.1
    simp only [List.getElem?_map, List.getElem?_cons_zero] at this
    rcases hx : pA[0]? with _ | e
    · rw [hx] at this; cases this
    · rw [hx] at this; exact ⟨e, rfl, by injection this⟩
  obtain ⟨eB, heB, hkB⟩ : ∃ e, pB[0]? = some e ∧ kindsL e = [1, 14, 2] := by
    have := congrArg (fun z => z[0]?) kB.1
    simp only [List.getElem?_map, List.getElem?_cons_zero] at this
    rcases hx : pB[0]? with _ | e
    · rw [hx] at this; cases this
    · rw [hx] at this; exact ⟨e, rfl, by injection this⟩
  obtain ⟨eC, heC, hkC⟩ : ∃ e, pC[1]? = some e ∧ kindsL e = [1, 6] := by
    have := kC.1
    rw [List.getElem?_map] at this
    rcases hx : pC[1]? with _ | e
    · rw [hx] at this; cases this
    · rw [hx] at this; exact ⟨e, rfl, by injection this⟩
  obtain ⟨gA, dA, uA, hvA, hcA, hnA⟩ := qrow_get H4.out.pa.qr heA
  obtain ⟨gB, dB, uB, hvB, hcB, hnB⟩ := qrow_get H4.out.pb.qr heB
  obtain ⟨gC, dC, uC, hvC, hcC, hnC⟩ := qrow_get H4.out.pc.qr heC
  injection hvA with z1 z2 z3
  injection hvB with z4 z5 z6
  injection hvC with z7 z8 z9
  subst z1 z3 z4 z6 z7 z9
  obtain ⟨sA, tA_, rfl⟩ := hnA.slice
  obtain ⟨sB, tB_, rfl⟩ := hnB.slice
  obtain ⟨sC, tC_, rfl⟩ := hnC.slice
  have HE := Lib.hid (show (u4.cell? ⟨gA, 0, none⟩ = _ ∧ NO u4 0 _ eA) ∧ (u4.cell? ⟨gB, 0, none⟩ = _ ∧ NO u4 0 _ eB) ∧ (u4.cell? ⟨gC, 1, none⟩ = _ ∧ NO u4 0 _ eC) from ⟨⟨hcA, hnA⟩, ⟨hcB, hnB⟩, hcC, hnC⟩)
  have a0 : u4.cell? ⟨iA, 0, none⟩ = some (.slice (some ⟨gA, 0, none⟩) pA.length cA) := H4.out.pa.blk.cell 0
  have b0 : u4.cell? ⟨iB, 0, none⟩ = some (.slice (some ⟨gB, 0, none⟩) pB.length cB) := H4.out.pb.blk.cell 0
  have c0 : u4.cell? ⟨iC, 0, none⟩ = some (.slice (some ⟨gC, 0, none⟩) pC.length cC) := H4.out.pc.blk.cell 0
  rw [lA] at a0
  rw [lB] at b0
  rw [lC] at c0
  have HK := Lib.hid (And.intro hkA (And.intro hkB hkC))
  clear z2 z5 z8 hcA hnA hcB hnB hcC hnC hkA hkB hkC heA heB heC
  have LL := Lib.hid (And.intro lA (And.intro lB lC))
  clear lA lB lC
  have HE := Lib.hid (show E3 u4 gA gB gC _ _ _ eA eB eC from HE.out)
  have d0 := HE.out.1.1
  go_wp2_with fail
  refine (kinds_lit HE.out.1.2 HK.out.1 (by decide)).mono ?_
  rintro e y1 ⟨vv, rfl, o1, b1⟩
  obtain ⟨po1, pc1, rfl⟩ := row_slice o1
  have BA1 := Lib.hid (show Below y1.heap.size y1 (y1.alloc (.cells #[.int .i64 1, .int .i64 14, .int .i64 2, .int .i64 4, .int .i64 5] 3)) from (Below.refl _ _).alloc (Nat.le_refl _) _)
  have OA1 := Lib.hid (own_kept o1 BA1.out)
  have BB1 := Lib.hid (chain b1 BA1.out)
  clear o1 b1 d0
  go_wp2_with fail
  refine (ints_lit OA1.out (Blk.new y1 3 #[.int .i64 1, .int .i64 14, .int .i64 2, .int .i64 4, .int .i64 5]) (by rfl) (by decide)).mono ?_
  rintro e z1 ⟨rfl, bz⟩
  have HS1 := Lib.hid (H4.out.kept (chain BB1.out bz))
  have HE1 := Lib.hid (e3_kept (chain BB1.out bz) HE.out)
  clear bz BB1 OA1 BA1 H4 HE
  clear a0 b0 c0
  have a1 := HS1.out.pa.blk.cell 1
  go_wp2_with fail
  refine (kinds_lit HS1.out.pa.no kA.2 (by decide)).mono ?_
  rintro e y2 ⟨vv, rfl, o2, b2⟩
  obtain ⟨po2, pc2, rfl⟩ := row_slice o2
  have BA2 := Lib.hid (show Below y2.heap.size y2 (y2.alloc (.cells #[.int .i64 9, .int .i64 3] 3)) from (Below.refl _ _).alloc (Nat.le_refl _) _)
  have OA2 := Lib.hid (own_kept o2 BA2.out)
  have BB2 := Lib.hid (chain b2 BA2.out)
  clear o2 b2 a1
  go_wp2_with fail
  refine (ints_lit OA2.out (Blk.new y2 3 #[.int .i64 9, .int .i64 3]) (by rfl) (by decide)).mono ?_
  rintro e z2 ⟨rfl, bz⟩
  have HS2 := Lib.hid (HS1.out.kept (chain BB2.out bz))
  have HE2 := Lib.hid (e3_kept (chain BB2.out bz) HE1.out)
  clear bz BB2 OA2 BA2 HS1 HE1
  have b0 := HS2.out.pb.blk.cell 0
  rw [show pB.length = 1 from LL.out.2.1] at b0
  have d0 := HE2.out.2.1.1
  go_wp2_with fail
  refine (kinds_lit HE2.out.2.1.2 HK.out.2.1 (by decide)).mono ?_
  rintro e y3 ⟨vv, rfl, o3, b3⟩
  obtain ⟨po3, pc3, rfl⟩ := row_slice o3
  have BA3 := Lib.hid (show Below y3.heap.size y3 (y3.alloc (.cells #[.int .i64 1, .int .i64 14, .int .i64 2] 3)) from (Below.refl _ _).alloc (Nat.le_refl _) _)
  have OA3 := Lib.hid (own_kept o3 BA3.out)
  have BB3 := Lib.hid (chain b3 BA3.out)
  clear o3 b3 d0
  go_wp2_with fail
  refine (ints_lit OA3.out (Blk.new y3 3 #[.int .i64 1, .int .i64 14, .int .i64 2]) (by rfl) (by decide)).mono ?_
  rintro e z3 ⟨rfl, bz⟩
  have HS3 := Lib.hid (HS2.out.kept (chain BB3.out bz))
  have HE3 := Lib.hid (e3_kept (chain BB3.out bz) HE2.out)
  clear bz BB3 OA3 BA3 HS2 HE2
  clear b0
  have a1 := HS3.out.pb.blk.cell 1
  go_wp2_with fail
  refine (kinds_lit HS3.out.pb.no kB.2 (by decide)).mono ?_
  rintro e y4 ⟨vv, rfl, o4, b4⟩
  obtain ⟨po4, pc4, rfl⟩ := row_slice o4
  have BA4 := Lib.hid (show Below y4.heap.size y4 (y4.alloc (.cells #[.int .i64 9, .int .i64 4, .int .i64 5, .int .i64 3] 3)) from (Below.refl _ _).alloc (Nat.le_refl _) _)
  have OA4 := Lib.hid (own_kept o4 BA4.out)
  have BB4 := Lib.hid (chain b4 BA4.out)
  clear o4 b4 a1
  go_wp2_with fail
  refine (ints_lit OA4.out (Blk.new y4 3 #[.int .i64 9, .int .i64 4, .int .i64 5, .int .i64 3]) (by rfl) (by decide)).mono ?_
  rintro e z4 ⟨rfl, bz⟩
  have HS4 := Lib.hid (HS3.out.kept (chain BB4.out bz))
  have HE4 := Lib.hid (e3_kept (chain BB4.out bz) HE3.out)
  clear bz BB4 OA4 BA4 HS3 HE3
  have c0 := HS4.out.pc.blk.cell 0
  rw [show pC.length = 2 from LL.out.2.2] at c0
  have d0 := HE4.out.2.2.1
  go_wp2_with fail
  refine (kinds_lit HE4.out.2.2.2 HK.out.2.2 (by decide)).mono ?_
  rintro e y5 ⟨vv, rfl, o5, b5⟩
  obtain ⟨po5, pc5, rfl⟩ := row_slice o5
  have BA5 := Lib.hid (show Below y5.heap.size y5 (y5.alloc (.cells #[.int .i64 1, .int .i64 6] 3)) from (Below.refl _ _).alloc (Nat.le_refl _) _)
  have OA5 := Lib.hid (own_kept o5 BA5.out)
  have BB5 := Lib.hid (chain b5 BA5.out)
  clear o5 b5 d0
  go_wp2_with fail
  refine (ints_lit OA5.out (Blk.new y5 3 #[.int .i64 1, .int .i64 6]) (by rfl) (by decide)).mono ?_
  rintro e z5 ⟨rfl, bz⟩
  have HS5 := Lib.hid (HS4.out.kept (chain BB5.out bz))
  have HE5 := Lib.hid (e3_kept (chain BB5.out bz) HE4.out)
  clear bz BB5 OA5 BA5 HS4 HE4
  clear c0
  have a1 := HS5.out.pc.blk.cell 1
  go_wp2_with fail
  refine (kinds_lit HS5.out.pc.no kC.2.2.1 (by decide)).mono ?_
  rintro e y6 ⟨vv, rfl, o6, b6⟩
  obtain ⟨po6, pc6, rfl⟩ := row_slice o6
  have BA6 := Lib.hid (show Below y6.heap.size y6 (y6.alloc (.cells #[.int .i64 9, .int .i64 9, .int .i64 7] 3)) from (Below.refl _ _).alloc (Nat.le_refl _) _)
  have OA6 := Lib.hid (own_kept o6 BA6.out)
  have BB6 := Lib.hid (chain b6 BA6.out)
  clear o6 b6 a1
  go_wp2_with fail
  refine (ints_lit OA6.out (Blk.new y6 3 #[.int .i64 9, .int .i64 9, .int .i64 7]) (by rfl) (by decide)).mono ?_
  rintro e z6 ⟨rfl, bz⟩
  have HS6 := Lib.hid (HS5.out.kept (chain BB6.out bz))
  have HE6 := Lib.hid (e3_kept (chain BB6.out bz) HE5.out)
  clear bz BB6 OA6 BA6 HS5 HE5
  obtain ⟨n2, hn2, hl2⟩ : ∃ nd, rC[2]? = some nd ∧ nd.l = [0, 1] := by
    have := kC.2.2.2
    rcases hx : rC[2]? with _ | e
    · rw [hx] at this; cases this
    · rw [hx] at this; exact ⟨e, rfl, by simpa using this⟩
  have lr : rC.length = 3 := by have := congrArg List.length kC.2.2.1; simpa [kindsL] using this
  obtain ⟨pr, cr, hpr, _, _, hr4⟩ := HS6.out.pc.no.nr
  injection hpr with y1 y2 y3
  obtain ⟨gr, hgr, hcr⟩ := hr4 (by intro e; rw [e] at lr; simp at lr)
  obtain ⟨m2, bm, hm2, hk2, hrg⟩ := hcr 2 n2 hn2
  have hk3 := hk2.l
  rw [hm2, hl2] at hk3
  obtain ⟨om, cm, hom⟩ := row_slice hk3
  have e54 : z6.cell? ⟨gr, 54, none⟩ = some m2.lv := hrg 16 _ rfl
  rw [hom] at e54 hk3
  have c1 := HS6.out.pc.blk.cell 1
  rw [y1, hgr, lr] at c1
  have HK3 := Lib.hid hk3
  clear hn2 hl2 hr4 y1 y2 y3 hgr hcr hm2 hk2 hrg hk3 hom lr
  have BA7 := Lib.hid (show Below z6.heap.size z6 (z6.alloc (.cells #[.int .i64 0, .int .i64 1] 3)) from (Below.refl _ _).alloc (Nat.le_refl _) _)
  have OA7 := Lib.hid (own_kept HK3.out BA7.out)
  have BB7 := Lib.hid BA7.out
  go_wp2_with fail
  refine (ints_lit OA7.out (Blk.new z6 3 #[.int .i64 0, .int .i64 1]) (by rfl) (by decide)).mono ?_
  rintro e z7 ⟨rfl, bz⟩
  have HS7 := Lib.hid (HS6.out.kept (chain BB7.out bz))
  have HE7 := Lib.hid (e3_kept (chain BB7.out bz) HE6.out)
  clear bz BB7 OA7 BA7 HS6 HE6 
  clear c1 e54
  go_wp2_with fail
  go_ret
  exact ⟨rfl, HS7.out.low⟩
end Go.Proofs.Ytjpogmomgmjmbaa
