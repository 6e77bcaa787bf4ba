/- The walk of the law ParseTree. -/
import Derived.Test.YtlonkcmkgmbkcaaDoorRdW
import Derived.Test.YtlonkcmkgmbkcaaDoorParX
import Derived.Deep.OwnRows
namespace Go.Proofs.YtlonkcmkgmbkcaaDoor
open Go.RowKit LexS ParS BigFrame
set_option maxHeartbeats 4000000
set_option linter.unusedVariables false
set_option linter.unusedSimpArgs false
attribute [local go_sem] World.cell?_alloc_some cell_drewN_new free_drewN_new cell_drew_new free_drew_new

/-- The counts, while they are counted: L was named. -/
structure CK (w2 : World) (ns : List Nd) (sl : Value) (L : List Nat) (wr : World) : Prop where
  below : Below w2.heap.size w2 wr
  box : Blk wr w2.heap.size 39 #[sl]
  row : wr.rowIs (w2.heap.size + 1) 3 ns.length (fun c => .int .i64 ((L.count c : Nat) : Int))
theorem CK.more {w2 : World} {ns : List Nd} {sl : Value} {L : List Nat} {wr : World} (h : CK w2 ns sl L wr) (c : Nat) : CK w2 ns sl (L ++ [c]) (wr.setCell ⟨w2.heap.size + 1, c, none⟩ (.int .i64 ((L.count c : Nat) + 1 : Int))) := by
  refine ⟨h.below.setCell (p := ⟨w2.heap.size + 1, c, none⟩) (Nat.le_succ _) _, h.box.far (show w2.heap.size ≠ w2.heap.size + 1 by omega) _, (h.row.set c _).congr fun i _ => ?_⟩
  rw [List.count_append, count_one']
  by_cases hi : i = c
  · subst hi
    simp
  · rw [if_neg hi, if_neg (fun e => hi e.symm)]
    simp
theorem named_next {ns : List Nd} {i : Nat} {nd : Nd} (h : ns[i]? = some nd) : named (ns.take (i + 1)) = named (ns.take i) ++ nd.l := by
  rw [List.take_add_one, h, named_app]
  simp [named]
theorem named_part {ns : List Nd} {i : Nat} {nd : Nd} (h : ns[i]? = some nd) (k c : Nat) : (named (ns.take i) ++ nd.l.take k).count c ≤ (named ns).count c := by
  have h1 : (named (ns.take (i + 1))).count c ≤ (named ns).count c := by
    have : named ns = named (ns.take (i + 1)) ++ named (ns.drop (i + 1)) := by rw [← named_app, List.take_append_drop]
    rw [this, List.count_append]
    omega
  rw [named_next h, List.count_append] at h1
  rw [List.count_append]
  have h2 : nd.l.count c = (nd.l.take k).count c + (nd.l.drop k).count c := by rw [← List.count_append, List.take_append_drop]
  omega
set_option maxRecDepth 100000 in
theorem tree_any (s : ByteArray) (hs : s.size ≤ 140737488351232) (w : World) (hg : GW w) :
    Calls Tryd.prog 9 #[.string s] w fun e w' => e = .returned (.bool true) ∧ Below w.heap.size w w' := by
  have hsh := shown_12 w hg
  have hq := query_text s hs
  have htree := query_tree s.data.toList
  obtain ⟨⟨ns, a, er⟩, hx⟩ : ∃ q, q = queryS s.data.toList := ⟨_, rfl⟩
  rw [← hx] at hq htree
  clear hx
  go_enter Tryd.func9, Tryd.ntmps9
  go_wp2_with fail
  refine hsh.mono ?_
  rintro e w1 ⟨rfl, b1⟩
  go_wp2_with fail
  refine (hq _ (hg.kept b1)).mono ?_
  rintro e w2 ⟨nv, rfl, n2, b2⟩
  dsimp only at htree n2 ⊢
  have HB := Lib.hid (chain b1 b2)
  clear b1 b2 hq hsh hg
  obtain ⟨p, cap, rfl, hcap, hmax, hr⟩ := nodes_row n2
  obtain ⟨W, hW⟩ : ∃ W, W = w2.alloc (.cells #[.slice p ns.length cap] 39) := ⟨_, rfl⟩
  have hbW : Below w2.heap.size w2 W := by rw [hW]; exact (Below.refl _ _).alloc (Nat.le_refl _) _
  have x0 : Blk W w2.heap.size 39 #[.slice p ns.length cap] := by rw [hW]; exact Blk.new w2 _ _
  have c0 : W.cell? ⟨w2.heap.size, 0, none⟩ = some (.slice p ns.length cap) := x0.cell 0
  have hszW : W.heap.size = w2.heap.size + 1 := by rw [hW]; exact World.size_alloc _ _
  have HW := Lib.hid hW
  have rW : ∀ (K : World → Prop), K W → K (w2.alloc (.cells #[.slice p ns.length cap] 39)) := fun K h => by rw [← HW.out]; exact h
  have HRW := Lib.hid rW
  clear hW rW n2
  go_upto_region 3 with fail
  refine HRW.out _ ?_
  rcases htree with ⟨he, hn⟩ | ⟨he, htr, h128⟩
  · subst hn
    have he2 : ((er : Int) == 0) = false := by rw [beq_eq_false_iff_ne]; omega
    have he3 : ¬ (er : Int) = 0 := by omega
    clear hr
    go_wp2_with fail
    exact bodyPost_ret (results_tmp rfl _ _ _) rfl ⟨rfl, chain HB.out hbW⟩
  · subst he
    have hpos : 0 < ns.length := List.length_pos_iff.2 htr.ne
    obtain ⟨g, rfl, hg1, hg2, hcells⟩ := hr htr.ne
    have HC := Lib.hid (fun i nd (h : ns[i]? = some nd) => node_at hcells i nd h)
    have HT := Lib.hid htr
    have hmk := run_make_row' (P := Tryd.prog) 42 3 (.int .i64 0) 8 (by kernel_rfl) infoInt rfl .i64 .i64 ns.length (by omega) (by omega)
    have M0 := Lib.hid (show CK w2 ns (.slice (some ⟨g, 0, none⟩) ns.length cap) (named (ns.take 0)) (W.alloc (.cells (madeCells #[.int .i64 0] ns.length) 3)) from
      ⟨hbW.trans ((Below.refl _ _).alloc (by omega) _), x0.kept ((Below.refl _ _).alloc (Nat.le_refl _) _), by rw [← hszW]; exact (World.rowIs_made W (.int .i64 0) ns.length 3).congr fun i _ => by simp [named]⟩)
    simp only [maxLen] at hmax
    clear hcells hr htr
    go_wp2_with fail
    go_loopg [8] (ns.length + 1) (fun gk c wr => ∃ i : Nat, i ≤ ns.length ∧ ns.length < i + gk ∧ c = .int .i64 (i : Int) ∧ CK w2 ns (.slice (some ⟨g, 0, none⟩) ns.length cap) (named (ns.take i)) wr)
    case atStart => exact ⟨0, Nat.zero_le _, by omega, rfl, M0.out⟩
    case round =>
      obtain ⟨i, hi, hgk, rfl, hck⟩ := hrel
      have HCK := Lib.hid hck
      have c1 : wr.cell? ⟨w2.heap.size, 0, none⟩ = some (.slice (some ⟨g, 0, none⟩) ns.length cap) := hck.box.cell 0
      have w1_ : IntKind.i64.wrap ((i : Int) + 1) = (i : Int) + 1 := IntWalk.i64_in _ (by omega)
      have n2 : (0 : Int) ≤ (i : Int) := by omega
      clear hck M0
      by_cases hlt : i < ns.length
      · obtain ⟨nd, hnd⟩ : ∃ nd, ns[i]? = some nd := ⟨ns[i], List.getElem?_eq_getElem hlt⟩
        obtain ⟨lv, l1, l2, _, _, _⟩ := HC.out i nd hnd
        obtain ⟨pl, cl, rfl, hl1, hl2, hl3⟩ := ints_row l2
        simp only [maxLen] at hl2
        have HN := Lib.hid (And.intro hnd hl3)
        have L1 := Lib.hid l1
        have n1 : (i : Int) < (ns.length : Int) := by omega
        have n3 : decide ((i : Int) < (ns.length : Int)) = true := decide_eq_true n1
        clear l1 l2 hl3 hnd c1
        have c1 : wr.cell? ⟨w2.heap.size, 0, none⟩ = some (.slice (some ⟨g, 0, none⟩) ns.length cap) := HCK.out.box.cell 0
        go_wp2_with fail
        go_loopg [9] (nd.l.length + 1) (fun gk c wq => ∃ k : Nat, k ≤ nd.l.length ∧ nd.l.length < k + gk ∧ c = .int .i64 (k : Int) ∧ CK w2 ns (.slice (some ⟨g, 0, none⟩) ns.length cap) (named (ns.take i) ++ nd.l.take k) wq)
        case atStart => exact ⟨0, Nat.zero_le _, by omega, rfl, by rw [List.take_zero, List.append_nil]; exact HCK.out⟩
        case round =>
          obtain ⟨k, hk, hgk2, rfl, hck⟩ := hrel
          have HQ := Lib.hid hck
          clear hck c1
          have c1 : wr.cell? ⟨w2.heap.size, 0, none⟩ = some (.slice (some ⟨g, 0, none⟩) ns.length cap) := HQ.out.box.cell 0
          have l1 := keepc HQ.out.below L1.out
          have m2 : (0 : Int) ≤ (k : Int) := by omega
          by_cases hlt2 : k < nd.l.length
          · obtain ⟨x, hx⟩ : ∃ x, nd.l[k]? = some x := ⟨nd.l[k], List.getElem?_eq_getElem hlt2⟩
            have w2_ : IntKind.i64.wrap ((k : Int) + 1) = (k : Int) + 1 := IntWalk.i64_in _ (by omega)
            have hne : nd.l ≠ [] := by intro h; rw [h] at hlt2; simp at hlt2
            obtain ⟨g2, rfl, hx2⟩ := HN.out.2 hne
            have l2 := keepc HQ.out.below (hx2 k x hx)
            have hxi : x < i := by have := HT.out.ahead i nd HN.out.1 x (List.mem_of_getElem? hx); omega
            have hxn : x < ns.length := by omega
            have cc : wr.cell? ⟨w2.heap.size + 1, x, none⟩ = some (.int .i64 (((named (ns.take i) ++ nd.l.take k).count x : Nat) : Int)) := HQ.out.row.cell hxn
            have fc := HQ.out.row.frozen x
            have hq1 : (named (ns.take i) ++ nd.l.take k).count x ≤ 1 := Nat.le_trans (named_part HN.out.1 k x) (by rw [HT.out.once]; split <;> omega)
            have km := HQ.out.more x
            rw [List.append_assoc, show nd.l.take k ++ [x] = nd.l.take (k + 1) by rw [List.take_add_one, hx]; rfl] at km
            generalize (named (ns.take i) ++ nd.l.take k).count x = q at cc hq1 km
            have KM := Lib.hid km
            have w3_ : IntKind.i64.wrap ((q : Int) + 1) = (q : Int) + 1 := IntWalk.i64_in _ (by omega)
            have m1 : (k : Int) < (nd.l.length : Int) := by omega
            have m3 : decide ((k : Int) < (nd.l.length : Int)) = true := decide_eq_true m1
            have m4 : decide ((x : Int) < 0) = false := decide_eq_false (by omega)
            have m5 : decide ((i : Int) ≤ (x : Int)) = false := decide_eq_false (by omega)
            have m6 : (x : Int) < (ns.length : Int) := by omega
            have m7 : (0 : Int) ≤ (x : Int) := by omega
            clear hx2 hx km hq1
            go_wp2_with fail
            go_roundg (nd.l.length - k)
            case measure => omega
            case rel => exact ⟨k + 1, by omega, by omega, rfl, KM.out⟩
          · have hkl : k = nd.l.length := by omega
            have KM := Lib.hid (show CK w2 ns (.slice (some ⟨g, 0, none⟩) ns.length cap) (named (ns.take (i + 1))) wr from by have := HQ.out; rwa [hkl, List.take_length, ← named_next HN.out.1] at this)
            have m1 : ¬ (k : Int) < (nd.l.length : Int) := by omega
            have m3 : decide ((k : Int) < (nd.l.length : Int)) = false := decide_eq_false m1
            clear hkl
            go_wp2_with fail
            go_roundg (ns.length - i)
            case measure => omega
            case rel => exact ⟨i + 1, by omega, by omega, rfl, KM.out⟩
      · have hin : i = ns.length := by omega
        have KM := Lib.hid (show CK w2 ns (.slice (some ⟨g, 0, none⟩) ns.length cap) (named ns) wr from by have := HCK.out; rwa [hin, List.take_length] at this)
        have n1 : ¬ (i : Int) < (ns.length : Int) := by omega
        have n3 : decide ((i : Int) < (ns.length : Int)) = false := decide_eq_false n1
        clear HCK
        go_wp2_with fail
        go_loopg [11] (ns.length + 1) (fun gk c wq => ∃ j : Nat, j ≤ ns.length ∧ ns.length < j + gk ∧ c = .int .i64 (j : Int) ∧ wq = wr)
        case atStart => exact ⟨0, Nat.zero_le _, by omega, rfl, rfl⟩
        case round =>
          obtain ⟨j, hj, hgk3, rfl, rfl⟩ := hrel
          have v1_ : IntKind.i64.wrap ((j : Int) + 1) = (j : Int) + 1 := IntWalk.i64_in _ (by omega)
          have v2_ : IntKind.i64.wrap ((ns.length : Int) - 1) = (ns.length : Int) - 1 := IntWalk.i64_in _ (by omega)
          have q2 : (0 : Int) ≤ (j : Int) := by omega
          by_cases hltj : j < ns.length
          · have q1 : (j : Int) < (ns.length : Int) := by omega
            have q3 : decide ((j : Int) < (ns.length : Int)) = true := decide_eq_true q1
            have cj := KM.out.row.cell hltj
            by_cases hl : j + 1 < ns.length
            · have hcj : (named ns).count j = 1 := by rw [HT.out.once, if_pos (by omega)]
              rw [hcj] at cj
              have q4 : ((j : Int) == (ns.length : Int) - 1) = false := by rw [beq_eq_false_iff_ne]; omega
              go_wp2_with fail
              go_roundg (ns.length - j)
              case measure => omega
              case rel => exact ⟨j + 1, by omega, by omega, rfl, rfl⟩
            · have hcj : (named ns).count j = 0 := by rw [HT.out.once, if_neg (by omega)]
              rw [hcj] at cj
              have q4 : ((j : Int) == (ns.length : Int) - 1) = true := by rw [beq_iff_eq]; omega
              go_wp2_with fail
              go_roundg (ns.length - j)
              case measure => omega
              case rel => exact ⟨j + 1, by omega, by omega, rfl, rfl⟩
          · have q1 : ¬ (j : Int) < (ns.length : Int) := by omega
            have q3 : decide ((j : Int) < (ns.length : Int)) = false := decide_eq_false q1
            have q5 : (0 : Int) < (ns.length : Int) := by omega
            have q6 : (ns.length : Int) ≤ 128 := by omega
            have q7 : decide ((0 : Int) < (ns.length : Int)) = true := decide_eq_true q5
            have q8 : decide ((ns.length : Int) ≤ 128) = true := decide_eq_true q6
            go_wp2_with fail
            exact bodyPost_ret (results_tmp rfl _ _ _) rfl ⟨rfl, chain HB.out KM.out.below⟩
end Go.Proofs.YtlonkcmkgmbkcaaDoor
