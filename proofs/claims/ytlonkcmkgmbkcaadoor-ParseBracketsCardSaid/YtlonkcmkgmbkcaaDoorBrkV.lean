/- The walk of the law ParseBrackets. -/
import Derived.Test.YtlonkcmkgmbkcaaDoorRdX
import Derived.Test.YtlonkcmkgmbkcaaDoorRdTC
import Derived.Test.YtlonkcmkgmbkcaaDoorSameT
import Derived.Test.YtlonkcmkgmbkcaaDoorPCuts
import Derived.Test.YtlonkcmkgmbkcaaDoorRefX
import Derived.Deep.Cut
namespace Go.Proofs.YtlonkcmkgmbkcaaDoor
open Go.RowKit LexS ParS BigFrame
set_option maxHeartbeats 4000000
set_option linter.unusedVariables false
set_option linter.unusedSimpArgs false
attribute [local go_sem] World.cell?_alloc_some cell_drewN_new free_drewN_new cell_drew_new free_drew_new

theorem NR.stay {W W' : World} {v : Value} {ns : List Nd} (hb : Below W.heap.size W W') (h : NR W v ns) : NR W' v ns := by
  obtain ⟨p, cap, h1, h2, h3, h4⟩ := h
  refine ⟨p, cap, h1, h2, h3, fun hne => ?_⟩
  obtain ⟨g, hg, hc⟩ := h4 hne
  exact ⟨g, hg, fun i nd hi => by
    obtain ⟨m, b, e1, e2, e3⟩ := hc i nd hi
    exact ⟨m, b, e1, e2.kept hb, range_kept hb e3⟩⟩
theorem brk_text1 (s : ByteArray) : ((⟨#[102, 101, 116, 99, 104, 32, 120, 32, 124, 32, 119, 104, 101, 114, 101, 32]⟩ : ByteArray) ++ s).data.toList = hdB ++ 32 :: s.data.toList := by simp [hdB]
theorem brk_text2 (s : ByteArray) : ((⟨#[102, 101, 116, 99, 104, 32, 120, 32, 124, 32, 119, 104, 101, 114, 101, 32, 40]⟩ : ByteArray) ++ s ++ ⟨#[41, 32]⟩).data.toList = hdB ++ 32 :: 40 :: (s.data.toList ++ [41, 32]) := by simp [hdB]
theorem brk_size1 (s : ByteArray) (h : s.size ≤ 900) : ((⟨#[102, 101, 116, 99, 104, 32, 120, 32, 124, 32, 119, 104, 101, 114, 101, 32]⟩ : ByteArray) ++ s).size ≤ 140737488351232 := by
  have e := congrArg List.length (brk_text1 s)
  rw [size_list, List.length_append, List.length_cons, size_list] at e
  have : hdB.length = 15 := rfl
  omega
theorem brk_size2 (s : ByteArray) (h : s.size ≤ 900) : ((⟨#[102, 101, 116, 99, 104, 32, 120, 32, 124, 32, 119, 104, 101, 114, 101, 32, 40]⟩ : ByteArray) ++ s ++ ⟨#[41, 32]⟩).size ≤ 140737488351232 := by
  have e := congrArg List.length (brk_text2 s)
  rw [size_list, List.length_append, List.length_cons, List.length_cons, List.length_append, size_list] at e
  have : hdB.length = 15 := rfl
  simp only [List.length_cons, List.length_nil] at e
  omega
/-- What brk_law says, of the four answers. -/
def BrkSays (e1 e2 g h : Nat) (ns1 ns2 : List Nd) : Prop := g = 0 → h = 0 → e1 = 0 → e2 = 0 → ns1 = ns2 ∧ ns1.length ≤ 128
theorem brk_says {s : Bytes} {xs : List Tok} {a g a1 e1 a2 e2 a3 e3 : Nat} {ns1 ns2 ns3 : List Nd} (hl : s.length ≤ 900) (hx : lexS s = (xs, a, g)) (hc : condS xs = (ns3, a3, e3)) (h1 : queryS (hdB ++ 32 :: s) = (ns1, a1, e1)) (h2 : queryS (hdB ++ 32 :: 40 :: (s ++ [41, 32])) = (ns2, a2, e2)) :
    BrkSays e1 e2 g e3 ns1 ns2 := by
  intro q1 q2 q3 q4
  subst q1
  subst q2
  subst q3
  subst q4
  have hg := lexS_good s
  rw [hx] at hg
  have ha : a = 0 := by
    rcases hg with ⟨_, h2, _⟩ | ⟨h2, _⟩
    · exact h2
    · exact absurd rfl h2
  subst ha
  have := brk_law hl hx (by rw [hc]) (by rw [h1]) (by rw [h2])
  rw [h1, h2] at this
  exact this
set_option maxRecDepth 100000 in
theorem brackets12_any (s : ByteArray) (hs : s.size ≤ 140737488351232) (w : World) (hg : GW w) :
    Calls Tryd.prog 11 #[.string s] w fun e w' => e = .returned (.bool true) ∧ Below w.heap.size w w' := by
  have hsh := shown_12 w hg
  by_cases h900 : s.size ≤ 900
  case neg =>
    have b0 : (900 : Int) < (s.size : Int) := by omega
    have b1 : decide ((900 : Int) < (s.size : Int)) = true := decide_eq_true b0
    have b2 : decide (900 < s.size) = true := decide_eq_true (by omega)
    go_enter Tryd.func11, Tryd.ntmps11
    go_wp2_with fail
    refine hsh.mono ?_
    rintro e w1 ⟨rfl, b1⟩
    go_wp2_with fail
    exact bodyPost_ret (results_tmp rfl _ _ _) rfl ⟨rfl, b1⟩
  have b0 : ¬ (900 : Int) < (s.size : Int) := by omega
  have b1 : decide ((900 : Int) < (s.size : Int)) = false := decide_eq_false b0
  have b2 : decide (900 < s.size) = false := decide_eq_false (by omega)
  have HSZ := Lib.hid (And.intro hs h900)
  go_enter Tryd.func11, Tryd.ntmps11
  go_wp2_with fail
  refine hsh.mono ?_
  rintro e w1 ⟨rfl, bb1⟩
  have HG1 := Lib.hid (hg.kept bb1)
  have HB1 := Lib.hid bb1
  clear bb1 hsh hg
  go_wp2_with fail
  have hq1 := query_text _ (brk_size1 s HSZ.out.2) _ HG1.out
  rw [brk_text1] at hq1
  refine hq1.mono ?_
  clear hq1
  rintro e w3 ⟨nv1, rfl, n3, b3⟩
  obtain ⟨⟨ns1, a1, e1⟩, hx1⟩ : ∃ q, q = queryS (hdB ++ 32 :: s.data.toList) := ⟨_, rfl⟩
  rw [← hx1] at n3 ⊢
  dsimp only at n3 ⊢
  have HQ1 := Lib.hid hx1.symm
  have r3 := n3.nr
  obtain ⟨p1, c1, rfl, _, _, _⟩ := n3.nr
  obtain ⟨u3, hu3⟩ : ∃ u3, u3 = w3.alloc (.cells #[.slice p1 ns1.length c1] 39) := ⟨_, rfl⟩
  have y3 : Below w3.heap.size w3 u3 := by rw [hu3]; exact (Below.refl _ _).alloc (Nat.le_refl _) _
  have x3 : Blk u3 w3.heap.size 39 #[.slice p1 ns1.length c1] := by rw [hu3]; exact Blk.new w3 _ _
  have HB3 := Lib.hid (chain HB1.out (chain b3 y3))
  have HG3 := Lib.hid ((HG1.out.kept b3).kept y3)
  have HX3 := Lib.hid (And.intro x3 (r3.stay y3))
  have HU3 := Lib.hid hu3
  clear n3 r3 b3 y3 x3 hx1 hu3
  go_wp2_with fail
  rw [show w3.alloc (.cells #[.slice p1 ns1.length c1] 39) = u3 from HU3.out.symm]
  have hq2 := query_text _ (brk_size2 s HSZ.out.2) _ HG3.out
  rw [brk_text2] at hq2
  refine hq2.mono ?_
  clear hq2
  rintro e w4 ⟨nv2, rfl, n4, b4⟩
  obtain ⟨⟨ns2, a2, e2⟩, hx2⟩ : ∃ q, q = queryS (hdB ++ 32 :: 40 :: (s.data.toList ++ [41, 32])) := ⟨_, rfl⟩
  rw [← hx2] at n4 ⊢
  dsimp only at n4 ⊢
  have HQ2 := Lib.hid hx2.symm
  have r4 := n4.nr
  obtain ⟨p2, c2, rfl, _, _, _⟩ := n4.nr
  obtain ⟨u4, hu4⟩ : ∃ u4, u4 = w4.alloc (.cells #[.slice p2 ns2.length c2] 39) := ⟨_, rfl⟩
  have y4 : Below w4.heap.size w4 u4 := by rw [hu4]; exact (Below.refl _ _).alloc (Nat.le_refl _) _
  have x4 : Blk u4 w4.heap.size 39 #[.slice p2 ns2.length c2] := by rw [hu4]; exact Blk.new w4 _ _
  have HB4 := Lib.hid (chain HB3.out (chain b4 y4))
  have HX4 := Lib.hid (And.intro x4 (And.intro (r4.stay y4) (And.intro (HX3.out.1.kept (chain b4 y4)) (HX3.out.2.stay (chain b4 y4)))))
  have HU4 := Lib.hid hu4
  clear n4 r4 b4 y4 x4 hx2 hu4
  go_wp2_with fail
  rw [show w4.alloc (.cells #[.slice p2 ns2.length c2] 39) = u4 from HU4.out.symm]
  refine (rlex_any s HSZ.out.1 u4).mono ?_
  rintro e w5 ⟨tv, rfl, o5, b5⟩
  obtain ⟨⟨xs, la, lg⟩, hx3⟩ : ∃ q, q = lexS s.data.toList := ⟨_, rfl⟩
  rw [← hx3] at o5 ⊢
  dsimp only at o5 ⊢
  have HQ3 := Lib.hid hx3.symm
  have HP := Lib.hid (condP_any (own_base o5 (Nat.zero_le _)))
  have HX5 := Lib.hid (And.intro (HX4.out.1.kept b5) (And.intro (HX4.out.2.1.stay b5) (And.intro (HX4.out.2.2.1.kept b5) (HX4.out.2.2.2.stay b5))))
  have HB5 := Lib.hid (chain HB4.out b5)
  clear o5 b5 hx3
  go_wp2_with fail
  refine HP.out.mono ?_
  rintro e w6 ⟨nv3, rfl, n6, b6⟩
  obtain ⟨⟨ns3, a3, e3⟩, hx4⟩ : ∃ q, q = condS xs := ⟨_, rfl⟩
  rw [← hx4] at n6 ⊢
  dsimp only at n6 ⊢
  have hlaw := brk_says (by rw [size_list]; exact HSZ.out.2) HQ3.out hx4.symm HQ1.out HQ2.out
  obtain ⟨no, nc, rfl⟩ : ∃ o c, nv3 = .slice o ns3.length c := by
    obtain ⟨ms, _, ho, _⟩ := n6
    exact row_slice ho
  have b6 : Below w5.heap.size w5 (w6.alloc (.cells #[.slice no ns3.length nc] 39)) := chain b6 ((Below.refl _ _).alloc (Nat.le_refl _) _)
  have HX6 := Lib.hid (And.intro (HX5.out.1.kept b6) (And.intro (HX5.out.2.1.stay b6) (And.intro (HX5.out.2.2.1.kept b6) (HX5.out.2.2.2.stay b6))))
  have HB6 := Lib.hid (chain HB5.out b6)
  clear n6 b6 hx4
  by_cases h1 : lg = 0
  case neg =>
    have j1 : ((lg : Int) != 0) = true := by rw [bne_iff_ne]; omega
    have j2 : ¬ (lg : Int) = 0 := by omega
    clear hlaw h1
    go_wp2_with fail
    exact bodyPost_ret (results_tmp rfl _ _ _) rfl ⟨rfl, HB6.out⟩
  subst h1
  by_cases h2 : e3 = 0
  case neg =>
    have j1 : ((e3 : Int) != 0) = true := by rw [bne_iff_ne]; omega
    have j2 : ¬ (e3 : Int) = 0 := by omega
    clear hlaw h2
    go_wp2_with fail
    exact bodyPost_ret (results_tmp rfl _ _ _) rfl ⟨rfl, HB6.out⟩
  subst h2
  by_cases h3 : e1 = 0
  case neg =>
    have j1 : ((e1 : Int) != 0) = true := by rw [bne_iff_ne]; omega
    have j2 : ¬ (e1 : Int) = 0 := by omega
    clear hlaw h3
    go_wp2_with fail
    exact bodyPost_ret (results_tmp rfl _ _ _) rfl ⟨rfl, HB6.out⟩
  subst h3
  by_cases h4 : e2 = 0
  case neg =>
    have j1 : ((e2 : Int) != 0) = true := by rw [bne_iff_ne]; omega
    have j2 : ¬ (e2 : Int) = 0 := by omega
    clear hlaw h4
    go_wp2_with fail
    exact bodyPost_ret (results_tmp rfl _ _ _) rfl ⟨rfl, HB6.out⟩
  subst h4
  obtain ⟨rfl, h128⟩ := hlaw rfl rfl rfl rfl
  have HS := same_trees HX6.out.2.2.2 HX6.out.2.1
  have HSM := Lib.hid HS
  have x0 : (w6.alloc (.cells #[.slice no ns3.length nc] 39)).cell? ⟨w3.heap.size, 0, none⟩ = some (.slice p1 ns1.length c1) := HX6.out.2.2.1.cell 0
  have x1 : (w6.alloc (.cells #[.slice no ns3.length nc] 39)).cell? ⟨w4.heap.size, 0, none⟩ = some (.slice p2 ns1.length c2) := HX6.out.1.cell 0
  clear HS
  go_wp2_with fail
  refine HSM.out.mono ?_
  rintro e w7 ⟨rfl, b7⟩
  have HB7 := Lib.hid (chain HB6.out b7)
  clear b7
  go_wp2_with fail
  exact bodyPost_ret (results_tmp rfl _ _ _) rfl ⟨rfl, HB7.out⟩
end Go.Proofs.YtlonkcmkgmbkcaaDoor
