/- LexCuts: the walk. -/
import Derived.Test.YtlonkcmkgmbkcaaDoorSame
import Derived.Test.YtlonkcmkgmbkcaaDoorRefL
import Derived.Test.YtlonkcmkgmbkcaaDoorLexG
namespace Go.Proofs.YtlonkcmkgmbkcaaDoor
open Go.RowKit LexS
set_option maxHeartbeats 4000000

theorem same_refl (pl : Bool) (x : List Tok) : SameToks pl x x :=
  ⟨rfl, fun i t u ht hu => by rw [ht] at hu; injection hu with hu; subst hu; exact ⟨rfl, rfl, rfl, fun _ => rfl⟩⟩

set_option maxRecDepth 100000 in
theorem cuts_any (s : ByteArray) (hs : s.size ≤ 140737488351232) (w : World) (hg : GW w) :
    Calls Tryd.prog 3 #[.string s] w fun e w' => e = .returned (.bool true) ∧ Below w.heap.size w w' := by
  have hsh := shown_any w hg
  go_enter Tryd.func3, Tryd.ntmps3
  go_wp2_with fail
  refine hsh.mono ?_
  rintro e w1 ⟨rfl, b1⟩
  have HG := Lib.hid (hg.kept b1)
  have HB := Lib.hid b1
  have k1 := lex_any s hs
  have k2 := rlex_any s hs
  obtain ⟨⟨xs, ax, ex⟩, hx⟩ : ∃ q, q = lexS s.data.toList := ⟨_, rfl⟩
  rw [← hx] at k1 k2
  clear hsh hg b1 hx
  go_wp2_with fail
  refine (k1 _ HG.out).mono ?_
  rintro e w2 ⟨v1, rfl, o1, c1⟩
  dsimp only at o1 ⊢
  go_wp2_with fail
  refine (k2 _).mono ?_
  rintro e w3 ⟨v2, rfl, o2, c2⟩
  dsimp only at o2 ⊢
  have O1 := own_kept o1 c2
  have HB2 := Lib.hid (chain (chain HB.out c1) c2)
  have hsame := same_any true xs xs v1 v2 _ _ w3 O1 o2 (same_refl _ _)
  clear k1 k2 o1 o2 O1 c1 c2
  go_wp2_with fail
  refine hsame.mono ?_
  rintro e w4 ⟨rfl, k, rfl⟩
  have HB3 := Lib.hid (below_drewN HB2.out k)
  clear hsame
  go_wp2_with fail
  exact bodyPost_ret (results_tmp rfl _ _ _) rfl ⟨rfl, HB3.out⟩
end Go.Proofs.YtlonkcmkgmbkcaaDoor
