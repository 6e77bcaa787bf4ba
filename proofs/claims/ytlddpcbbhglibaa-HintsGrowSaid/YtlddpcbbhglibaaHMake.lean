/- The walks of load, point, cond: what they lay into memory. -/
import Derived.Test.YtlddpcbbhglibaaHNew
namespace Go.Proofs.Ytlddpcbbhglibaa
open Go.RowKit Bits
set_option maxHeartbeats 4000000

theorem res_one {f : Func} {r g : Nat} {tmps : Array Value} {w : World} {a : Value} (hf : f.results = #[.cell r 51]) (ht : tmps[r]?.getD undef = .pointer (some ⟨g, 0, none⟩)) (h : w.cell? ⟨g, 0, none⟩ = some a) :
    (results f tmps).run Try.prog w = .ok (.agg #[a]) w := by
  simp [results, hf, go_sem, ht, h]
theorem res_schema {f : Func} {r g : Nat} {tmps : Array Value} {w : World} {a b c : Value} (hf : f.results = #[.cell r 41]) (ht : tmps[r]?.getD undef = .pointer (some ⟨g, 0, none⟩)) (h0 : w.cell? ⟨g, 0, none⟩ = some a) (h1 : w.cell? ⟨g, 1, none⟩ = some b) (h2 : w.cell? ⟨g, 2, none⟩ = some c) :
    (results f tmps).run Try.prog w = .ok (.agg #[a, b, c]) w := by
  simp [results, hf, go_sem, ht, h0, h1, h2]
theorem res_point {f : Func} {r g : Nat} {tmps : Array Value} {w : World} {a b c d : Value} (hf : f.results = #[.cell r 45]) (ht : tmps[r]?.getD undef = .pointer (some ⟨g, 0, none⟩)) (h0 : w.cell? ⟨g, 0, none⟩ = some a) (h1 : w.cell? ⟨g, 1, none⟩ = some b) (h2 : w.cell? ⟨g, 2, none⟩ = some c) (h3 : w.cell? ⟨g, 3, none⟩ = some d) :
    (results f tmps).run Try.prog w = .ok (.agg #[a, b, c, d]) w := by
  simp [results, hf, go_sem, ht, h0, h1, h2, h3]
theorem new3 (w : World) (c1 c2 c3 : Array Value) (t1 t2 t3 : TypeId) : Blk (((w.alloc (.cells c1 t1)).alloc (.cells c2 t2)).alloc (.cells c3 t3)) w.heap.size t1 c1 ∧ Blk (((w.alloc (.cells c1 t1)).alloc (.cells c2 t2)).alloc (.cells c3 t3)) (w.heap.size + 1) t2 c2 ∧
    Blk (((w.alloc (.cells c1 t1)).alloc (.cells c2 t2)).alloc (.cells c3 t3)) (w.heap.size + 1 + 1) t3 c3 ∧ Below w.heap.size w (((w.alloc (.cells c1 t1)).alloc (.cells c2 t2)).alloc (.cells c3 t3)) := by
  have b2 := Blk.new (w.alloc (.cells c1 t1)) t2 c2
  have b3 := Blk.new ((w.alloc (.cells c1 t1)).alloc (.cells c2 t2)) t3 c3
  rw [World.size_alloc] at b2 b3
  rw [World.size_alloc] at b3
  exact ⟨((Blk.new w t1 c1).alloc _).alloc _, b2.alloc _, b3, (((Below.refl _ _).alloc (Nat.le_refl _) _).alloc (by simp) _).alloc (by simp <;> omega) _⟩
theorem new2 (w : World) (c1 c2 : Array Value) (t1 t2 : TypeId) : Blk ((w.alloc (.cells c1 t1)).alloc (.cells c2 t2)) w.heap.size t1 c1 ∧ Blk ((w.alloc (.cells c1 t1)).alloc (.cells c2 t2)) (w.heap.size + 1) t2 c2 ∧ Below w.heap.size w ((w.alloc (.cells c1 t1)).alloc (.cells c2 t2)) := by
  have b2 := Blk.new (w.alloc (.cells c1 t1)) t2 c2
  rw [World.size_alloc] at b2
  exact ⟨(Blk.new w t1 c1).alloc _, b2, ((Below.refl _ _).alloc (Nat.le_refl _) _).alloc (by simp) _⟩
theorem load_any (w : World) : Calls Try.prog 24 #[] w fun e w' => ∃ g1 g2, e = .returned (.agg (schemaA g1 g2)) ∧ Blk w' g1 72 (colA host 2) ∧ Blk w' g2 72 (colA ⟨#[110]⟩ 1) ∧ Below w.heap.size w w' := by
  go_enter Try.func24, Try.ntmps24
  go_wp2_with fail
  obtain ⟨h1, h2, h3, h4⟩ := new3 w (schemaA (w.heap.size + 1) (w.heap.size + 1 + 1)) (colA host 2) (colA ⟨#[110]⟩ 1) 41 72 72
  exact bodyPost_ret (res_schema Try.results24 rfl (h1.cell 0) (h1.cell 1) (h1.cell 2)) rfl ⟨_, _, rfl, h2, h3, h4⟩
theorem point_any (t : ByteArray) (w : World) : Calls Try.prog 25 #[.string t] w fun e w' => ∃ h1 h2, e = .returned (.agg (pointA h1 h2)) ∧ Blk w' h1 56 (valA 2 t) ∧ Blk w' h2 56 (valA 1 ⟨#[]⟩) ∧ Below w.heap.size w w' := by
  go_enter Try.func25, Try.ntmps25
  go_wp2_with fail
  obtain ⟨h1, h2, h3, h4⟩ := new3 w (pointA (w.heap.size + 1) (w.heap.size + 1 + 1)) (valA 2 t) (valA 1 ⟨#[]⟩) 45 56 56
  exact bodyPost_ret (res_point Try.results25 rfl (h1.cell 0) (h1.cell 1) (h1.cell 2) (h1.cell 3)) rfl ⟨_, _, rfl, h2, h3, h4⟩
/-- A node's cells; its values' row L. -/
def nodeA (kd : Int) (nm : ByteArray) (how fr to_ vk vn : Int) (t : ByteArray) (hs : Fin 8 → Int) (L Ns As : Value) : Array Value :=
  #[.int .i64 kd, .string nm, .int .i64 how, .int .i64 fr, .int .i64 to_, .int .i64 vk, .int .i64 vn, .string t, .int .i64 (hs 0), .int .i64 (hs 1), .int .i64 (hs 2), .int .i64 (hs 3), .int .i64 (hs 4), .int .i64 (hs 5), .int .i64 (hs 6), .int .i64 (hs 7), L, Ns, As]
theorem cond_any (k h : Int) (t : ByteArray) (w : World) : Calls Try.prog 29 #[.int .i64 k, .int .i64 h, .string t] w fun e w' => ∃ g, e = .returned (.agg #[slice1 g]) ∧ w.heap.size ≤ g ∧ Blk w' g 60 (nodeA k host h 0 0 2 0 t (fun _ => 0) (.slice none 0 0) (.slice none 0 0) (.slice none 0 0)) ∧ Below w.heap.size w w' := by
  go_enter Try.func29, Try.ntmps29
  go_wp2_with fail
  obtain ⟨h1, h2, h4⟩ := new2 w #[slice1 (w.heap.size + 1)] (nodeA k host h 0 0 2 0 t (fun _ => 0) (.slice none 0 0) (.slice none 0 0) (.slice none 0 0)) 51 60
  exact bodyPost_ret (res_one Try.results29 rfl (h1.cell 0)) rfl ⟨_, rfl, by omega, h2, h4⟩
end Go.Proofs.Ytlddpcbbhglibaa
