/- The walks of New, load, point, cond, kind, Seen, Bits. -/
import Derived.Test.YtlddpcbbhglibaaHAdd
namespace Go.Proofs.Ytlddpcbbhglibaa
open Go.RowKit Bits
open Go.ChangeMaps (setBlock)
set_option maxHeartbeats 4000000

theorem new_idx (w : World) : Idx (((w.alloc (.map #[] 0)).alloc (.map #[] 0)).alloc (.cells #[.map (some w.heap.size), .map (some (w.heap.size + 1))] 69)) (w.heap.size + 2) w.heap.size (w.heap.size + 1) false none := by
  have h2 := Blk.new ((w.alloc (.map #[] 0)).alloc (.map #[] 0)) 69 #[.map (some w.heap.size), .map (some (w.heap.size + 1))]
  have e2 : ((w.alloc (.map #[] 0)).alloc (.map #[] 0)).heap.size = w.heap.size + 2 := by simp
  rw [e2] at h2
  have m0 : (w.alloc (.map #[] 0)).heap[w.heap.size]? = some (.map #[] 0) := heap_alloc_new w _
  have n0 : ((w.alloc (.map #[] 0)).alloc (.map #[] 0)).heap[w.heap.size + 1]? = some (.map #[] 0) := by
    have := heap_alloc_new (w.alloc (.map #[] 0)) (.map #[] 0)
    rwa [World.size_alloc] at this
  refine ⟨h2, ?_, ?_, by omega, fun _ h => by cases h⟩
  · rw [Below.heap_alloc _ _ _ (by simp <;> omega), Below.heap_alloc _ _ _ (by simp <;> omega)]; exact m0
  · rw [Below.heap_alloc _ _ _ (by simp <;> omega)]; exact n0
theorem new_any (w : World) : Calls Try.prog 22 #[] w fun e w' => ∃ x m n, e = .returned (.pointer (some ⟨x, 0, none⟩)) ∧ Idx w' x m n false none ∧ w.heap.size ≤ m ∧ w.heap.size ≤ n ∧ w.heap.size ≤ x ∧ Below w.heap.size w w' := by
  have hmm := @run_makeMap Try.prog
  have hi := Lib.hid (new_idx w)
  have hb := Lib.hid (((Below.refl w.heap.size w).alloc (Nat.le_refl _) (.map #[] 0)).alloc (by simp) (.map #[] 0) |>.alloc (by simp <;> omega) (.cells #[.map (some w.heap.size), .map (some (w.heap.size + 1))] 69))
  go_enter Try.func22, Try.ntmps22
  go_wp2_with fail
  exact bodyPost_ret (results_tmp rfl _ _ _) rfl ⟨_, _, _, rfl, hi.out, by omega, by omega, by omega, hb.out⟩
theorem kind_any (c n : Int) (hc0 : -9223372036854775808 ≤ c) (hc1 : c ≤ 9223372036854775807) (hn0 : 1 ≤ n) (hn1 : n ≤ 9223372036854775807) (w : World) :
    Calls Try.prog 30 #[.int .i64 c, .int .i64 n] w fun e w' => (∃ k : Nat, e = .returned (.int .i64 (k : Int)) ∧ (k : Int) < n) ∧ w = w' := by
  by_cases h0 : c < 0
  · have g : decide (c < 0) = true := decide_eq_true h0
    obtain ⟨u, hu⟩ : ∃ u : Nat, -(c + 1) = (u : Int) := ⟨(-(c + 1)).toNat, by omega⟩
    have v1 : IntKind.i64.wrap (c + 1) = c + 1 := IntWalk.i64_in _ (by omega)
    have v2 : IntKind.i64.wrap (-(c + 1)) = (u : Int) := by rw [hu]; exact IntWalk.i64_in _ (by omega)
    obtain ⟨q, rfl⟩ : ∃ q : Nat, n = (q : Int) := ⟨n.toNat, by omega⟩
    have t1 : Int.tmod (u : Int) (q : Int) = ((u % q : Nat) : Int) := (Int.ofNat_tmod u q).symm
    have t2 : u % q < q := Nat.mod_lt _ (by omega)
    have t3 : ((q : Int) == 0) = false := by rw [beq_eq_false_iff_ne]; omega
    have t4 : ¬ ((q : Int) = 0) := by omega
    obtain ⟨r, hr⟩ : ∃ r, r = u % q := ⟨_, rfl⟩
    rw [← hr] at t1 t2
    have v3 : IntKind.i64.wrap (r : Int) = (r : Int) := IntWalk.i64_in _ (by omega)
    clear hr hu
    go_enter Try.func30, Try.ntmps30
    go_wp2_with fail
    exact bodyPost_ret (results_tmp rfl _ _ _) rfl ⟨⟨r, by first | rfl | simp, by omega⟩, rfl⟩
  · have g : decide (c < 0) = false := decide_eq_false h0
    obtain ⟨u, rfl⟩ : ∃ u : Nat, c = (u : Int) := ⟨c.toNat, by omega⟩
    obtain ⟨q, rfl⟩ : ∃ q : Nat, n = (q : Int) := ⟨n.toNat, by omega⟩
    have t1 : Int.tmod (u : Int) (q : Int) = ((u % q : Nat) : Int) := (Int.ofNat_tmod u q).symm
    have t2 : u % q < q := Nat.mod_lt _ (by omega)
    have t3 : ((q : Int) == 0) = false := by rw [beq_eq_false_iff_ne]; omega
    have t4 : ¬ ((q : Int) = 0) := by omega
    obtain ⟨r, hr⟩ : ∃ r, r = u % q := ⟨_, rfl⟩
    rw [← hr] at t1 t2
    have v3 : IntKind.i64.wrap (r : Int) = (r : Int) := IntWalk.i64_in _ (by omega)
    clear hr h0
    go_enter Try.func30, Try.ntmps30
    go_wp2_with fail
    exact bodyPost_ret (results_tmp rfl _ _ _) rfl ⟨⟨r, by first | rfl | simp, by omega⟩, rfl⟩
theorem seen_any {w : World} {x m n : Nat} {s : Bool} {st : Option B} (h : Idx w x m n s st) (k : ByteArray) :
    Calls Try.prog 27 #[.pointer (some ⟨x, 0, none⟩), .string k] w fun e w' => e = .returned (.bool (s && (k == load))) ∧ w = w' := by
  have c0 : w.cell? ⟨x, 0, none⟩ = some (.map (some m)) := h.at_.cell 0
  have hl := look_seen h.seen k
  obtain ⟨r, hr⟩ : ∃ r, r = (s && (k == load)) := ⟨_, rfl⟩
  rw [← hr] at hl ⊢
  clear hr h
  go_enter Try.func27, Try.ntmps27
  go_wp2_with fail
  exact bodyPost_ret (results_tmp rfl _ _ _) rfl ⟨rfl, rfl⟩
theorem bits_any {w : World} {x m n : Nat} {s : Bool} {st : Option B} (h : Idx w x m n s st) (a c : ByteArray) :
    Calls Try.prog 32 #[.pointer (some ⟨x, 0, none⟩), .string a, .string c] w fun e w' => e = .returned (bitsV (bitsAt st a c)) ∧ Below w.heap.size w w' := by
  have h' := h.below ((Below.refl _ _).alloc (Nat.le_refl _) (.cells #[.int .u64 0, .int .u64 0, .int .u64 0, .int .u64 0] 24))
  have c0 : (w.alloc (.cells #[.int .u64 0, .int .u64 0, .int .u64 0, .int .u64 0] 24)).cell? ⟨x, 1, none⟩ = some (.map (some n)) := h'.at_.cell 1
  have hl := look_bits h'.bits a c
  obtain ⟨K, hK⟩ : ∃ K, K = bitsAt st a c := ⟨_, rfl⟩
  rw [← hK] at hl ⊢
  rw [bitsV_eq K] at hl
  have HF := Lib.hid (Blk.new w 24 (bitsA K))
  have HB := Lib.hid ((Below.refl w.heap.size w).alloc (Nat.le_refl _) (.cells (bitsA K) 24))
  unfold keyV at hl
  clear hK h h'
  go_enter Try.func32, Try.ntmps32
  go_wp2_with fail
  exact bodyPost_ret (v := bitsV K) (res_bits (x := K) Try.results32 rfl HF.out) rfl ⟨rfl, HB.out⟩
end Go.Proofs.Ytlddpcbbhglibaa
