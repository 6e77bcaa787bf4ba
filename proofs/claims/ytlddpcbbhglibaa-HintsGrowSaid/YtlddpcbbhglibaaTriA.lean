/- The walks of trigram.Of and of the reference's Has: they return the plain words' fingerprint, and bit. -/
import Derived.Test.YtlddpcbbhglibaaProg
import Derived.Test.YtlddpcbbhglibaaBits
import Derived.Test.YtlddpcbbhglibaaMem
import Derived.WalkKit
import Derived.LoopTactic
import Derived.BigQuiet
import Derived.Outline
import Derived.Lib.Hide
import Derived.Deep.DeepCutAuto
namespace Go.Proofs.Ytlddpcbbhglibaa
open Go.RowKit Bits
set_option maxHeartbeats 400000

def bitsA (x : Nat → Nat) : Array Value := #[.int .u64 (x 0 : Int), .int .u64 (x 1 : Int), .int .u64 (x 2 : Int), .int .u64 (x 3 : Int)]
def bitsV (x : Nat → Nat) : Value := .agg (bitsA x)
theorem at4 (x : Nat → Nat) (k : Nat) (hk : k < 4) : [Value.int .u64 (x 0 : Int), .int .u64 (x 1 : Int), .int .u64 (x 2 : Int), .int .u64 (x 3 : Int)][k]? = some (.int .u64 (x k : Int)) := by
  rcases k with _ | _ | _ | _ | k <;> first | rfl | omega


theorem bitsA_cell (x : Nat → Nat) (k : Nat) (hk : k < 4) : (bitsA x)[k]? = some (.int .u64 (x k : Int)) := by
  rcases k with _ | _ | _ | _ | k <;> first | rfl | omega
theorem tri_of (s : ByteArray) (k : Nat) (h : k + 2 < s.size) :
    (31 * ((31 * (((s[k]'(by omega)).toNat : Nat) : Int) + (((s[k + 1]'(by omega)).toNat : Nat) : Int)) % 256) % 256 + (((s[k + 2]'(by omega)).toNat : Nat) : Int)) % 256 = ((tri s k : Nat) : Int) := by
  have e : ∀ i, (hi : i < s.size) → by_ s i = (s[i]'hi).toNat := fun i hi => by
    unfold by_
    rw [List.getD_eq_getElem?_getD, List.getElem?_eq_getElem (by simpa using hi)]
    rfl
  unfold tri
  rw [e k (by omega), e (k + 1) (by omega), e (k + 2) (by omega)]
  omega
theorem blk4 {w : World} {g : Nat} {t : TypeId} {x : B} (h : Blk w g t (bitsA x)) :
    w.cell? ⟨g, 0, none⟩ = some (.int .u64 (x 0 : Int)) ∧ w.cell? ⟨g, 1, none⟩ = some (.int .u64 (x 1 : Int)) ∧ w.cell? ⟨g, 2, none⟩ = some (.int .u64 (x 2 : Int)) ∧ w.cell? ⟨g, 3, none⟩ = some (.int .u64 (x 3 : Int)) :=
  ⟨h.cell 0, h.cell 1, h.cell 2, h.cell 3⟩
theorem free4 {w : World} {g : Nat} {t : TypeId} {x : B} (h : Blk w g t (bitsA x)) :
    w.frozen? ⟨g, 0, none⟩ = false ∧ w.frozen? ⟨g, 1, none⟩ = false ∧ w.frozen? ⟨g, 2, none⟩ = false ∧ w.frozen? ⟨g, 3, none⟩ = false :=
  ⟨h.free 0, h.free 1, h.free 2, h.free 3⟩
theorem put4 {w : World} {g : Nat} {x y : B} (h : Blk w g 24 (bitsA x)) :
    Blk ((((w.setCell ⟨g, 0, none⟩ (.int .u64 (y 0 : Int))).setCell ⟨g, 1, none⟩ (.int .u64 (y 1 : Int))).setCell ⟨g, 2, none⟩ (.int .u64 (y 2 : Int))).setCell ⟨g, 3, none⟩ (.int .u64 (y 3 : Int))) g 24 (bitsA y) :=
  (((h.put 0 _).put 1 _).put 2 _).put 3 _
theorem res_bits {f : Func} {r g : Nat} {tmps : Array Value} {w : World} {x : B} (hf : f.results = #[.cell r 24]) (ht : tmps[r]?.getD undef = .pointer (some ⟨g, 0, none⟩)) (h : Blk w g 24 (bitsA x)) :
    (results f tmps).run Try.prog w = .ok (bitsV x) w := by
  obtain ⟨h0, h1, h2, h3⟩ := blk4 h
  simp [results, hf, go_sem, ht, h0, h1, h2, h3, bitsV, bitsA]
theorem put_bits (x : B) (hx : WF x) (T : Nat) (hT : T < 256) :
    (bitsA x).setIfInBounds (T / 64) (.int .u64 (bits .or .u64 (x (T / 64) : Int) (IntKind.u64.wrap (2 ^ (T % 64))))) = bitsA (setB x T) := by
  have hp : (2 : Nat) ^ (T % 64) < 2 ^ 64 := Nat.pow_lt_pow_right (by omega) (by omega)
  have hw : IntKind.u64.wrap ((2 : Int) ^ (T % 64)) = ((2 ^ (T % 64) : Nat) : Int) := by
    have : ((2 : Int) ^ (T % 64)) = ((2 ^ (T % 64) : Nat) : Int) := by simp
    rw [this]
    generalize 2 ^ (T % 64) = b at *
    unfold IntKind.wrap
    simp [IntKind.bits, IntKind.signed]
    omega
  rw [hw, u64_or_nat _ _ (hx _) hp]
  unfold bitsA setB
  have : T / 64 = 0 ∨ T / 64 = 1 ∨ T / 64 = 2 ∨ T / 64 = 3 := by omega
  rcases this with e | e | e | e <;> rw [e] <;> rfl
theorem of_any (s : ByteArray) (hs : s.size ≤ maxLen) (w : World) :
    Calls Try.prog 17 #[.string s] w fun e w' => e = .returned (bitsV (ofB s)) ∧ Below w.heap.size w w' := by
  unfold maxLen at hs
  by_cases h2 : 2 < s.size
  · have h2' : (2 : Int) < s.size := by omega
    go_enter Try.func17, Try.ntmps17
    go_wp2
    go_loopw [10] (fun c wr => ∃ k : Nat, k ≤ s.size - 2 ∧ c = .int .i64 k ∧ Blk wr (w.heap.size + 1) 24 (bitsA (ofTo s k)) ∧ Blk wr w.heap.size 24 (bitsA zero) ∧ Below w.heap.size w wr) (fun c _ => s.size - (intOf c).toNat)
    case atStart => exact ⟨0, Nat.zero_le _, rfl, by have h := Blk.new (w.alloc (.cells (bitsA zero) 24)) 24 (bitsA zero); rw [World.size_alloc] at h; exact h, (Blk.new w 24 _).alloc _, ((Below.refl _ _).alloc (Nat.le_refl _) _).alloc (by simp) _⟩
    case round =>
      obtain ⟨k, hk, rfl, ha, hr, hb⟩ := hrel
      by_cases hlt : k < s.size - 2
      · have e1 : IntKind.i64.wrap ((k : Int) + 1) = (k : Int) + 1 := IntWalk.i64_in _ (by omega)
        have e2 : IntKind.i64.wrap ((k : Int) + 2) = (k : Int) + 2 := IntWalk.i64_in _ (by omega)
        have b0 : (0 : Int) ≤ (k : Int) := by omega
        have c0 : (k : Int) < s.size := by omega
        have b1 : (0 : Int) ≤ (k : Int) + 1 := by omega
        have c1 : (k : Int) + 1 < s.size := by omega
        have b2 : (0 : Int) ≤ (k : Int) + 2 := by omega
        have c2 : (k : Int) + 2 < s.size := by omega
        have t1 : ((k : Int) + 1).toNat = k + 1 := by omega
        have t2 : ((k : Int) + 2).toNat = k + 2 := by omega
        go_wp2
        go_quiet (fail)
        rw [tri_of s k (by omega)]
        have hT := tri_lt s k
        generalize hTe : tri s k = T at *
        have HT := Lib.hid hTe
        clear hTe
        have hcell : wr.cell? ⟨w.heap.size + 1, T / 64, none⟩ = some (.int .u64 (ofTo s k (T / 64) : Int)) := (ha.cell _).trans (bitsA_cell _ _ (by omega))
        have hfree := ha.free (T / 64)
        go_wp2
        refine ⟨⟨k + 1, by omega, rfl, ?_, (hr.drewN nq).far (by simp) _, (below_drewN hb nq).setCell (by simp) _⟩, by simp [intOf]; omega⟩
        rw [show ofTo s (k + 1) = setB (ofTo s k) T by rw [← HT.out]; rfl, ← put_bits _ (wf_ofTo s k) T hT]
        exact (ha.drewN nq).put (T / 64) _
      · have hk' : k = s.size - 2 := by omega
        obtain ⟨r0, r1, r2, r3⟩ := blk4 hr
        obtain ⟨a0, a1, a2, a3⟩ := blk4 ha
        obtain ⟨f0, f1, f2, f3⟩ := free4 hr
        go_wp2
        refine bodyPost_ret (v := bitsV (ofB s)) (res_bits Try.results17 rfl (x := ofB s) (put4 hr)) rfl ⟨rfl, ?_⟩
        exact (((hb.setCell (by simp) _).setCell (by simp) _).setCell (by simp) _).setCell (by simp) _
  · have hz : ofB s = zero := by unfold ofB; rw [show s.size - 2 = 0 by omega]; rfl
    rw [hz]
    clear hz
    have h2' : (s.size : Int) - 2 ≤ 0 := by omega
    go_enter Try.func17, Try.ntmps17
    go_wp2
    refine wp_loop_rounds 1 ?_
    rw [rounds_succ]
    go_wp2
    exact bodyPost_ret (v := bitsV zero) (res_bits Try.results17 rfl (x := zero) ((Blk.new w 24 (bitsA zero)).alloc _)) rfl ⟨rfl, ((Below.refl _ _).alloc (Nat.le_refl _) _).alloc (by simp) _⟩

theorem has_of (a k : Nat) : (((a : Int) / 2 ^ k).tmod 2 == 1) = a.testBit k := by
  have e : ((a : Int) / 2 ^ k).tmod 2 = (((a / 2 ^ k) % 2 : Nat) : Int) := by
    have : ((2 : Int) ^ k) = ((2 ^ k : Nat) : Int) := by simp
    rw [this, ← Int.natCast_ediv]
    rfl
  rw [e, Nat.testBit_eq_decide_div_mod_eq]
  generalize a / 2 ^ k % 2 = b
  by_cases h : b = 1
  · subst h; rfl
  · rw [decide_eq_false h, beq_eq_false_iff_ne]; omega

theorem has_any (x : B) (n : Nat) (hn : n < 256) (w : World) :
    Calls Try.prog 33 #[bitsV x, .int .i64 (n : Int)] w fun e w' => e = .returned (.bool (has x n)) ∧ Below w.heap.size w w' := by
  unfold bitsV bitsA
  have h4 := at4 x (n / 64) (by omega)
  go_enter Try.func33, Try.ntmps33
  go_wp2
  go_ret
  refine ⟨?_, (Below.refl _ _).alloc (Nat.le_refl _) _⟩
  have := has_of (x (n / 64)) (n % 64)
  unfold has
  rw [← this]
  rfl

theorem add_bits (x : B) (hx : WF x) (T : Nat) (hT : T < 256) (hn : has x T = false) :
    (bitsA x).setIfInBounds (T / 64) (.int .u64 (IntKind.u64.wrap ((x (T / 64) : Int) + IntKind.u64.wrap (2 ^ (T % 64))))) = bitsA (setB x T) := by
  have hp : (2 : Nat) ^ (T % 64) < 2 ^ 64 := Nat.pow_lt_pow_right (by omega) (by omega)
  have hw : IntKind.u64.wrap ((2 : Int) ^ (T % 64)) = ((2 ^ (T % 64) : Nat) : Int) := by
    have : ((2 : Int) ^ (T % 64)) = ((2 ^ (T % 64) : Nat) : Int) := by simp
    rw [this]
    generalize 2 ^ (T % 64) = b at *
    unfold IntKind.wrap
    simp [IntKind.bits, IntKind.signed]
    omega
  have hs := setB_of_not hx hn
  have hb := wf_setB hx T (T / 64)
  rw [hs, if_pos rfl] at hb
  have hw' : IntKind.u64.wrap ((x (T / 64) : Int) + ((2 ^ (T % 64) : Nat) : Int)) = ((x (T / 64) + 2 ^ (T % 64) : Nat) : Int) := by
    generalize 2 ^ (T % 64) = b at *
    unfold IntKind.wrap
    simp [IntKind.bits, IntKind.signed]
    omega
  rw [hw, hw']
  unfold bitsA
  rw [hs, hs, hs, hs]
  have : T / 64 = 0 ∨ T / 64 = 1 ∨ T / 64 = 2 ∨ T / 64 = 3 := by omega
  rcases this with e | e | e | e <;> rw [e] <;> rfl

end Go.Proofs.Ytlddpcbbhglibaa
