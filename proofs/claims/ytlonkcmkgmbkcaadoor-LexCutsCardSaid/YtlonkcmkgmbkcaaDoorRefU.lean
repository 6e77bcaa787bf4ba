/- The walk of catchmentref11.number: digits with a sign are read as the plain numerals' laws say. -/
import Derived.Test.YtlonkcmkgmbkcaaDoorRefN
namespace Go.Proofs.YtlonkcmkgmbkcaaDoor
open Go.RowKit LexS
set_option maxHeartbeats 4000000

def RNumRet (neg : Bool) (u : Nat) (e : Ending) : Prop := ∃ x ok, e = .returned (.tuple #[.int .i64 x, .bool ok]) ∧ RNum neg u x ok
def RNRel (D : Bytes) (i u : Nat) : Prop := i ≤ D.length ∧ dv 0 D = dv u (D.drop i) ∧ u ≤ 9223372036854775808
theorem rnum_over {D r : Bytes} {c : UInt8} {u : Nat} (he : dv 0 D = dv u (c :: r)) (h : 9223372036854775808 < 10 * u + (c.toNat - 48)) (neg : Bool) : RNum neg (dv 0 D) 0 false := by
  have h1 := dv_ge (10 * u + (c.toNat - 48)) r
  rw [dv_cons] at he
  refine ⟨⟨fun h => (by cases h), fun hs => ?_⟩, fun h => (by cases h)⟩
  exfalso
  cases neg
  · simp only [SmallEnough, Bool.false_eq_true, if_false] at hs
    omega
  · simp only [SmallEnough, if_true] at hs
    omega
theorem rnum_minus {D : Bytes} {u : Nat} (he : dv 0 D = u) (h : u ≤ 9223372036854775808) : RNum true (dv 0 D) (-(u : Int)) true := by
  rw [he]
  refine ⟨⟨fun _ => ?_, fun _ => rfl⟩, fun _ => rfl⟩
  simpa [SmallEnough] using h
theorem rnum_plus {D : Bytes} {u : Nat} (he : dv 0 D = u) (h : u < 9223372036854775808) : RNum false (dv 0 D) (u : Int) true := by
  rw [he]
  refine ⟨⟨fun _ => ?_, fun _ => rfl⟩, fun _ => rfl⟩
  simpa [SmallEnough] using h
theorem rnum_top {D : Bytes} {u : Nat} (he : dv 0 D = u) (h : u = 9223372036854775808) (x : Int) : RNum false (dv 0 D) x false := by
  rw [he]
  refine ⟨⟨fun h => (by cases h), fun hs => ?_⟩, fun h => (by cases h)⟩
  simp only [SmallEnough, Bool.false_eq_true, if_false] at hs
  omega
theorem res_two {P : Program} {f : Func} {p q : Nat} {tmps : Array Value} {w : World} {x y : Value} (hf : f.results = #[.tmp p, .tmp q]) (h1 : tmps[p]?.getD undef = x) (h2 : tmps[q]?.getD undef = y) :
    (results f tmps).run P w = .ok (.tuple #[x, y]) w := by
  simp [results, hf, go_sem, h1, h2]

set_option maxRecDepth 100000 in
theorem rnum_plain (s : ByteArray) (c0 : UInt8) (r0 : Bytes) (hl : s.data.toList = c0 :: r0) (h45 : c0.toNat ≠ 45) (hs : s.size ≤ 140737488351232) (hA : AllD (c0 :: r0)) (w : World) :
    Calls Tryd.prog 44 #[.string s] w fun e w' => w = w' ∧ RNumRet false (dv 0 (c0 :: r0)) e := by
  obtain ⟨h0, hc0, _⟩ := byte_at (i := 0) (by rw [List.drop_zero]; exact hl)
  have hp : (0 : Int) < s.size := by omega
  have g45 : ((c0.toNat : Int) == 45) = false := by rw [beq_eq_false_iff_ne]; omega
  obtain ⟨q, hq⟩ : ∃ q : ByteArray, q = s := ⟨_, rfl⟩
  have hql : q.data.toList = c0 :: r0 := by rw [hq, hl]
  have hqs : q.size ≤ 140737488351232 := by rw [hq]; exact hs
  rw [← hql] at hA ⊢
  have HA := Lib.hid hA
  clear hA hl h45
  go_enter Tryd.func44, Tryd.ntmps44
  go_wp2_with fail
  subst hq
  go_loop [4, 6] (fun cn ci => ∃ i u : Nat, cn = .int .i64 (-(u : Int)) ∧ ci = .int .i64 (i : Int) ∧ RNRel q.data.toList i u) (fun _ c => q.size - (intOf c).toNat)
  case atStart => exact ⟨0, 0, rfl, rfl, Nat.zero_le _, rfl, Nat.zero_le _⟩
  case round =>
    obtain ⟨i, u, rfl, rfl, hi, he, hu⟩ := hrel
    rw [size_list] at hi
    match hd : q.data.toList.drop i with
    | [] =>
      have hend := at_end hd
      rw [hd] at he
      rw [dv_nil] at he
      clear hd hqs hql
      by_cases ht : u = 9223372036854775808
      · have HR := Lib.hid (rnum_top he ht)
        clear he
        subst ht
        have n1 : decide (-9223372036854775808 < -((9223372036854775808 : Nat) : Int)) = false := by decide
        have n2 : ¬ ((-9223372036854775808 : Int) < -((9223372036854775808 : Nat) : Int)) := by decide
        have n3 : IntKind.i64.wrap (- -((9223372036854775808 : Nat) : Int)) = -9223372036854775808 := by decide
        go_wp2_with fail
        exact bodyPost_ret (res_two rfl rfl rfl) rfl ⟨rfl, _, _, rfl, HR.out _⟩
      · have HR := Lib.hid (rnum_plus he (by omega))
        have n1 : decide (-9223372036854775808 < -(u : Int)) = true := decide_eq_true (by omega)
        have n2 : (-9223372036854775808 : Int) < -(u : Int) := by omega
        have n3 : IntKind.i64.wrap (- -(u : Int)) = (u : Int) := by rw [Int.neg_neg]; exact IntWalk.i64_in _ (by omega)
        have n4 : IntKind.i64.wrap (u : Int) = (u : Int) := IntWalk.i64_in _ (by omega)
        clear he ht
        go_wp2_with fail
        exact bodyPost_ret (res_two rfl rfl rfl) rfl ⟨rfl, _, _, rfl, HR.out⟩
    | c :: r =>
      obtain ⟨hlt, hc, hr⟩ := byte_at hd
      have hdig := HA.out c (List.mem_of_mem_drop (by rw [hd]; simp))
      rw [hd] at he
      obtain ⟨d, hdd⟩ : ∃ d : Nat, d = c.toNat - 48 := ⟨_, rfl⟩
      have d9 : d ≤ 9 := by omega
      have u1 : IntKind.u8.wrap ((c.toNat : Int) - 48) = (d : Int) := by
        have : (c.toNat : Int) - 48 = d := by omega
        rw [this]
        simp [IntKind.wrap, IntKind.bits, IntKind.signed]
        omega
      have u2 : IntKind.i64.wrap (d : Int) = (d : Int) := IntWalk.i64_in _ (by omega)
      obtain ⟨k, hk⟩ : ∃ k : Nat, k = (9223372036854775808 - d) / 10 := ⟨_, rfl⟩
      have u3 : IntKind.i64.wrap (-9223372036854775808 + (d : Int)) = -9223372036854775808 + (d : Int) := IntWalk.i64_in _ (by omega)
      have u4 : Int.tdiv (-9223372036854775808 + (d : Int)) 10 = -(k : Int) := by
        have e1 : (-9223372036854775808 + (d : Int)) = -(((9223372036854775808 - d : Nat) : Int)) := by omega
        rw [e1, Int.neg_tdiv, hk]
        exact congrArg _ (Int.ofNat_tdiv _ 10).symm
      have hk1 : k ≤ 922337203685477580 := by omega
      have hk2 : 10 * k + d ≤ 9223372036854775808 := by omega
      have hk3 : 9223372036854775808 < 10 * (k + 1) + d := by omega
      by_cases hov : k < u
      · have HR := Lib.hid (rnum_over he (by omega) false)
        have o1 : -(u : Int) < -(k : Int) := by omega
        have o2 : decide (-(u : Int) < -(k : Int)) = true := decide_eq_true o1
        clear hd he hr hdd hk hdig hql
        go_wp2_with fail
        exact bodyPost_ret (res_two rfl rfl rfl) rfl ⟨rfl, _, _, rfl, HR.out⟩
      · have o1 : ¬ -(u : Int) < -(k : Int) := by omega
        have o2 : decide (-(u : Int) < -(k : Int)) = false := decide_eq_false o1
        have v1 : IntKind.i64.wrap (10 * -(u : Int)) = 10 * -(u : Int) := IntWalk.i64_in _ (by omega)
        have v2 : IntKind.i64.wrap (10 * -(u : Int) - (d : Int)) = 10 * -(u : Int) - (d : Int) := IntWalk.i64_in _ (by omega)
        have v3 : IntKind.i64.wrap ((i : Int) + 1) = (i : Int) + 1 := IntWalk.i64_in _ (by omega)
        have HE := Lib.hid (show RNRel q.data.toList (i + 1) (10 * u + d) from ⟨by rw [size_list]; exact hlt, by rw [he, dv_cons, hr, hdd], by omega⟩)
        clear hd he hr hdd hk hdig hql
        go_wp2_with fail
        exact ⟨⟨i + 1, 10 * u + d, by go_num, rfl, HE.out⟩, by simp [intOf]; omega⟩

set_option maxRecDepth 100000 in
theorem rnum_neg (s : ByteArray) (c0 : UInt8) (r0 : Bytes) (hl : s.data.toList = c0 :: r0) (h45 : c0.toNat = 45) (hs : s.size ≤ 140737488351232) (hA : AllD r0) (w : World) :
    Calls Tryd.prog 44 #[.string s] w fun e w' => w = w' ∧ RNumRet true (dv 0 r0) e := by
  obtain ⟨h0, hc0, _⟩ := byte_at (i := 0) (by rw [List.drop_zero]; exact hl)
  have hp : (0 : Int) < s.size := by omega
  have g45 : ((c0.toNat : Int) == 45) = true := by rw [h45]; rfl
  have b1 : (1 : Int) ≤ s.size := by omega
  have b2 : 1 ≤ s.size := by omega
  have hq : ∃ q : ByteArray, q = s.extract 1 s.size := ⟨_, rfl⟩
  obtain ⟨q, hq⟩ := hq
  have hql : q.data.toList = r0 := by rw [hq, list_from, hl]; rfl
  have hqs : q.size ≤ 140737488351232 := by rw [hq, ByteArray.size_extract]; omega
  have hqe : s.extract 1 s.size = q := hq.symm
  clear hq
  rw [← hql] at hA ⊢
  have HA := Lib.hid hA
  clear hA hl h45
  go_enter Tryd.func44, Tryd.ntmps44
  go_wp2_with fail
  go_loop [4, 6] (fun cn ci => ∃ i u : Nat, cn = .int .i64 (-(u : Int)) ∧ ci = .int .i64 (i : Int) ∧ RNRel q.data.toList i u) (fun _ c => q.size - (intOf c).toNat)
  case atStart => exact ⟨0, 0, rfl, rfl, Nat.zero_le _, rfl, Nat.zero_le _⟩
  case round =>
    obtain ⟨i, u, rfl, rfl, hi, he, hu⟩ := hrel
    rw [size_list] at hi
    match hd : q.data.toList.drop i with
    | [] =>
      have hend := at_end hd
      rw [hd] at he
      rw [dv_nil] at he
      clear hd hqs hql
      have HR := Lib.hid (rnum_minus he hu)
      clear he
      go_wp2_with fail
      exact bodyPost_ret (res_two rfl rfl rfl) rfl ⟨rfl, _, _, rfl, HR.out⟩
    | c :: r =>
      obtain ⟨hlt, hc, hr⟩ := byte_at hd
      have hdig := HA.out c (List.mem_of_mem_drop (by rw [hd]; simp))
      rw [hd] at he
      obtain ⟨d, hdd⟩ : ∃ d : Nat, d = c.toNat - 48 := ⟨_, rfl⟩
      have d9 : d ≤ 9 := by omega
      have u1 : IntKind.u8.wrap ((c.toNat : Int) - 48) = (d : Int) := by
        have : (c.toNat : Int) - 48 = d := by omega
        rw [this]
        simp [IntKind.wrap, IntKind.bits, IntKind.signed]
        omega
      have u2 : IntKind.i64.wrap (d : Int) = (d : Int) := IntWalk.i64_in _ (by omega)
      obtain ⟨k, hk⟩ : ∃ k : Nat, k = (9223372036854775808 - d) / 10 := ⟨_, rfl⟩
      have u3 : IntKind.i64.wrap (-9223372036854775808 + (d : Int)) = -9223372036854775808 + (d : Int) := IntWalk.i64_in _ (by omega)
      have u4 : Int.tdiv (-9223372036854775808 + (d : Int)) 10 = -(k : Int) := by
        have e1 : (-9223372036854775808 + (d : Int)) = -(((9223372036854775808 - d : Nat) : Int)) := by omega
        rw [e1, Int.neg_tdiv, hk]
        exact congrArg _ (Int.ofNat_tdiv _ 10).symm
      have hk1 : k ≤ 922337203685477580 := by omega
      have hk2 : 10 * k + d ≤ 9223372036854775808 := by omega
      have hk3 : 9223372036854775808 < 10 * (k + 1) + d := by omega
      by_cases hov : k < u
      · have HR := Lib.hid (rnum_over he (by omega) true)
        have o1 : -(u : Int) < -(k : Int) := by omega
        have o2 : decide (-(u : Int) < -(k : Int)) = true := decide_eq_true o1
        clear hd he hr hdd hk hdig hql
        go_wp2_with fail
        exact bodyPost_ret (res_two rfl rfl rfl) rfl ⟨rfl, _, _, rfl, HR.out⟩
      · have o1 : ¬ -(u : Int) < -(k : Int) := by omega
        have o2 : decide (-(u : Int) < -(k : Int)) = false := decide_eq_false o1
        have v1 : IntKind.i64.wrap (10 * -(u : Int)) = 10 * -(u : Int) := IntWalk.i64_in _ (by omega)
        have v2 : IntKind.i64.wrap (10 * -(u : Int) - (d : Int)) = 10 * -(u : Int) - (d : Int) := IntWalk.i64_in _ (by omega)
        have v3 : IntKind.i64.wrap ((i : Int) + 1) = (i : Int) + 1 := IntWalk.i64_in _ (by omega)
        have HE := Lib.hid (show RNRel q.data.toList (i + 1) (10 * u + d) from ⟨by rw [size_list]; exact hlt, by rw [he, dv_cons, hr, hdd], by omega⟩)
        clear hd he hr hdd hk hdig hql
        go_wp2_with fail
        exact ⟨⟨i + 1, 10 * u + d, by go_num, rfl, HE.out⟩, by simp [intOf]; omega⟩
end Go.Proofs.YtlonkcmkgmbkcaaDoor
