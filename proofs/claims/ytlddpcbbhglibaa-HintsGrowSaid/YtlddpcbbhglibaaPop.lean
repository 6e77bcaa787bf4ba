/- How many bits a word of 64 bits has, counted the way of the library's OnesCount64: lane by lane. Plain numbers alone. -/
import Derived.Test.YtlddpcbbhglibaaBits
namespace Go.Proofs.Ytlddpcbbhglibaa.Bits

def popTo (w : Nat) : Nat → Nat
  | 0 => 0
  | n + 1 => popTo w n + (if w.testBit n then 1 else 0)
theorem popTo_le (w n : Nat) : popTo w n ≤ n := by
  induction n with
  | zero => exact Nat.le_refl 0
  | succ n ih => unfold popTo; split <;> omega

theorem cnt_words (x : B) : cnt x = popTo (x 0) 64 + popTo (x 1) 64 + popTo (x 2) 64 + popTo (x 3) 64 := by
  have h : ∀ k n, n ≤ 64 → cntTo x (64 * k + n) = cntTo x (64 * k) + popTo (x k) n := by
    intro k n
    induction n with
    | zero => intro _; rfl
    | succ n ih =>
      intro hn
      have e : has x (64 * k + n) = (x k).testBit n := by
        unfold has
        rw [show (64 * k + n) / 64 = k by omega, show (64 * k + n) % 64 = n by omega]
      show cntTo x (64 * k + n) + (if has x (64 * k + n) then 1 else 0) = _
      rw [ih (by omega), e, Nat.add_assoc]
      rfl
  have h0 := h 0 64 (by omega)
  have h1 := h 1 64 (by omega)
  have h2 := h 2 64 (by omega)
  have h3 := h 3 64 (by omega)
  have hz : cntTo x (64 * 0) = 0 := rfl
  simp only [Nat.reduceMul, Nat.reduceAdd] at h0 h1 h2 h3 hz
  unfold cnt
  omega

theorem and_split (p q m r : Nat) (hq : q < 256) (hr : r < 256) : (256 * p + q) &&& (256 * m + r) = 256 * (p &&& m) + (q &&& r) := by
  have hqr : q &&& r < 2 ^ 8 := Nat.and_lt_two_pow _ hr
  refine Nat.eq_of_testBit_eq fun i => ?_
  rw [Nat.testBit_and, show 256 * p + q = 2 ^ 8 * p + q from rfl, show 256 * m + r = 2 ^ 8 * m + r from rfl, show 256 * (p &&& m) + (q &&& r) = 2 ^ 8 * (p &&& m) + (q &&& r) from rfl,
    Nat.testBit_two_pow_mul_add _ (by omega), Nat.testBit_two_pow_mul_add _ (by omega), Nat.testBit_two_pow_mul_add _ hqr]
  split <;> rw [Nat.testBit_and]

def rep (r : Nat) : Nat → Nat
  | 0 => 0
  | n + 1 => 256 * rep r n + r
def s1 (n x : Nat) : Nat := (x / 2 &&& rep 0x55 n) + (x &&& rep 0x55 n)
def s2 (n x : Nat) : Nat := (x / 4 &&& rep 0x33 n) + (x &&& rep 0x33 n)
def s3 (n x : Nat) : Nat := (x / 16 + x) &&& rep 0x0f n
def t1 (b : Nat) : Nat := (b / 2 &&& 0x55) + (b &&& 0x55)
def t2 (b : Nat) : Nat := (b / 4 &&& 0x33) + (b &&& 0x33)
def t3 (b : Nat) : Nat := (b / 16 + b) &&& 0x0f

theorem fin1 : ∀ b, b < 256 → t1 b < 256 ∧ t2 (t1 b) ≤ 0x44 ∧ t2 (t1 b) % 16 ≤ 4 ∧ t3 (t2 (t1 b)) = popTo b 8 := by decide +kernel
theorem fin2 : ∀ c, c < 2 → ∀ b, b < 256 → (128 * c + b / 2) &&& 0x55 = b / 2 &&& 0x55 := by decide +kernel
theorem fin3 : ∀ c, c < 4 → ∀ b, b < 256 → (64 * c + b / 4) &&& 0x33 = b / 4 &&& 0x33 := by decide +kernel

theorem s1_step (n a b : Nat) (hb : b < 256) : s1 (n + 1) (256 * a + b) = 256 * s1 n a + t1 b := by
  unfold s1 t1
  rw [show rep 0x55 (n + 1) = 256 * rep 0x55 n + 0x55 from rfl]
  rw [show (256 * a + b) / 2 = 256 * (a / 2) + (128 * (a % 2) + b / 2) by omega, and_split _ _ _ _ (by omega) (by omega), and_split _ _ _ _ hb (by omega),
    fin2 (a % 2) (by omega) b hb]
  omega
theorem s2_step (n a b : Nat) (hb : b < 256) : s2 (n + 1) (256 * a + b) = 256 * s2 n a + t2 b := by
  unfold s2 t2
  rw [show rep 0x33 (n + 1) = 256 * rep 0x33 n + 0x33 from rfl]
  rw [show (256 * a + b) / 4 = 256 * (a / 4) + (64 * (a % 4) + b / 4) by omega, and_split _ _ _ _ (by omega) (by omega), and_split _ _ _ _ hb (by omega),
    fin3 (a % 4) (by omega) b hb]
  omega
theorem and15 (x : Nat) : x &&& 15 = x % 16 := Nat.and_two_pow_sub_one_eq_mod x 4
theorem s3_step (n a b : Nat) (hb : b ≤ 0x44) (ha : a % 16 ≤ 4) : s3 (n + 1) (256 * a + b) = 256 * s3 n a + t3 b := by
  unfold s3 t3
  rw [show rep 0x0f (n + 1) = 256 * rep 0x0f n + 0x0f from rfl]
  rw [show (256 * a + b) / 16 + (256 * a + b) = 256 * (a / 16 + a) + (16 * (a % 16) + b / 16 + b) by omega, and_split _ _ _ _ (by omega) (by omega), and15, and15]
  congr 1
  omega

/-- The lanes, laid one behind the other. -/
def lanes : Nat → Nat → Nat
  | 0, _ => 0
  | n + 1, x => 256 * lanes n (x / 256) + popTo (x % 256) 8
theorem low_nibble (n x : Nat) : n = 0 ∧ x = 0 ∨ 0 < n → s2 n (s1 n x) % 16 ≤ 4 := by
  rintro (⟨rfl, rfl⟩ | h)
  · decide
  · obtain ⟨m, rfl⟩ : ∃ m, n = m + 1 := ⟨n - 1, by omega⟩
    have e : x = 256 * (x / 256) + x % 256 := by omega
    have f := fin1 (x % 256) (by omega)
    rw [e, s1_step _ _ _ (by omega), s2_step _ _ _ f.1]
    omega
theorem s_lanes (n : Nat) : ∀ x, x < 256 ^ n → s3 n (s2 n (s1 n x)) = lanes n x := by
  induction n with
  | zero =>
    intro x hx
    obtain rfl : x = 0 := by simpa using hx
    decide
  | succ n ih =>
    intro x hx
    have e : x = 256 * (x / 256) + x % 256 := by omega
    have f := fin1 (x % 256) (by omega)
    have hlt : x / 256 < 256 ^ n := by
      rw [Nat.pow_succ] at hx
      omega
    have hnib := low_nibble n (x / 256) (by
      rcases Nat.eq_zero_or_pos n with h | h
      · subst h
        exact .inl ⟨rfl, by simpa using hlt⟩
      · exact .inr h)
    conv => lhs; rw [e]
    rw [s1_step _ _ _ (by omega), s2_step _ _ _ f.1, s3_step _ _ _ f.2.1 hnib, ih _ hlt, f.2.2.2]
    rfl

theorem popTo_split (a b n : Nat) (hb : b < 256) : popTo (256 * a + b) (n + 8) = popTo a n + popTo b 8 := by
  have low : ∀ j, j ≤ 8 → popTo (256 * a + b) j = popTo b j := by
    intro j
    induction j with
    | zero => intro _; rfl
    | succ j ih =>
      intro hj
      have e : (256 * a + b).testBit j = b.testBit j := by
        rw [show 256 * a + b = 2 ^ 8 * a + b from rfl, Nat.testBit_two_pow_mul_add _ (by omega), if_pos (by omega)]
      unfold popTo
      rw [ih (by omega), e]
  induction n with
  | zero => rw [Nat.zero_add, low 8 (by omega)]; simp [popTo]
  | succ n ih =>
    have e : (256 * a + b).testBit (n + 8) = a.testBit n := by
      rw [show 256 * a + b = 2 ^ 8 * a + b from rfl, Nat.testBit_two_pow_mul_add _ (by omega), if_neg (by omega), Nat.add_sub_cancel]
    rw [show n + 1 + 8 = (n + 8) + 1 by omega]
    show popTo (256 * a + b) (n + 8) + (if (256 * a + b).testBit (n + 8) then 1 else 0) = popTo a n + (if a.testBit n then 1 else 0) + popTo b 8
    rw [ih, e]
    omega

theorem quot (m a b n : Nat) (h : n = m * a + b) (hb : b < m) : n / m = a := by
  rw [h, Nat.mul_add_div (by omega), Nat.div_eq_of_lt hb, Nat.add_zero]
theorem f1 (c0 c1 c2 c3 c4 c5 c6 c7 : Nat) (h0 : c0 ≤ 8) : (c0 + 256 * c1 + 65536 * c2 + 16777216 * c3 + 4294967296 * c4 + 1099511627776 * c5 + 281474976710656 * c6 + 72057594037927936 * c7) / 256 = c1 + 256 * c2 + 65536 * c3 + 16777216 * c4 + 4294967296 * c5 + 1099511627776 * c6 + 281474976710656 * c7 :=
  quot 256 _ c0 _ (by omega) (by omega)
theorem f2 (d0 d1 d2 d3 d4 d5 d6 c7 : Nat) (h0 : d0 ≤ 16) (h1 : d1 ≤ 16) : (d0 + 256 * d1 + 65536 * d2 + 16777216 * d3 + 4294967296 * d4 + 1099511627776 * d5 + 281474976710656 * d6 + 72057594037927936 * c7) / 65536 = d2 + 256 * d3 + 65536 * d4 + 16777216 * d5 + 4294967296 * d6 + 1099511627776 * c7 :=
  quot 65536 _ (d0 + 256 * d1) _ (by omega) (by omega)
theorem f3 (d0 d1 d2 d3 d4 d5 d6 c7 : Nat) (h0 : d0 ≤ 16) (h1 : d1 ≤ 16) (h2 : d2 ≤ 16) (h3 : d3 ≤ 16) (h4 : d4 ≤ 16) (h5 : d5 ≤ 16) : (d0 + 256 * d1 + 65536 * d2 + 16777216 * d3 + 4294967296 * d4 + 1099511627776 * d5 + 281474976710656 * d6 + 72057594037927936 * c7 + (d2 + 256 * d3 + 65536 * d4 + 16777216 * d5 + 4294967296 * d6 + 1099511627776 * c7)) / 4294967296
      = (d4 + d6) + 256 * (d5 + c7) + 65536 * d6 + 16777216 * c7 :=
  quot 4294967296 _ (d0 + 256 * d1 + 65536 * d2 + 16777216 * d3 + d2 + 256 * d3 + 65536 * d4 + 16777216 * d5) _ (by omega) (by omega)
theorem f4 (d0 d1 d2 d3 d4 d5 d6 c7 : Nat) (h0 : d0 + d2 + d4 + d6 ≤ 64) : (d0 + 256 * d1 + 65536 * d2 + 16777216 * d3 + 4294967296 * d4 + 1099511627776 * d5 + 281474976710656 * d6 + 72057594037927936 * c7 + (d2 + 256 * d3 + 65536 * d4 + 16777216 * d5 + 4294967296 * d6 + 1099511627776 * c7) + ((d4 + d6) + 256 * (d5 + c7) + 65536 * d6 + 16777216 * c7)) % 128 = d0 + d2 + d4 + d6 := by
  have e6 : (d0 + 256 * d1 + 65536 * d2 + 16777216 * d3 + 4294967296 * d4 + 1099511627776 * d5 + 281474976710656 * d6 + 72057594037927936 * c7 + (d2 + 256 * d3 + 65536 * d4 + 16777216 * d5 + 4294967296 * d6 + 1099511627776 * c7) + ((d4 + d6) + 256 * (d5 + c7) + 65536 * d6 + 16777216 * c7))
      = (d0 + d2 + d4 + d6) + 128 * (2 * d1 + 512 * d2 + 131072 * d3 + 33554432 * d4 + 8589934592 * d5 + 2199023255552 * d6 + 562949953421312 * c7 + (2 * d3 + 512 * d4 + 131072 * d5 + 33554432 * d6 + 8589934592 * c7) + (2 * (d5 + c7) + 512 * d6 + 131072 * c7)) := by omega
  rw [e6, Nat.add_mul_mod_self_left, Nat.mod_eq_of_lt (by omega)]
theorem fold (c0 c1 c2 c3 c4 c5 c6 c7 : Nat) (h0 : c0 ≤ 8) (h1 : c1 ≤ 8) (h2 : c2 ≤ 8) (h3 : c3 ≤ 8) (h4 : c4 ≤ 8) (h5 : c5 ≤ 8) (h6 : c6 ≤ 8) (h7 : c7 ≤ 8) (y0 y1 y2 y3 : Nat)
    (e0 : y0 = c0 + 256 * c1 + 65536 * c2 + 16777216 * c3 + 4294967296 * c4 + 1099511627776 * c5 + 281474976710656 * c6 + 72057594037927936 * c7) (e1 : y1 = y0 + y0 / 256) (e2 : y2 = y1 + y1 / 65536) (e3 : y3 = y2 + y2 / 4294967296) :
    y3 % 128 = c0 + c1 + c2 + c3 + c4 + c5 + c6 + c7 := by
  rw [e0, f1 _ _ _ _ _ _ _ _ h0] at e1
  have e1' : y1 = (c0 + c1) + 256 * (c1 + c2) + 65536 * (c2 + c3) + 16777216 * (c3 + c4) + 4294967296 * (c4 + c5) + 1099511627776 * (c5 + c6) + 281474976710656 * (c6 + c7) + 72057594037927936 * c7 := by rw [e1]; omega
  rw [e1', f2 _ _ _ _ _ _ _ _ (by omega) (by omega)] at e2
  rw [e2, f3 _ _ _ _ _ _ _ _ (by omega) (by omega) (by omega) (by omega) (by omega) (by omega)] at e3
  rw [e3, f4 _ _ _ _ _ _ _ _ (by omega)]
  omega
/-- The library's way. -/
def ones (x : Nat) : Nat :=
  let y := s3 8 (s2 8 (s1 8 x))
  let y := y + y / 256
  let y := y + y / 65536
  let y := y + y / 4294967296
  y % 128
theorem ones_pop (x : Nat) (hx : x < 2 ^ 64) : ones x = popTo x 64 := by
  have hl := s_lanes 8 x (by omega)
  have step : ∀ n w, popTo w (n + 8) = popTo (w / 256) n + popTo (w % 256) 8 := fun n w => by
    have := popTo_split (w / 256) (w % 256) n (by omega)
    rwa [show 256 * (w / 256) + w % 256 = w by omega] at this
  have p8 : ∀ b, popTo b 8 ≤ 8 := fun b => popTo_le b 8
  have hp : popTo x 64 = popTo (x % 256) 8 + popTo (x / 256 % 256) 8 + popTo (x / 256 / 256 % 256) 8 + popTo (x / 256 / 256 / 256 % 256) 8 + popTo (x / 256 / 256 / 256 / 256 % 256) 8
      + popTo (x / 256 / 256 / 256 / 256 / 256 % 256) 8 + popTo (x / 256 / 256 / 256 / 256 / 256 / 256 % 256) 8 + popTo (x / 256 / 256 / 256 / 256 / 256 / 256 / 256 % 256) 8 := by
    rw [step 56, step 48, step 40, step 32, step 24, step 16, step 8, step 0]
    simp only [popTo]
    omega
  unfold ones
  rw [hl, hp]
  refine fold _ _ _ _ _ _ _ _ (p8 _) (p8 _) (p8 _) (p8 _) (p8 _) (p8 _) (p8 _) (p8 _) _ _ _ _ ?_ rfl rfl rfl
  simp only [lanes]
  omega
end Go.Proofs.Ytlddpcbbhglibaa.Bits
