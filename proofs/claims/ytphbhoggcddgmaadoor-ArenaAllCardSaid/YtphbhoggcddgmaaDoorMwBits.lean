/- Bits of 64-bit words: and, or, andNot, the lowest bit, the number of bits. -/
import Derived.Test.YtphbhoggcddgmaaDoorMwAuto
import Derived.Lib.TrailingZeros
namespace Go.MW
open Go
set_option linter.unusedVariables false
set_option linter.unusedSimpArgs false

theorem wrap_u64 (n : Nat) : IntKind.u64.wrap (n : Int) = ((n % 2 ^ 64 : Nat) : Int) := by
  simp [IntKind.wrap, IntKind.signed, IntKind.bits]
theorem wrap_u64i (n : Int) : IntKind.u64.wrap n = n % 18446744073709551616 := by
  simp [IntKind.wrap, IntKind.signed, IntKind.bits]
theorem wrap_u64' {n : Nat} (h : n < 2 ^ 64) : IntKind.u64.wrap (n : Int) = n := by
  rw [wrap_u64, Nat.mod_eq_of_lt h]

theorem band64 {a b : Nat} (ha : a < 2 ^ 64) (hb : b < 2 ^ 64) : bitOp .and .u64 a b = ((a &&& b : Nat) : Int) := by
  show IntKind.u64.wrap (((BitVec.ofInt 64 a &&& BitVec.ofInt 64 b).toNat : Nat) : Int) = _
  rw [BitVec.ofInt_natCast, BitVec.ofInt_natCast, BitVec.toNat_and, BitVec.toNat_ofNat, BitVec.toNat_ofNat, Nat.mod_eq_of_lt ha, Nat.mod_eq_of_lt hb, wrap_u64']
  exact Nat.lt_of_le_of_lt Nat.and_le_left ha
theorem bor64 {a b : Nat} (ha : a < 2 ^ 64) (hb : b < 2 ^ 64) : bitOp .or .u64 a b = ((a ||| b : Nat) : Int) := by
  show IntKind.u64.wrap (((BitVec.ofInt 64 a ||| BitVec.ofInt 64 b).toNat : Nat) : Int) = _
  rw [BitVec.ofInt_natCast, BitVec.ofInt_natCast, BitVec.toNat_or, BitVec.toNat_ofNat, BitVec.toNat_ofNat, Nat.mod_eq_of_lt ha, Nat.mod_eq_of_lt hb, wrap_u64']
  exact Nat.or_lt_two_pow ha hb
theorem bandNot64 {a b : Nat} (ha : a < 2 ^ 64) (hb : b < 2 ^ 64) : bitOp .andNot .u64 a b = ((a &&& (2 ^ 64 - 1 - b) : Nat) : Int) := by
  show IntKind.u64.wrap (((BitVec.ofInt 64 a &&& ~~~ BitVec.ofInt 64 b).toNat : Nat) : Int) = _
  rw [BitVec.ofInt_natCast, BitVec.ofInt_natCast, BitVec.toNat_and, BitVec.toNat_not, BitVec.toNat_ofNat, BitVec.toNat_ofNat, Nat.mod_eq_of_lt ha, Nat.mod_eq_of_lt hb, wrap_u64']
  exact Nat.lt_of_le_of_lt Nat.and_le_left ha
theorem bcom64 {a : Nat} (ha : a < 2 ^ 64) : bitOp .xor .u64 (if IntKind.u64.signed then -1 else IntKind.u64.max) a = ((2 ^ 64 - 1 - a : Nat) : Int) := by
  rw [show (if IntKind.u64.signed then -1 else IntKind.u64.max) = ((2 ^ 64 - 1 : Nat) : Int) from rfl]
  show IntKind.u64.wrap (((BitVec.ofInt 64 _ ^^^ BitVec.ofInt 64 a).toNat : Nat) : Int) = _
  rw [BitVec.ofInt_natCast, BitVec.ofInt_natCast]
  have : BitVec.ofNat 64 (2 ^ 64 - 1) ^^^ BitVec.ofNat 64 a = ~~~ BitVec.ofNat 64 a := by
    rw [show BitVec.ofNat 64 (2 ^ 64 - 1) = BitVec.allOnes 64 from rfl, BitVec.allOnes_xor]
  rw [this, BitVec.toNat_not, BitVec.toNat_ofNat, Nat.mod_eq_of_lt ha, wrap_u64' (by omega)]

theorem shr64 (a : Nat) {b : Nat} : Int.fdiv (a : Int) (2 ^ (Nat.min b IntKind.u64.bits)) = ((a / 2 ^ Nat.min b 64 : Nat) : Int) := by
  rw [show IntKind.u64.bits = 64 from rfl]
  rw [show (2 : Int) ^ Nat.min b 64 = ((2 ^ Nat.min b 64 : Nat) : Int) by simp]
  rw [Int.fdiv_eq_ediv_of_nonneg _ (Int.natCast_nonneg _)]
  rfl

theorem testBit_big {a i : Nat} (ha : a < 2 ^ 64) (h : 64 ≤ i) : a.testBit i = false :=
  Nat.testBit_lt_two_pow (Nat.lt_of_lt_of_le ha (Nat.pow_le_pow_right (by decide) h))

/-- The bit at a place. -/
theorem bit_at {a b : Nat} (ha : a < 2 ^ 64) : decide ((0 : Int) < ((a / 2 ^ Nat.min b 64 &&& 1 : Nat) : Int)) = a.testBit b := by
  rw [Nat.and_one_is_mod]
  by_cases hb : b ≤ 64
  · rw [show Nat.min b 64 = b from Nat.min_eq_left hb, Nat.testBit_eq_decide_div_mod_eq]
    by_cases h : a / 2 ^ b % 2 = 1
    · simp [h]
    · have : a / 2 ^ b % 2 = 0 := by omega
      simp [this]
  · rw [show Nat.min b 64 = 64 from Nat.min_eq_right (by omega), Nat.div_eq_of_lt ha, testBit_big ha (by omega)]
    rfl

theorem and_mask_not {a k : Nat} (ha : a < 2 ^ 64) (hk : k ≤ 64) : (a &&& (2 ^ 64 - 1 - (2 ^ k - 1)) = 0) ↔ a < 2 ^ k := by
  have hpow : 2 ^ k ≤ 2 ^ 64 := Nat.pow_le_pow_right (by decide) hk
  have h0 : 0 < 2 ^ k := Nat.two_pow_pos k
  have e : 2 ^ 64 - 1 - (2 ^ k - 1) = 2 ^ 64 - 2 ^ k := by omega
  have hb : ∀ i, (2 ^ 64 - 2 ^ k).testBit i = (decide (k ≤ i) && decide (i < 64)) := by
    intro i
    have e2 : 2 ^ 64 - 2 ^ k = 2 ^ k * (2 ^ (64 - k) - 1) := by
      rw [Nat.mul_sub, ← Nat.pow_add, show k + (64 - k) = 64 by omega, Nat.mul_one]
    rw [e2, Nat.mul_comm, Nat.testBit_mul_two_pow]
    by_cases h : k ≤ i
    · rw [Nat.testBit_two_pow_sub_one]
      simp [h]
      omega
    · simp [h]
  rw [e]
  constructor
  · intro h
    refine Nat.lt_pow_two_of_testBit _ fun i hi => ?_
    by_cases h64 : i < 64
    · have := congrArg (Nat.testBit · i) h
      simp only [Nat.testBit_and, hb, hi, h64, decide_true, Bool.and_true, Nat.zero_testBit] at this
      exact this
    · exact testBit_big ha (by omega)
  · intro h
    refine Nat.eq_of_testBit_eq fun i => ?_
    rw [Nat.testBit_and, hb, Nat.zero_testBit]
    by_cases hi : k ≤ i
    · rw [Nat.testBit_lt_two_pow (Nat.lt_of_lt_of_le h (Nat.pow_le_pow_right (by decide) hi))]
      rfl
    · simp [hi]

/-- A word without a bit. -/
def clr1 (a k : Nat) : Nat := a &&& (2 ^ 64 - 1 - 2 ^ k)
theorem clr1_bit {a k i : Nat} (ha : a < 2 ^ 64) (hk : k < 64) : (clr1 a k).testBit i = (a.testBit i && decide (i ≠ k)) := by
  have hp : 2 ^ k < 2 ^ 64 := Nat.pow_lt_pow_right (by decide) hk
  unfold clr1
  rw [Nat.testBit_and, show 2 ^ 64 - 1 - 2 ^ k = 2 ^ 64 - (2 ^ k + 1) by omega, Nat.testBit_two_pow_sub_succ hp, Nat.testBit_two_pow]
  by_cases h64 : i < 64
  · by_cases h : k = i
    · simp [h]
    · simp [h, Ne.symm h, h64]
  · rw [testBit_big ha (by omega)]
    rfl
theorem clr1_lt {a k : Nat} (ha : a < 2 ^ 64) : clr1 a k < 2 ^ 64 := Nat.lt_of_le_of_lt Nat.and_le_left ha

theorem shl1 {b : Nat} : IntKind.u64.wrap (1 * 2 ^ (Nat.min b IntKind.u64.bits)) = ((if b < 64 then 2 ^ b else 0 : Nat) : Int) := by
  rw [show IntKind.u64.bits = 64 from rfl, Int.one_mul]
  rw [show (2 : Int) ^ Nat.min b 64 = ((2 ^ Nat.min b 64 : Nat) : Int) by simp, wrap_u64]
  by_cases hb : b < 64
  · rw [show Nat.min b 64 = b from Nat.min_eq_left (by omega), if_pos hb, Nat.mod_eq_of_lt (Nat.pow_lt_pow_right (by decide) hb)]
  · rw [show Nat.min b 64 = 64 from Nat.min_eq_right (by omega), if_neg hb]

/-- The least place without a bit. -/
def low0 (a : Nat) : Nat := Go.Lib.ctz 64 (2 ^ 64 - 1 - a)

theorem low0_spec {a : Nat} (ha : a < 2 ^ 64 - 1) : low0 a < 64 ∧ a.testBit (low0 a) = false ∧ ∀ i, i < low0 a → a.testBit i = true := by
  have h0 : 2 ^ 64 - 1 - a ≠ 0 := by omega
  have hlt : 2 ^ 64 - 1 - a < 2 ^ 64 := by omega
  obtain ⟨h1, h2⟩ := Go.Lib.lowest_bit 64 _ h0 hlt
  have hb : ∀ i, i < 64 → (2 ^ 64 - 1 - a).testBit i = !a.testBit i := by
    intro i hi
    rw [show 2 ^ 64 - 1 - a = 2 ^ 64 - (a + 1) by omega, Nat.testBit_two_pow_sub_succ (by omega)]
    simp [hi]
  obtain ⟨m, hm, hk⟩ := Go.Lib.ctzFrom_spec 64 _ (by omega) hlt
  have he : Go.Lib.ctzFrom 64 (2 ^ 64 - 1 - a) = low0 a := by simp [low0, Go.Lib.ctz, h0]
  rw [he] at hm hk
  have hbit : ∀ i, (2 ^ 64 - 1 - a).testBit i = (decide (low0 a ≤ i) && (2 * m + 1).testBit (i - low0 a)) := by
    intro i
    rw [hm, Nat.mul_comm, Nat.testBit_mul_two_pow]
  refine ⟨hk, ?_, fun i hi => ?_⟩
  · have := hbit (low0 a)
    rw [hb _ hk] at this
    simp at this
    simpa using this
  · have := hbit i
    rw [hb _ (by omega), decide_eq_false (by omega), Bool.false_and] at this
    simpa using this

/-- What a place's number is by the table. -/
theorem tz_key {x : Nat} (h0 : x ≠ 0) (h : x < 2 ^ 64) : bitOp .and .u64 (x : Int) (IntKind.u64.wrap (0 - (x : Int))) = ((2 ^ Go.Lib.ctz 64 x : Nat) : Int) := by
  have : IntKind.u64.wrap (0 - (x : Int)) = ((2 ^ 64 - x : Nat) : Int) := by
    rw [wrap_u64i]; omega
  rw [this, band64 h (by omega), (Go.Lib.lowest_bit 64 x h0 h).1]

/-- How many of the first n bits are set. -/
def pc : Nat → Nat → Nat
  | 0, _ => 0
  | n + 1, x => x % 2 + pc n (x / 2)

theorem pc_le : ∀ n x, pc n x ≤ n
  | 0, _ => Nat.le_refl _
  | n + 1, x => by have := pc_le n (x / 2); have := Nat.mod_lt x (show 0 < 2 by decide); simp only [pc]; omega

theorem pc_bits : ∀ (n x y k : Nat), k < n → x.testBit k = false → y.testBit k = true → (∀ i, i ≠ k → y.testBit i = x.testBit i) → pc n y = pc n x + 1
  | 0, _, _, _, h, _, _, _ => by omega
  | n + 1, x, y, 0, _, h1, h2, h3 => by
    have e : y / 2 = x / 2 := Nat.eq_of_testBit_eq fun i => by
      rw [← Nat.testBit_succ, ← Nat.testBit_succ]
      exact h3 (i + 1) (by omega)
    have m1 : x % 2 = 0 := by simpa [Nat.testBit_zero] using h1
    have m2 : y % 2 = 1 := by simpa [Nat.testBit_zero] using h2
    simp only [pc, e, m1, m2]
    omega
  | n + 1, x, y, k + 1, h, h1, h2, h3 => by
    have ih := pc_bits n (x / 2) (y / 2) k (by omega) (by rw [← Nat.testBit_succ]; exact h1) (by rw [← Nat.testBit_succ]; exact h2) fun i hi => by
      rw [← Nat.testBit_succ, ← Nat.testBit_succ]
      exact h3 (i + 1) (by omega)
    have m : y % 2 = x % 2 := by
      have := h3 0 (by omega)
      simp only [Nat.testBit_zero, decide_eq_decide] at this
      omega
    simp only [pc, m, ih]
    omega

theorem pc_split : ∀ (m n x : Nat), pc (m + n) x = pc m (x % 2 ^ m) + pc n (x / 2 ^ m)
  | 0, n, x => by simp [pc, Nat.mod_one]
  | m + 1, n, x => by
    rw [show m + 1 + n = (m + n) + 1 by omega]
    simp only [pc]
    rw [pc_split m n (x / 2)]
    have e1 : x % 2 ^ (m + 1) % 2 = x % 2 := by rw [Nat.pow_succ, Nat.mul_comm, Nat.mod_mul_right_mod]
    have e2 : x % 2 ^ (m + 1) / 2 = x / 2 % 2 ^ m := by rw [Nat.pow_succ, Nat.mul_comm, Nat.mod_mul_right_div_self]
    have e3 : x / 2 ^ (m + 1) = x / 2 / 2 ^ m := by rw [Nat.pow_succ, Nat.mul_comm, Nat.div_div_eq_div_mul]
    rw [e1, e2, e3]
    omega

theorem and_lane {a b M m : Nat} (hb : b < 256) (hm : m < 256) : (256 * a + b) &&& (256 * M + m) = 256 * (a &&& M) + (b &&& m) := by
  have hbm : b &&& m < 2 ^ 8 := Nat.lt_of_le_of_lt Nat.and_le_left hb
  refine Nat.eq_of_testBit_eq fun i => ?_
  rw [Nat.testBit_and, show (256 : Nat) = 2 ^ 8 from rfl, Nat.testBit_two_pow_mul_add _ hb, Nat.testBit_two_pow_mul_add _ hm, Nat.testBit_two_pow_mul_add _ hbm]
  split
  · rw [Nat.testBit_and]
  · rw [Nat.testBit_and]

/-- The first three steps: the bits of each byte. -/
def sw1 (m x : Nat) : Nat := ((x / 2) &&& m) + (x &&& m)
def sw2 (m x : Nat) : Nat := ((x / 4) &&& m) + (x &&& m)
def sw3 (m x : Nat) : Nat := (x / 16 + x) &&& m
def swar (m1 m2 m3 x : Nat) : Nat := sw3 m3 (sw2 m2 (sw1 m1 x))

theorem lane1 : ∀ b, b < 256 → ∀ c, c < 2 → (c * 128 + b / 2) &&& 85 = b / 2 &&& 85 := by decide +kernel
theorem lane2 : ∀ b, b < 256 → ∀ c, c < 4 → (c * 64 + b / 4) &&& 51 = b / 4 &&& 51 := by decide +kernel
theorem lane3 : ∀ b, b < 69 → ∀ c, c < 16 → (c * 16 + b / 16 + b) % 16 = (b / 16 + b) % 16 := by omega
theorem lane_sw1 : ∀ b, b < 256 → sw1 85 b < 256 := by decide +kernel
theorem lane_sw2 : ∀ b, b < 256 → sw2 51 b < 103 := by decide +kernel
theorem lane_all : ∀ b, b < 256 → sw1 85 b < 256 ∧ sw2 51 (sw1 85 b) < 69 ∧ swar 85 51 15 b = pc 8 b := by decide +kernel

theorem sw1_lane {a b M : Nat} (hb : b < 256) : sw1 (256 * M + 85) (256 * a + b) = 256 * sw1 M a + sw1 85 b := by
  unfold sw1
  have e : (256 * a + b) / 2 = 256 * (a / 2) + ((a % 2) * 128 + b / 2) := by omega
  rw [e, and_lane (by omega) (by omega), and_lane hb (by omega), lane1 b hb _ (by omega)]
  omega
theorem sw2_lane {a b M : Nat} (hb : b < 256) : sw2 (256 * M + 51) (256 * a + b) = 256 * sw2 M a + sw2 51 b := by
  unfold sw2
  have e : (256 * a + b) / 4 = 256 * (a / 4) + ((a % 4) * 64 + b / 4) := by omega
  rw [e, and_lane (by omega) (by omega), and_lane hb (by omega), lane2 b hb _ (by omega)]
  omega
theorem and15 (x : Nat) : x &&& 15 = x % 16 := Nat.and_two_pow_sub_one_eq_mod x 4
theorem sw3_lane {a b M : Nat} (hb : b < 69) (ha : a % 16 < 5) : sw3 (256 * M + 15) (256 * a + b) = 256 * sw3 M a + sw3 15 b := by
  unfold sw3
  have e : (256 * a + b) / 16 + (256 * a + b) = 256 * (a / 16 + a) + ((a % 16) * 16 + b / 16 + b) := by omega
  rw [e, and_lane (by omega) (by omega), and15, and15, lane3 b hb _ (by omega)]

/-- A byte in each of n lanes. -/
def msk (c : Nat) : Nat → Nat
  | 0 => 0
  | n + 1 => 256 * msk c n + c
def lan : Nat → Nat → Nat
  | 0, _ => 0
  | n + 1, x => 256 * lan n (x / 256) + pc 8 (x % 256)

theorem nib : ∀ b, b < 256 → sw2 51 (sw1 85 b) % 16 < 5 := by decide +kernel
theorem sw_nib : ∀ n x, sw2 (msk 51 n) (sw1 (msk 85 n) x) % 16 < 5
  | 0, x => by simp [msk, sw1, sw2]
  | n + 1, x => by
    have hb : x % 256 < 256 := Nat.mod_lt _ (by decide)
    have e : x = 256 * (x / 256) + x % 256 := by omega
    rw [e]
    simp only [msk]
    rw [sw1_lane hb, sw2_lane (lane_all _ hb).1]
    have := nib _ hb
    omega
theorem swar_lan : ∀ n x, swar (msk 85 n) (msk 51 n) (msk 15 n) x = lan n x
  | 0, x => by simp [msk, swar, sw3, lan]
  | n + 1, x => by
    have hb : x % 256 < 256 := Nat.mod_lt _ (by decide)
    have e : x = 256 * (x / 256) + x % 256 := by omega
    obtain ⟨h1, h2, h3⟩ := lane_all _ hb
    have h4 := sw_nib n (x / 256)
    have h5 := swar_lan n (x / 256)
    conv => lhs; rw [e]
    unfold swar at h3 h5 ⊢
    simp only [msk]
    rw [sw1_lane hb, sw2_lane h1, sw3_lane h2 h4, h3, h5]
    rfl

theorem sw1_le (m x : Nat) : sw1 m x ≤ 2 * m := by
  unfold sw1
  have := @Nat.and_le_right (x / 2) m
  have := @Nat.and_le_right x m
  omega
theorem sw2_le (m x : Nat) : sw2 m x ≤ 2 * m := by
  unfold sw2
  have := @Nat.and_le_right (x / 4) m
  have := @Nat.and_le_right x m
  omega

/-- A number of two parts, shifted. -/
theorem part_div {a b c : Nat} (k : Nat) (hk : 0 < k) (h : a = k * c + b) (hb : b < k) : a / k = c := by
  subst h
  rw [Nat.mul_add_div hk, Nat.div_eq_of_lt hb, Nat.add_zero]

theorem lan_end {q0 q1 q2 q3 q4 q5 q6 q7 : Nat} (p0 : q0 ≤ 8) (p1 : q1 ≤ 8) (p2 : q2 ≤ 8) (p3 : q3 ≤ 8) (p4 : q4 ≤ 8) (p5 : q5 ≤ 8) (p6 : q6 ≤ 8) (p7 : q7 ≤ 8) {y y0 y1 : Nat}
    (hy : y = 256 * (256 * (256 * (256 * (256 * (256 * (256 * (256 * 0 + q7) + q6) + q5) + q4) + q3) + q2) + q1) + q0) (h0 : y0 = y + y / 256) (h1 : y1 = y0 + y0 / 65536) :
    y1 + y1 / 4294967296 < 2 ^ 62 ∧ (y1 + y1 / 4294967296) % 128 = q0 + (q1 + (q2 + (q3 + (q4 + (q5 + (q6 + q7)))))) := by
  have i1 : y / 256 = 256 * (256 * (256 * (256 * (256 * (256 * q7 + q6) + q5) + q4) + q3) + q2) + q1 := by
    rw [hy]; omega
  rw [i1] at h0
  have i2 : y0 = 256 * (256 * (256 * (256 * (256 * (256 * (256 * q7 + (q6 + q7)) + (q5 + q6)) + (q4 + q5)) + (q3 + q4)) + (q2 + q3)) + (q1 + q2)) + (q0 + q1) := by
    rw [h0, hy]; omega
  clear i1 h0 hy
  have i3 : y0 / 65536 = 256 * (256 * (256 * (256 * (256 * q7 + (q6 + q7)) + (q5 + q6)) + (q4 + q5)) + (q3 + q4)) + (q2 + q3) :=
    part_div (b := 256 * (q1 + q2) + (q0 + q1)) 65536 (by decide) (by rw [i2]; omega) (by omega)
  rw [i3, i2] at h1
  clear i3 i2
  have i4 : y1 / 4294967296 = 256 * (256 * (256 * q7 + (q6 + q7)) + (q5 + q6 + q7)) + (q4 + q5 + q6 + q7) :=
    part_div (b := 256 * (256 * (256 * (q3 + q4 + q5 + q6) + (q2 + q3 + q4 + q5)) + (q1 + q2 + q3 + q4)) + (q0 + q1 + q2 + q3)) 4294967296 (by decide) (by rw [h1]; omega) (by omega)
  rw [i4]
  have i5 : y1 + (256 * (256 * (256 * q7 + (q6 + q7)) + (q5 + q6 + q7)) + (q4 + q5 + q6 + q7)) = 256 * (16777216 * (256 * (256 * (256 * q7 + (q6 + q7)) + (q5 + q6 + q7)) + (q4 + q5 + q6 + q7)) + (256 * (256 * (q3 + q4 + q5 + q6) + (q2 + q3 + q4 + q5)) + (q1 + q2 + q3 + q4)) + (256 * (256 * q7 + (q6 + q7)) + (q5 + q6 + q7))) + (q0 + q1 + q2 + q3 + q4 + q5 + q6 + q7) := by
    rw [h1]; omega
  rw [i5]
  clear i5 i4 h1
  refine ⟨by omega, ?_⟩
  have : ∀ K s, s < 128 → (256 * K + s) % 128 = s := by intro K s h; omega
  rw [this _ _ (by omega)]
  omega

/-- The sum of the bytes. -/
theorem lan_sum {x : Nat} (hx : x < 2 ^ 64) : ∃ y0 y1 y2 : Nat, y0 = lan 8 x + lan 8 x / 256 ∧ y1 = y0 + y0 / 65536 ∧ y2 = y1 + y1 / 4294967296 ∧ y2 < 2 ^ 62 ∧ y2 % 128 = pc 64 x := by
  refine ⟨_, _, _, rfl, rfl, rfl, ?_⟩
  have e64 : pc 64 x = pc 8 (x % 256) + (pc 8 (x / 256 % 256) + (pc 8 (x / 256 / 256 % 256) + (pc 8 (x / 256 / 256 / 256 % 256) + (pc 8 (x / 256 / 256 / 256 / 256 % 256) + (pc 8 (x / 256 / 256 / 256 / 256 / 256 % 256) + (pc 8 (x / 256 / 256 / 256 / 256 / 256 / 256 % 256) + pc 8 (x / 256 / 256 / 256 / 256 / 256 / 256 / 256 % 256))))))) := by
    rw [show pc 64 x = pc (8 + 56) x from rfl, pc_split, show pc 56 (x / 2 ^ 8) = pc (8 + 48) (x / 2 ^ 8) from rfl, pc_split, show pc 48 (x / 2 ^ 8 / 2 ^ 8) = pc (8 + 40) (x / 2 ^ 8 / 2 ^ 8) from rfl, pc_split, show pc 40 (x / 2 ^ 8 / 2 ^ 8 / 2 ^ 8) = pc (8 + 32) (x / 2 ^ 8 / 2 ^ 8 / 2 ^ 8) from rfl, pc_split,
      show ∀ y, pc 32 y = pc (8 + 24) y from fun _ => rfl, pc_split, show ∀ y, pc 24 y = pc (8 + 16) y from fun _ => rfl, pc_split, show ∀ y, pc 16 y = pc (8 + 8) y from fun _ => rfl, pc_split]
    rw [show (2 : Nat) ^ 8 = 256 from rfl, Nat.mod_eq_of_lt (a := x / 256 / 256 / 256 / 256 / 256 / 256 / 256) (by omega)]
  rw [e64]
  simp only [lan]
  have p0 := pc_le 8 (x % 256)
  have p1 := pc_le 8 (x / 256 % 256)
  have p2 := pc_le 8 (x / 256 / 256 % 256)
  have p3 := pc_le 8 (x / 256 / 256 / 256 % 256)
  have p4 := pc_le 8 (x / 256 / 256 / 256 / 256 % 256)
  have p5 := pc_le 8 (x / 256 / 256 / 256 / 256 / 256 % 256)
  have p6 := pc_le 8 (x / 256 / 256 / 256 / 256 / 256 / 256 % 256)
  have p7 := pc_le 8 (x / 256 / 256 / 256 / 256 / 256 / 256 / 256 % 256)
  generalize pc 8 (x % 256) = q0 at *
  generalize pc 8 (x / 256 % 256) = q1 at *
  generalize pc 8 (x / 256 / 256 % 256) = q2 at *
  generalize pc 8 (x / 256 / 256 / 256 % 256) = q3 at *
  generalize pc 8 (x / 256 / 256 / 256 / 256 % 256) = q4 at *
  generalize pc 8 (x / 256 / 256 / 256 / 256 / 256 % 256) = q5 at *
  generalize pc 8 (x / 256 / 256 / 256 / 256 / 256 / 256 % 256) = q6 at *
  generalize pc 8 (x / 256 / 256 / 256 / 256 / 256 / 256 / 256 % 256) = q7 at *
  clear e64 hx
  exact lan_end p0 p1 p2 p3 p4 p5 p6 p7 rfl rfl rfl

theorem wadd64 {a b : Nat} (h : a + b < 2 ^ 64) : IntKind.u64.wrap ((a : Int) + (b : Int)) = ((a + b : Nat) : Int) := by
  rw [← Int.natCast_add, wrap_u64' h]
theorem shr64_1 (a : Nat) : Int.fdiv (a : Int) (2 ^ (Nat.min 1 IntKind.u64.bits)) = ((a / 2 : Nat) : Int) := shr64 a (b := 1)
theorem shr64_2 (a : Nat) : Int.fdiv (a : Int) (2 ^ (Nat.min 2 IntKind.u64.bits)) = ((a / 4 : Nat) : Int) := shr64 a (b := 2)
theorem shr64_4 (a : Nat) : Int.fdiv (a : Int) (2 ^ (Nat.min 4 IntKind.u64.bits)) = ((a / 16 : Nat) : Int) := shr64 a (b := 4)
theorem shr64_8 (a : Nat) : Int.fdiv (a : Int) (2 ^ (Nat.min 8 IntKind.u64.bits)) = ((a / 256 : Nat) : Int) := shr64 a (b := 8)
theorem shr64_16 (a : Nat) : Int.fdiv (a : Int) (2 ^ (Nat.min 16 IntKind.u64.bits)) = ((a / 65536 : Nat) : Int) := shr64 a (b := 16)
theorem shr64_32 (a : Nat) : Int.fdiv (a : Int) (2 ^ (Nat.min 32 IntKind.u64.bits)) = ((a / 4294967296 : Nat) : Int) := shr64 a (b := 32)
theorem shr64_58 (a : Nat) : Int.fdiv (a : Int) (2 ^ (Nat.min 58 IntKind.u64.bits)) = ((a / 288230376151711744 : Nat) : Int) := shr64 a (b := 58)
theorem band127 {n : Nat} (h : n < 2 ^ 62) : bitOp .and .i64 (n : Int) 127 = ((n % 128 : Nat) : Int) := by
  show IntKind.i64.wrap (((BitVec.ofInt 64 ((n : Nat) : Int) &&& BitVec.ofInt 64 ((127 : Nat) : Int)).toNat : Nat) : Int) = _
  rw [BitVec.ofInt_natCast, BitVec.ofInt_natCast, BitVec.toNat_and, BitVec.toNat_ofNat, BitVec.toNat_ofNat, Nat.mod_eq_of_lt (a := n) (by omega), Nat.mod_eq_of_lt (a := 127) (by decide), show 127 = 2 ^ 7 - 1 from rfl, Nat.and_two_pow_sub_one_eq_mod]
  have := Nat.mod_lt n (show 0 < 2 ^ 7 by decide)
  exact wrap64 (by omega) (by omega)

end Go.MW
