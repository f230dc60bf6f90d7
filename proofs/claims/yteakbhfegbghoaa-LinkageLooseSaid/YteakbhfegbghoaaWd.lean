/- What the words' operations are on natural numbers: plain facts on bits; no program in sight. -/
import Derived.Test.YteakbhfegbghoaaKit
import Derived.WalkKit
import Derived.Laws.BitsAllLaws
namespace Go.Proofs.Yteakbhfegbghoaa.Wd
open Go Go.RowKit Go.Proofs.Yteakbhfegbghoaa.Kit

theorem and_mask {a : Int} (h0 : 0 ≤ a) (h1 : a < 18446744073709551616) : Go.bits .and .u64 a 68719476735 = a % 68719476736 := by
  obtain ⟨A, rfl⟩ := Int.eq_ofNat_of_zero_le h0
  rw [show (68719476735 : Int) = ((68719476735 : Nat) : Int) from rfl, u64_and_nat A _ (by omega) (by decide)]
  rw [show (68719476735 : Nat) = 2 ^ 36 - 1 from rfl, Nat.and_two_pow_sub_one_eq_mod]
  omega
theorem and_sign {a : Int} (h0 : 0 ≤ a) (h1 : a < 18446744073709551616) : Go.bits .and .u64 a 34359738368 = a / 34359738368 % 2 * 34359738368 := by
  obtain ⟨A, rfl⟩ := Int.eq_ofNat_of_zero_le h0
  rw [show (34359738368 : Int) = ((34359738368 : Nat) : Int) from rfl, u64_and_nat A _ (by omega) (by decide)]
  rw [show (34359738368 : Nat) = 2 ^ 35 from rfl, nat_bit]
  omega
theorem and_one {a : Int} (h0 : 0 ≤ a) (h1 : a < 18446744073709551616) : Go.bits .and .u64 a 1 = a % 2 := by
  obtain ⟨A, rfl⟩ := Int.eq_ofNat_of_zero_le h0
  rw [show (1 : Int) = ((1 : Nat) : Int) from rfl, u64_and_nat A _ (by omega) (by decide)]
  rw [show (1 : Nat) = 2 ^ 1 - 1 from rfl, Nat.and_two_pow_sub_one_eq_mod]
  omega

/-- The field at 'at', 'n' long. -/
def getN (w at_ n : Nat) : Nat := w / 2 ^ (36 - at_ - n) % 2 ^ n
/-- The word with such a field. -/
def putN (w at_ n v : Nat) : Nat := (w % 2 ^ 36 &&& (18446744073709551615 - (2 ^ n - 1) * 2 ^ (36 - at_ - n))) ||| (v % 2 ^ n * 2 ^ (36 - at_ - n))

theorem pow_le_36 {k : Nat} (h : k ≤ 36) : 2 ^ k ≤ 68719476736 := by
  have := Nat.pow_le_pow_right (n := 2) (by omega) h
  simpa using this
theorem pow_pos (k : Nat) : 0 < 2 ^ k := Nat.two_pow_pos k

theorem mask_shift {n b : Nat} (h : n + b ≤ 36) : (2 ^ n - 1) * 2 ^ b < 68719476736 := by
  have h1 : (2 ^ n - 1) * 2 ^ b < 2 ^ n * 2 ^ b := Nat.mul_lt_mul_of_pos_right (by have := pow_pos n; omega) (pow_pos b)
  rw [← Nat.pow_add] at h1
  have := pow_le_36 h
  omega
theorem field_shift {n b v : Nat} (h : n + b ≤ 36) : v % 2 ^ n * 2 ^ b < 68719476736 := by
  have h1 : v % 2 ^ n * 2 ^ b < 2 ^ n * 2 ^ b := Nat.mul_lt_mul_of_pos_right (Nat.mod_lt _ (pow_pos n)) (pow_pos b)
  rw [← Nat.pow_add] at h1
  have := pow_le_36 h
  omega

theorem putN_lt (w at_ n v : Nat) (h : at_ + n ≤ 36) : putN w at_ n v < 68719476736 := by
  unfold putN
  have h1 : v % 2 ^ n * 2 ^ (36 - at_ - n) < 2 ^ 36 := field_shift (by omega)
  have h2 : (w % 2 ^ 36 &&& (18446744073709551615 - (2 ^ n - 1) * 2 ^ (36 - at_ - n))) < 2 ^ 36 := Nat.lt_of_le_of_lt Nat.and_le_left (Nat.mod_lt _ (by decide))
  exact Nat.or_lt_two_pow h2 h1

theorem testBit_high {x i k : Nat} (h : x < 2 ^ k) (hi : k ≤ i) : x.testBit i = false :=
  Nat.testBit_lt_two_pow (Nat.lt_of_lt_of_le h (Nat.pow_le_pow_right (by omega) hi))

theorem testBit_not64 {x i : Nat} (hx : x < 18446744073709551616) (hi : i < 64) : (18446744073709551615 - x).testBit i = !x.testBit i := by
  have h := Nat.testBit_two_pow_sub_succ (n := 64) (x := x) (by simpa using hx) i
  rw [show (18446744073709551615 - x) = 2 ^ 64 - (x + 1) by omega, h]
  simp [hi]

theorem testBit_mulPow (x b i : Nat) : (x * 2 ^ b).testBit i = (decide (b ≤ i) && x.testBit (i - b)) := by
  rw [Nat.mul_comm, Nat.testBit_two_pow_mul]

theorem testBit_putN {w at_ n v : Nat} (h : at_ + n ≤ 36) (i : Nat) (hi : i < 36) :
    (putN w at_ n v).testBit i = if 36 - at_ - n ≤ i ∧ i < 36 - at_ then v.testBit (i - (36 - at_ - n)) else w.testBit i := by
  unfold putN
  have hm := mask_shift (n := n) (b := 36 - at_ - n) (by omega)
  rw [Nat.testBit_or, Nat.testBit_and, testBit_not64 (by omega) (by omega), testBit_mulPow, testBit_mulPow, Nat.testBit_mod_two_pow, Nat.testBit_mod_two_pow, Nat.testBit_two_pow_sub_one]
  by_cases h1 : 36 - at_ - n ≤ i
  · by_cases h2 : i < 36 - at_
    · have h3 : i - (36 - at_ - n) < n := by omega
      simp [h1, h2, h3, hi]
    · have h3 : ¬ i - (36 - at_ - n) < n := by omega
      simp [h1, h2, h3, hi]
  · simp [h1, hi]

theorem testBit_getN {w at_ n : Nat} (i : Nat) : (getN w at_ n).testBit i = (decide (i < n) && w.testBit (i + (36 - at_ - n))) := by
  unfold getN
  rw [Nat.testBit_mod_two_pow, Nat.testBit_div_two_pow]

theorem getN_lt (w at_ n : Nat) : getN w at_ n < 2 ^ n := Nat.mod_lt _ (pow_pos n)

/-- Two words of 36 bits with the same bits are one. -/
theorem eq_of_bits {x y : Nat} (hx : x < 68719476736) (hy : y < 68719476736) (h : ∀ i, i < 36 → x.testBit i = y.testBit i) : x = y := by
  apply Nat.eq_of_testBit_eq
  intro i
  by_cases hi : i < 36
  · exact h i hi
  · rw [testBit_high (k := 36) hx (by omega), testBit_high (k := 36) hy (by omega)]

/-! ### the printed texts -/
theorem wrap64_small {x : Int} (h0 : -9223372036854775808 ≤ x) (h1 : x ≤ 9223372036854775807) : wrap64 x = x := by unfold wrap64; omega
theorem u64_small {x : Int} (h0 : 0 ≤ x) (h1 : x < 18446744073709551616) : IntKind.u64.wrap x = x := by rw [IntKind.wrap_u64]; omega

theorem shl_one {n : Nat} (h : n ≤ 36) : IntKind.u64.wrap (2 ^ n) = ((2 ^ n : Nat) : Int) := by
  have := pow_le_36 h
  have e : ((2 : Int) ^ n) = ((2 ^ n : Nat) : Int) := by simp
  rw [e]
  generalize 2 ^ n = p at this
  exact u64_small (by omega) (by omega)
theorem shl_nat {x b : Nat} (h : x * 2 ^ b < 18446744073709551616) : IntKind.u64.wrap ((x : Int) * 2 ^ b) = ((x * 2 ^ b : Nat) : Int) := by
  have e : ((x : Int) * 2 ^ b) = ((x * 2 ^ b : Nat) : Int) := by simp
  rw [e, u64_small (by omega) (by omega)]
theorem shr_nat {x b : Nat} : (x : Int) / 2 ^ b = ((x / 2 ^ b : Nat) : Int) := by simp

theorem get_yes {w at_ n : Nat} (hw : w < 18446744073709551616) (h : at_ + n ≤ 36) :
    Go.bits .and .u64 ((w : Int) / 2 ^ (36 - at_ - n)) ((2 ^ n - 1 : Nat) : Int) = ((getN w at_ n : Nat) : Int) := by
  have hp := pow_le_36 (k := n) (by omega)
  have hle : w / 2 ^ (36 - at_ - n) ≤ w := Nat.div_le_self _ _
  rw [shr_nat, u64_and_nat _ _ (by omega) (by omega), Nat.and_two_pow_sub_one_eq_mod]
  rfl
theorem put_yes {w at_ n v : Nat} (hw : w < 18446744073709551616) (hv : v < 18446744073709551616) (h : at_ + n ≤ 36) :
    Go.bits .or .u64 (Go.bits .andNot .u64 (Go.bits .and .u64 (w : Int) 68719476735) (IntKind.u64.wrap (((2 ^ n - 1 : Nat) : Int) * 2 ^ (36 - at_ - n)))) (IntKind.u64.wrap (Go.bits .and .u64 (v : Int) ((2 ^ n - 1 : Nat) : Int) * 2 ^ (36 - at_ - n))) = ((putN w at_ n v : Nat) : Int) := by
  have hp := pow_le_36 (k := n) (by omega)
  have hm := mask_shift (n := n) (b := 36 - at_ - n) (by omega)
  have hf := field_shift (n := n) (b := 36 - at_ - n) (v := v) (by omega)
  have hvm : v % 2 ^ n ≤ v := Nat.mod_le _ _
  rw [u64_and_nat v _ hv (by omega), Nat.and_two_pow_sub_one_eq_mod, shl_nat (by omega), shl_nat (by omega)]
  rw [show (68719476735 : Int) = ((2 ^ 36 - 1 : Nat) : Int) from rfl, u64_and_nat w _ hw (by decide), Nat.and_two_pow_sub_one_eq_mod]
  have hwm : w % 2 ^ 36 < 68719476736 := Nat.mod_lt _ (by decide)
  rw [u64_andNot_nat _ _ (by omega) (by omega), u64_or_nat _ _ (Nat.lt_of_le_of_lt Nat.and_le_left (by omega)) (by omega)]
  rfl

/-- Bit number k of a word, the first the highest. -/
def bitN (w k : Nat) : Nat := w / 2 ^ (35 - k) % 2
theorem bitN_lt (w k : Nat) : bitN w k < 2 := Nat.mod_lt _ (by decide)
theorem mod_pow_succ (X k : Nat) : X % 2 ^ (k + 1) = 2 * (X / 2 % 2 ^ k) + X % 2 := by
  rw [Nat.pow_succ, Nat.mul_comm (2 ^ k) 2, Nat.mod_mul]
  omega
theorem getN_zero (w at_ : Nat) : getN w at_ 0 = 0 := by unfold getN; simp [Nat.mod_one]
theorem getN_succ {w at_ m : Nat} (h : at_ + m < 36) : getN w at_ (m + 1) = getN w at_ m * 2 + bitN w (at_ + m) := by
  unfold getN bitN
  rw [mod_pow_succ, Nat.div_div_eq_div_mul, ← Nat.pow_succ]
  rw [show (36 - at_ - (m + 1)).succ = 36 - at_ - m by omega, show 35 - (at_ + m) = 36 - at_ - (m + 1) by omega]
  omega
theorem bitN_eq (w k : Nat) : bitN w k = (w.testBit (35 - k)).toNat := by
  unfold bitN
  rw [Nat.testBit_eq_decide_div_mod_eq]
  have := Nat.mod_lt (w / 2 ^ (35 - k)) (show 0 < 2 by decide)
  by_cases h : w / 2 ^ (35 - k) % 2 = 1
  · simp [h]
  · rw [show w / 2 ^ (35 - k) % 2 = 0 by omega]; simp
/-- The highest m bits. -/
def topN (T m : Nat) : Nat := T / 2 ^ (36 - m)
theorem topN_le (T m : Nat) : topN T m ≤ T := Nat.div_le_self _ _
theorem topN_zero {T : Nat} (h : T < 68719476736) : topN T 0 = 0 := Nat.div_eq_of_lt h
theorem topN_all (T : Nat) : topN T 36 = T := by unfold topN; simp
theorem top_succ (T : Nat) {i : Nat} (hi : i < 36) : topN T (i + 1) = topN T i * 2 + bitN T i := by
  unfold bitN topN
  rw [show 36 - (i + 1) = 35 - i by omega, show 36 - i = 35 - i + 1 by omega, Nat.pow_succ, ← Nat.div_div_eq_div_mul]
  omega
theorem bitN_putN {w at_ n v i : Nat} (h : at_ + n ≤ 36) (hi : i < 36) : bitN (putN w at_ n v) i = if at_ ≤ i ∧ i < at_ + n then bitN v (36 - n + i - at_) else bitN w i := by
  rw [bitN_eq, testBit_putN h _ (by omega)]
  by_cases c : at_ ≤ i ∧ i < at_ + n
  · rw [if_pos c, if_pos (by omega), bitN_eq, show 35 - (36 - n + i - at_) = 35 - i - (36 - at_ - n) by omega]
  · rw [if_neg c, if_neg (by omega), bitN_eq]
theorem getN_one (w i : Nat) (hi : i < 36) : getN w i 1 = bitN w i := by
  unfold getN bitN
  rw [show 36 - i - 1 = 35 - i by omega]
end Go.Proofs.Yteakbhfegbghoaa.Wd
