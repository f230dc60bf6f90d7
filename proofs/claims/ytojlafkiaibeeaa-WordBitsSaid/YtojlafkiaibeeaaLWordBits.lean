/- The walk of WordBits. -/
import Derived.Test.YtojlafkiaibeeaaWordAwake
import Derived.OpenShut
namespace Go.Proofs.Ytojlafkiaibeeaa.Law
open Go Go.RowKit Go.ChangeShapes Go.WideShapes Go.Proofs.Ytojlafkiaibeeaa.Wd Go.Proofs.Ytojlafkiaibeeaa.Word
set_option linter.unusedVariables false

/-- The word of the first m bits, the rest noughts. -/
def headN (w m : Nat) : Nat := w % 68719476736 / 2 ^ (36 - m) * 2 ^ (36 - m)
theorem headN_lt (w m : Nat) : headN w m < 68719476736 := by
  have h : headN w m ≤ w % 68719476736 := Nat.div_mul_le_self _ _
  have := Nat.mod_lt w (show 0 < 68719476736 by decide)
  omega
theorem headN_zero (w : Nat) : headN w 0 = 0 := by
  unfold headN
  rw [Nat.div_eq_of_lt (Nat.mod_lt _ (by decide)), Nat.zero_mul]
theorem headN_all (w : Nat) : headN w 36 = w % 68719476736 := by unfold headN; simp
theorem testBit_headN (w m i : Nat) (hi : i < 36) : (headN w m).testBit i = (decide (36 - m ≤ i) && w.testBit i) := by
  unfold headN
  rw [testBit_mulPow, Nat.testBit_div_two_pow, show (68719476736 : Nat) = 2 ^ 36 from rfl, Nat.testBit_mod_two_pow]
  by_cases h : 36 - m ≤ i
  · rw [Nat.sub_add_cancel h]; simp [h, hi]
  · simp [h]
theorem headN_succ {w m : Nat} (hm : m < 36) : putN (headN w m) m 1 (getN w m 1) = headN w (m + 1) := by
  refine eq_of_bits (putN_lt _ _ _ _ (by omega)) (headN_lt _ _) fun i hi => ?_
  rw [testBit_putN (by omega) i hi, testBit_headN _ _ _ hi, testBit_headN _ _ _ hi, testBit_getN]
  by_cases c : i = 35 - m
  · rw [if_pos (by omega)]
    have e1 : decide (i - (36 - m - 1) < 1) = true := by simp only [decide_eq_true_eq]; omega
    have e2 : i - (36 - m - 1) + (36 - m - 1) = i := by omega
    have e3 : decide (36 - (m + 1) ≤ i) = true := by simp only [decide_eq_true_eq]; omega
    rw [e2, e1, e3]
  · rw [if_neg (by omega)]
    by_cases d : 36 - m ≤ i
    · have e3 : decide (36 - (m + 1) ≤ i) = true := by simp only [decide_eq_true_eq]; omega
      rw [decide_eq_true d, e3]
    · have e3 : decide (36 - (m + 1) ≤ i) = false := by simp only [decide_eq_false_iff_not]; omega
      rw [decide_eq_false d, e3]
/-- One bit by its complement. -/
theorem flip_bit {w k : Nat} (hk : k < 36) : putN w k 1 (1 - getN w k 1) ^^^ (w % 68719476736) = 2 ^ (35 - k) := by
  have hp : 2 ^ (35 - k) < 68719476736 := by
    have := Nat.pow_lt_pow_right (a := 2) (by decide) (show 35 - k < 36 by omega)
    simpa using this
  have hx : putN w k 1 (1 - getN w k 1) ^^^ (w % 68719476736) < 2 ^ 36 := Nat.xor_lt_two_pow (putN_lt _ _ _ _ (by omega)) (Nat.mod_lt _ (by decide))
  refine eq_of_bits hx hp fun i hi => ?_
  rw [Nat.testBit_xor, testBit_putN (by omega) i hi, show (68719476736 : Nat) = 2 ^ 36 from rfl, Nat.testBit_mod_two_pow, Nat.testBit_two_pow]
  by_cases c : i = 35 - k
  · rw [if_pos (by omega), show i - (36 - k - 1) = 0 by omega, getN_one w k hk, bitN_eq, c]
    have : (1 - (w.testBit (35 - k)).toNat).testBit 0 = !(w.testBit (35 - k)) := by cases w.testBit (35 - k) <;> rfl
    rw [this]
    have e : 35 - k < 36 := by omega
    cases w.testBit (35 - k) <;> simp [e]
  · rw [if_neg (by omega)]
    have : ¬ (35 - k = i) := by omega
    simp [hi, this]

theorem wordBits_walk (x : Nat) (c : Int) (hx : x < 18446744073709551616) (c0 : 0 ≤ c) (c1 : c < 256) (w : World) :
    Calls Try.prog 9 #[.int .u64 x, .int .u8 c] w fun e w' => e = .returned (.bool true) ∧ w = w' := by
  obtain ⟨K, hK⟩ : ∃ K : Nat, c % 36 = (K : Int) := ⟨(c % 36).toNat, by omega⟩
  have hK2 : K < 36 := by omega
  have g0 : Go.bits .and .u64 (x : Int) 68719476735 = ((x % 68719476736 : Nat) : Int) := by rw [and_mask (by omega) (by omega)]; omega
  have hfl := hid (flip_bit (w := x) hK2)
  have hlk := getN_lt x K 1
  have hpl := putN_lt x K 1 (1 - getN x K 1) (by omega)
  have hxm := Nat.mod_lt x (show 0 < 68719476736 by decide)
  have hp : Hid _ := shl_one (n := 35 - K) (by omega)
  have g1 : (Go.bits .xor .u64 ((putN x K 1 (1 - getN x K 1) : Nat) : Int) ((x : Int) % 68719476736) == IntKind.u64.wrap (2 ^ (35 - K))) = true := by
    rw [show (x : Int) % 68719476736 = ((x % 68719476736 : Nat) : Int) by omega, u64_xor_nat _ _ (by omega) (by omega), hp.out, hfl.out]; exact beq_self_eq_true _
  have e35 : (35 - (K : Int)) = ((35 - K : Nat) : Int) := by omega
  have e1 : IntKind.u64.wrap (1 - ((getN x K 1 : Nat) : Int)) = ((1 - getN x K 1 : Nat) : Int) := by
    rw [u64_small (by omega) (by omega)]; omega
  have G0 := hid g0
  have G1 := hid g1
  have E35 := hid e35
  have E1 := hid e1
  have HK := hid hK
  have hlk' := hid hlk
  clear g0 g1 e35 e1 hK hfl hp hlk hpl
  go_enter Try.func9, Try.ntmps9
  go_wp2_with fail
  refine (awake_any _).mono ?_
  rintro e w' ⟨rfl, rfl⟩
  go_wp2_with fail
  go_loop [5, 6] (fun u i => ∃ m : Nat, m ≤ 36 ∧ u = .int .u64 ((headN x m : Nat) : Int) ∧ i = .int .i64 (m : Int)) (fun _ i => 36 - (intOf i).toNat)
  case atStart => exact ⟨0, by omega, by rw [headN_zero]; rfl, rfl⟩
  case round =>
    obtain ⟨m, hm, rfl, rfl⟩ := hrel
    by_cases hlt : m < 36
    · have hb := getN_lt x m 1
      have hh := headN_lt x m
      have HS := hid (headN_succ (w := x) hlt)
      go_wp2_with fail
      refine (get_yes_any x m 1 hx (by omega) (by omega) _).mono ?_
      rintro e w' ⟨rfl, rfl⟩
      go_wp2_with fail
      refine (put_yes_any (headN x m) m 1 (getN x m 1) (by omega) (by omega) (by omega) (by omega) _).mono ?_
      rintro e w' ⟨rfl, rfl⟩
      rw [HS.out]
      go_wp2_with fail
      exact ⟨⟨m + 1, by omega, rfl, by go_num⟩, by simp [intOf]; omega⟩
    · have hmn : m = 36 := by omega
      subst hmn
      rw [headN_all]
      have g0 := G0.out
      have hK := HK.out
      have e35 := E35.out
      go_wp2_with fail
      refine (get_yes_any x K 1 hx (by omega) (by omega) _).mono ?_
      rintro e w' ⟨rfl, rfl⟩
      go_wp2_with fail
      rw [E1.out]
      refine (put_yes_any x K 1 (1 - getN x K 1) hx (by have := hlk'.out; omega) (by omega) (by omega) _).mono ?_
      rintro e w' ⟨rfl, rfl⟩
      have g1 := G1.out
      go_wp2_with fail
      go_ret
      exact ⟨rfl, rfl⟩
theorem wordBits_row {H : Type} {enc : TypeId × Value → H} (W : World) {base : Nat}
    (v0 : Value) (d0 : DataW H) (p0 : List MemPlace) (k0 : Value.okWide Try.prog W .any base 23 v0) (h0 : DataW.Trod enc Try.prog W 0 (fun _ => true) true 23 v0 d0 p0) (l0 : ∀ x ∈ p0, x.block < W.heap.size)
    (v1 : Value) (d1 : DataW H) (p1 : List MemPlace) (k1 : Value.okWide Try.prog W .any base 5 v1) (h1 : DataW.Trod enc Try.prog W 0 (fun _ => true) true 5 v1 d1 p1) (l1 : ∀ x ∈ p1, x.block < W.heap.size)
    : Calls Try.prog 9 #[v0, v1] W fun e W' => e = .returned (.bool true) ∧ Below W.heap.size W W' := by
  obtain ⟨a, rfl, rfl, rfl, wa⟩ := open_int Try.underlying23 k0 h0
  obtain ⟨c, rfl, rfl, rfl, wc⟩ := open_int Try.underlying5 k1 h1
  have a' := wf_u64 wa
  have c' := wf_u8 wc
  obtain ⟨x, rfl⟩ := Int.eq_ofNat_of_zero_le a'.1
  refine (wordBits_walk x c (by omega) c'.1 c'.2 W).mono ?_
  rintro e w' ⟨rfl, rfl⟩
  exact ⟨rfl, Below.refl _ _⟩
end Go.Proofs.Ytojlafkiaibeeaa.Law
