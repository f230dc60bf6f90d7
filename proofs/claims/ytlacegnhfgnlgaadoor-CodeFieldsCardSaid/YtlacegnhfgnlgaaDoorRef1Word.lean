/- The contracts of the reference's words: Cut, Bit, Get, Put, Sign. -/
import Derived.Test.YtlacegnhfgnlgaaDoorWord
namespace Go.Proofs.YtlacegnhfgnlgaaDoor.Ref1
open Go Go.RowKit Go.Proofs.YtlacegnhfgnlgaaDoor.Kit Go.Proofs.YtlacegnhfgnlgaaDoor.Wd Go.Proofs.YtlacegnhfgnlgaaDoor.Word
set_option linter.unusedSimpArgs false
set_option linter.unusedVariables false

theorem cut_any (x : Int) (h0 : 0 ≤ x) (h1 : x < 18446744073709551616) (w : World) : Calls Tryd.prog 17 #[.int .u64 x] w fun e w' => e = .returned (.int .u64 (x % 68719476736)) ∧ w = w' := by
  have g := and_mask h0 h1
  go_enter Tryd.func17, Tryd.ntmps17
  go_wp2
  go_ret
  exact ⟨rfl, rfl⟩

theorem bit_any (x k : Nat) (h1 : x < 18446744073709551616) (hk : k < 36) (w : World) : Calls Tryd.prog 11 #[.int .u64 x, .int .i64 k] w fun e w' => e = .returned (.int .u64 ((bitN x k : Nat) : Int)) ∧ w = w' := by
  have hb : x % 68719476736 / 2 ^ (35 - k) % 2 = bitN x k := by
    have h := Nat.testBit_mod_two_pow x 36 (35 - k)
    have e1 : bitN (x % 68719476736) k = _ := bitN_eq (x % 68719476736) k
    have e2 := bitN_eq x k
    rw [show (68719476736 : Nat) = 2 ^ 36 from rfl, h] at e1
    have : decide (35 - k < 36) = true := by simp; omega
    rw [this, Bool.true_and, ← e2] at e1
    exact e1
  have g : Go.bits .and .u64 ((x : Int) % 68719476736 / 2 ^ (35 - k)) 1 = ((bitN x k : Nat) : Int) := by
    have e : (x : Int) % 68719476736 = ((x % 68719476736 : Nat) : Int) := by omega
    have hle : x % 68719476736 / 2 ^ (35 - k) ≤ x % 68719476736 := Nat.div_le_self _ _
    rw [e, shr_nat, ← hb]
    generalize x % 68719476736 / 2 ^ (35 - k) = y at hle ⊢
    rw [and_one (by omega) (by omega)]
    omega
  have G := hid g
  clear g
  go_enter Tryd.func11, Tryd.ntmps11
  go_wp2_with fail
  refine (cut_any (x : Int) (by omega) (by omega) _).mono ?_
  rintro e w' ⟨rfl, rfl⟩
  go_wp2
  go_ret
  exact ⟨ret_int G.out, rfl⟩

theorem get_yes_any (x at_ n : Nat) (hx : x < 18446744073709551616) (h1 : 1 ≤ n) (h : at_ + n ≤ 36) (w : World) :
    Calls Tryd.prog 6 #[.int .u64 x, .int .i64 at_, .int .i64 n] w fun e w' => e = .returned (.tuple #[.int .u64 ((getN x at_ n : Nat) : Int), .int .i64 0]) ∧ w = w' := by
  go_enter Tryd.func6, Tryd.ntmps6
  go_wp2_with fail
  go_loop [8, 9] (fun v i => ∃ m : Nat, m ≤ n ∧ v = .int .u64 ((getN x at_ m : Nat) : Int) ∧ i = .int .i64 ((at_ : Int) + (m : Int))) (fun _ i => at_ + n - (intOf i).toNat)
  case atStart => exact ⟨0, by omega, by rw [getN_zero]; rfl, by simp⟩
  case round =>
    obtain ⟨m, hm, rfl, rfl⟩ := hrel
    by_cases hlt : m < n
    · have hg := getN_lt x at_ m
      have hp := pow_le_36 (k := m) (by omega)
      have hb := bitN_lt x (at_ + m)
      have e1 : IntKind.u64.wrap (IntKind.u64.wrap (((getN x at_ m : Nat) : Int) * 2) + ((bitN x (at_ + m) : Nat) : Int)) = ((getN x at_ (m + 1) : Nat) : Int) := by
        have := getN_succ (w := x) (at_ := at_) (m := m) (by omega)
        rw [u64_small (x := ((getN x at_ m : Nat) : Int) * 2) (by omega) (by omega), u64_small (by omega) (by omega)]
        omega
      have E1 := hid e1
      clear e1 hg hp hb
      go_wp2_with fail
      refine (bit_any x (at_ + m) hx (by omega) _).mono ?_
      rintro e w' ⟨rfl, rfl⟩
      go_wp2_with fail
      exact ⟨⟨m + 1, by omega, by rw [E1.out], by go_num⟩, by simp [intOf]; omega⟩
    · have hmn : Hid (m = n) := (by omega : m = n)
      go_wp2
      go_ret2
      exact ⟨ret_pair (by rw [hmn.out]) rfl, rfl⟩
theorem get_any (x at_ n : Int) (h0 : 0 ≤ x) (hx : x < 18446744073709551616) (hn0 : -9223372036854775808 ≤ n) (hn : n ≤ 9223372036854775807) (w : World) :
    Calls Tryd.prog 6 #[.int .u64 x, .int .i64 at_, .int .i64 n] w fun e w' => e = .returned (.tuple #[.int .u64 (getZ x at_ n).1, .int .i64 (getZ x at_ n).2]) ∧ w = w' := by
  unfold getZ
  by_cases c : n < 1 ∨ n > 36 ∨ at_ < 0 ∨ at_ > 36 - n
  · rw [if_pos c]
    by_cases c1 : n < 1
    · go_enter Tryd.func6, Tryd.ntmps6
      go_wp2
      go_ret2
      exact ⟨rfl, rfl⟩
    by_cases c2 : n > 36
    · go_enter Tryd.func6, Tryd.ntmps6
      go_wp2
      go_ret2
      exact ⟨rfl, rfl⟩
    by_cases c3 : at_ < 0
    · go_enter Tryd.func6, Tryd.ntmps6
      go_wp2
      go_ret2
      exact ⟨rfl, rfl⟩
    · have c4 : 36 - n < at_ := by omega
      go_enter Tryd.func6, Tryd.ntmps6
      go_wp2
      go_ret2
      exact ⟨rfl, rfl⟩
  · rw [if_neg c]
    obtain ⟨X, rfl⟩ := Int.eq_ofNat_of_zero_le h0
    obtain ⟨a, rfl⟩ := Int.eq_ofNat_of_zero_le (show 0 ≤ at_ by omega)
    obtain ⟨m, rfl⟩ := Int.eq_ofNat_of_zero_le (show 0 ≤ n by omega)
    exact get_yes_any X a m (by omega) (by omega) (by omega) w
end Go.Proofs.YtlacegnhfgnlgaaDoor.Ref1
