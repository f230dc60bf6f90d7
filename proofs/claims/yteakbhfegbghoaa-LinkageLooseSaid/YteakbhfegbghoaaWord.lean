/- The contracts of package word: what each function answers, in whatever world; none writes. -/
import Derived.Test.YteakbhfegbghoaaProg
import Derived.Test.YteakbhfegbghoaaWd
import Derived.WalkKit
namespace Go.Proofs.Yteakbhfegbghoaa.Word
open Go Go.RowKit Go.Proofs.Yteakbhfegbghoaa.Kit Go.Proofs.Yteakbhfegbghoaa.Wd

theorem ret_int {k : IntKind} {a b : Int} (h : a = b) : Ending.returned (.int k a) = .returned (.int k b) := by rw [h]
theorem ret_pair {k j : IntKind} {a b c d : Int} (h : a = b) (h' : c = d) : Ending.returned (.tuple #[.int k a, .int j c]) = .returned (.tuple #[.int k b, .int j d]) := by rw [h, h']

/-- A word's number of two's complement. -/
def signZ (x : Int) : Int := if x % 68719476736 < 34359738368 then x % 68719476736 else x % 68719476736 - 68719476736

theorem field_yes_any (at_ n : Nat) (h1 : 1 ≤ n) (h : at_ + n ≤ 36) (w : World) :
    Calls Try.prog 73 #[.int .i64 at_, .int .i64 n] w fun e w' => e = .returned (.tuple #[.int .u64 ((36 - at_ - n : Nat) : Int), .int .u64 ((2 ^ n - 1 : Nat) : Int), .bool true]) ∧ w = w' := by
  have hp := pow_le_36 (k := n) (by omega)
  have hp0 := pow_pos n
  have e1 : (36 - (at_ : Int) - (n : Int)) = ((36 - at_ - n : Nat) : Int) := by omega
  have e2 : IntKind.u64.wrap (IntKind.u64.wrap (2 ^ n) - 1) = ((2 ^ n - 1 : Nat) : Int) := by
    rw [shl_one (by omega), u64_small (by omega) (by omega)]
    omega
  have E1 := hid e1
  have E2 := hid e2
  clear e1 e2
  go_enter Try.func73, Try.ntmps73
  go_wp2
  go_ret3
  refine ⟨?_, rfl⟩
  show Ending.returned (.tuple #[.int .u64 (36 - (at_ : Int) - (n : Int)), .int .u64 (IntKind.u64.wrap (IntKind.u64.wrap (2 ^ n) - 1)), .bool true]) = _
  rw [E1.out, E2.out]
theorem field_no_any (at_ n : Int) (h : n < 1 ∨ n > 36 ∨ at_ < 0 ∨ at_ > 36 - n) (hn0 : -9223372036854775808 ≤ n) (hn : n ≤ 9223372036854775807) (w : World) :
    Calls Try.prog 73 #[.int .i64 at_, .int .i64 n] w fun e w' => e = .returned (.tuple #[.int .u64 0, .int .u64 0, .bool false]) ∧ w = w' := by
  by_cases c1 : n < 1
  · go_enter Try.func73, Try.ntmps73
    go_wp2
    go_ret3
    exact ⟨rfl, rfl⟩
  by_cases c2 : n > 36
  · go_enter Try.func73, Try.ntmps73
    go_wp2
    go_ret3
    exact ⟨rfl, rfl⟩
  by_cases c3 : at_ < 0
  · go_enter Try.func73, Try.ntmps73
    go_wp2
    go_ret3
    exact ⟨rfl, rfl⟩
  · have c4 : 36 - n < at_ := by omega
    go_enter Try.func73, Try.ntmps73
    go_wp2
    go_ret3
    exact ⟨rfl, rfl⟩

/-- What 'word.Get' answers. -/
def getZ (x at_ n : Int) : Int × Int := if n < 1 ∨ n > 36 ∨ at_ < 0 ∨ at_ > 36 - n then (0, 1) else (((getN x.toNat at_.toNat n.toNat : Nat) : Int), 0)
def putZ (x at_ n v : Int) : Int × Int := if n < 1 ∨ n > 36 ∨ at_ < 0 ∨ at_ > 36 - n then (0, 1) else (((putN x.toNat at_.toNat n.toNat v.toNat : Nat) : Int), 0)

theorem get_yes_any (x at_ n : Nat) (hx : x < 18446744073709551616) (h1 : 1 ≤ n) (h : at_ + n ≤ 36) (w : World) :
    Calls Try.prog 74 #[.int .u64 x, .int .i64 at_, .int .i64 n] w fun e w' => e = .returned (.tuple #[.int .u64 ((getN x at_ n : Nat) : Int), .int .i64 0]) ∧ w = w' := by
  go_enter Try.func74, Try.ntmps74
  go_wp2_with (go_at_call 73; refine (field_yes_any at_ n h1 h _).mono ?_; rintro e w' ⟨rfl, rfl⟩)
  go_ret2
  exact ⟨ret_pair (get_yes hx h) rfl, rfl⟩
theorem get_any (x at_ n : Int) (h0 : 0 ≤ x) (hx : x < 18446744073709551616) (hn0 : -9223372036854775808 ≤ n) (hn : n ≤ 9223372036854775807) (w : World) :
    Calls Try.prog 74 #[.int .u64 x, .int .i64 at_, .int .i64 n] w fun e w' => e = .returned (.tuple #[.int .u64 (getZ x at_ n).1, .int .i64 (getZ x at_ n).2]) ∧ w = w' := by
  unfold getZ
  by_cases c : n < 1 ∨ n > 36 ∨ at_ < 0 ∨ at_ > 36 - n
  · rw [if_pos c]
    go_enter Try.func74, Try.ntmps74
    go_wp2_with (go_at_call 73; refine (field_no_any at_ n c hn0 hn _).mono ?_; rintro e w' ⟨rfl, rfl⟩)
    go_ret2
    exact ⟨rfl, rfl⟩
  · rw [if_neg c]
    obtain ⟨X, rfl⟩ := Int.eq_ofNat_of_zero_le h0
    obtain ⟨a, rfl⟩ := Int.eq_ofNat_of_zero_le (show 0 ≤ at_ by omega)
    obtain ⟨m, rfl⟩ := Int.eq_ofNat_of_zero_le (show 0 ≤ n by omega)
    exact get_yes_any X a m (by omega) (by omega) (by omega) w
theorem put_yes_any (x at_ n v : Nat) (hx : x < 18446744073709551616) (hv : v < 18446744073709551616) (h1 : 1 ≤ n) (h : at_ + n ≤ 36) (w : World) :
    Calls Try.prog 58 #[.int .u64 x, .int .i64 at_, .int .i64 n, .int .u64 v] w fun e w' => e = .returned (.tuple #[.int .u64 ((putN x at_ n v : Nat) : Int), .int .i64 0]) ∧ w = w' := by
  go_enter Try.func58, Try.ntmps58
  go_wp2_with (go_at_call 73; refine (field_yes_any at_ n h1 h _).mono ?_; rintro e w' ⟨rfl, rfl⟩)
  go_ret2
  exact ⟨ret_pair (put_yes hx hv h) rfl, rfl⟩
theorem put_any (x at_ n v : Int) (h0 : 0 ≤ x) (hx : x < 18446744073709551616) (v0 : 0 ≤ v) (hv : v < 18446744073709551616) (hn0 : -9223372036854775808 ≤ n) (hn : n ≤ 9223372036854775807) (w : World) :
    Calls Try.prog 58 #[.int .u64 x, .int .i64 at_, .int .i64 n, .int .u64 v] w fun e w' => e = .returned (.tuple #[.int .u64 (putZ x at_ n v).1, .int .i64 (putZ x at_ n v).2]) ∧ w = w' := by
  unfold putZ
  by_cases c : n < 1 ∨ n > 36 ∨ at_ < 0 ∨ at_ > 36 - n
  · rw [if_pos c]
    go_enter Try.func58, Try.ntmps58
    go_wp2_with (go_at_call 73; refine (field_no_any at_ n c hn0 hn _).mono ?_; rintro e w' ⟨rfl, rfl⟩)
    go_ret2
    exact ⟨rfl, rfl⟩
  · rw [if_neg c]
    obtain ⟨X, rfl⟩ := Int.eq_ofNat_of_zero_le h0
    obtain ⟨V, rfl⟩ := Int.eq_ofNat_of_zero_le v0
    obtain ⟨a, rfl⟩ := Int.eq_ofNat_of_zero_le (show 0 ≤ at_ by omega)
    obtain ⟨m, rfl⟩ := Int.eq_ofNat_of_zero_le (show 0 ≤ n by omega)
    exact put_yes_any X a m V (by omega) (by omega) (by omega) (by omega) w
end Go.Proofs.Yteakbhfegbghoaa.Word
