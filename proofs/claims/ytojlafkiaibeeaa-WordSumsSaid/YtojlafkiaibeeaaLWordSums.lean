/- The walk of WordSums: it returns true and writes nothing. -/
import Derived.Test.YtojlafkiaibeeaaWordAwake
import Derived.OpenShut
namespace Go.Proofs.Ytojlafkiaibeeaa.Law
set_option linter.unusedVariables false
open Go Go.RowKit Go.ChangeShapes Go.WideShapes Go.Proofs.Ytojlafkiaibeeaa.Wd Go.Proofs.Ytojlafkiaibeeaa.Word

theorem cut_any (x : Int) (h0 : 0 ≤ x) (h1 : x < 18446744073709551616) (w : World) : Calls Try.prog 22 #[.int .u64 x] w fun e w' => e = .returned (.int .u64 (x % 68719476736)) ∧ w = w' := by
  have g := and_mask h0 h1
  go_enter Try.func22, Try.ntmps22
  go_wp2
  go_ret
  exact ⟨rfl, rfl⟩
theorem refSign_any (x : Int) (h0 : 0 ≤ x) (h1 : x < 18446744073709551616) (w : World) : Calls Try.prog 24 #[.int .u64 x] w fun e w' => e = .returned (.int .i64 (signZ x)) ∧ w = w' := by
  unfold signZ
  by_cases c : x % 68719476736 < 34359738368
  · rw [if_pos c]
    go_enter Try.func24, Try.ntmps24
    go_wp2_with (go_at_call 22; refine (cut_any x h0 h1 _).mono ?_; rintro e w' ⟨rfl, rfl⟩)
    go_ret
    exact ⟨rfl, rfl⟩
  · rw [if_neg c]
    go_enter Try.func24, Try.ntmps24
    go_wp2_with (go_at_call 22; refine (cut_any x h0 h1 _).mono ?_; rintro e w' ⟨rfl, rfl⟩)
    go_ret
    exact ⟨rfl, rfl⟩

theorem signZ_bd (x : Int) : -34359738368 ≤ signZ x ∧ signZ x < 34359738368 ∧ signZ x % 68719476736 = x % 68719476736 := by
  unfold signZ; split <;> omega

theorem wordSums_walk (a b n : Int) (a0 : 0 ≤ a) (a1 : a < 18446744073709551616) (b0 : 0 ≤ b) (b1 : b < 18446744073709551616) (n0 : -9223372036854775808 ≤ n) (n1 : n ≤ 9223372036854775807) (w : World) :
    Calls Try.prog 4 #[.int .u64 a, .int .u64 b, .int .i64 n] w fun e w' => e = .returned (.bool true) ∧ w = w' := by
  have g1 : (Go.bits .and .u64 (IntKind.u64.wrap (IntKind.u64.wrap ((a + b) % 68719476736 - a % 68719476736) - b % 68719476736)) 68719476735 == 0) = true := by
    rw [IntKind.wrap_u64, IntKind.wrap_u64, and_mask (by omega) (by omega), beq_iff_eq]; omega
  have g2 : (((a - b) % 68719476736 + b) % 68719476736 == a % 68719476736) = true := by rw [beq_iff_eq]; omega
  have g3 : (signZ a % 68719476736 == a % 68719476736) = true := by rw [beq_iff_eq]; exact (signZ_bd a).2.2
  have hs := signZ_bd (n % 68719476736)
  have g4 : (Int.tmod (wrap64 (n - signZ (n % 68719476736))) 68719476736 == 0) = true := by
    rw [beq_iff_eq]
    have e : (∃ q : Int, wrap64 (n - signZ (n % 68719476736)) = 68719476736 * q) := by
      refine ⟨(n - signZ (n % 68719476736) + 9223372036854775808) % 18446744073709551616 / 68719476736 - 134217728, ?_⟩
      unfold wrap64
      omega
    obtain ⟨q, hq⟩ := e
    rw [hq]; exact Int.mul_tmod_right _ _
  have g5 : ((a + b) % 68719476736 == (b + a) % 68719476736) = true := by rw [beq_iff_eq]; omega
  clear hs
  go_enter Try.func4, Try.ntmps4
  go_wp2_with fail
  refine (awake_any _).mono ?_
  rintro e w' ⟨rfl, rfl⟩
  go_wp2_with fail
  refine (add_any a b _).mono ?_
  rintro e w' ⟨rfl, rfl⟩
  go_wp2_with fail
  refine (sub_any a b _).mono ?_
  rintro e w' ⟨rfl, rfl⟩
  go_wp2_with fail
  refine (of_any n _).mono ?_
  rintro e w' ⟨rfl, rfl⟩
  go_wp2_with fail
  refine (cut_any a a0 a1 _).mono ?_
  rintro e w' ⟨rfl, rfl⟩
  go_wp2_with fail
  refine (cut_any b b0 b1 _).mono ?_
  rintro e w' ⟨rfl, rfl⟩
  go_wp2_with fail
  refine (add_any ((a - b) % 68719476736) b _).mono ?_
  rintro e w' ⟨rfl, rfl⟩
  go_wp2_with fail
  refine (cut_any a a0 a1 _).mono ?_
  rintro e w' ⟨rfl, rfl⟩
  go_wp2_with fail
  refine (sign_any a a0 a1 _).mono ?_
  rintro e w' ⟨rfl, rfl⟩
  go_wp2_with fail
  refine (refSign_any a a0 a1 _).mono ?_
  rintro e w' ⟨rfl, rfl⟩
  go_wp2_with fail
  refine (sign_any a a0 a1 _).mono ?_
  rintro e w' ⟨rfl, rfl⟩
  go_wp2_with fail
  refine (of_any (signZ a) _).mono ?_
  rintro e w' ⟨rfl, rfl⟩
  go_wp2_with fail
  refine (cut_any a a0 a1 _).mono ?_
  rintro e w' ⟨rfl, rfl⟩
  go_wp2_with fail
  refine (sign_any (n % 68719476736) (by omega) (by omega) _).mono ?_
  rintro e w' ⟨rfl, rfl⟩
  go_wp2_with fail
  refine (add_any a b _).mono ?_
  rintro e w' ⟨rfl, rfl⟩
  go_wp2_with fail
  refine (add_any b a _).mono ?_
  rintro e w' ⟨rfl, rfl⟩
  go_wp2
  go_ret
  exact ⟨rfl, rfl⟩

theorem wordSums_row {H : Type} {enc : TypeId × Value → H} (W : World) {base : Nat}
    (v0 : Value) (d0 : DataW H) (p0 : List MemPlace) (k0 : Value.okWide Try.prog W .any base 23 v0) (h0 : DataW.Trod enc Try.prog W 0 (fun _ => true) true 23 v0 d0 p0) (_ : ∀ x ∈ p0, x.block < W.heap.size)
    (v1 : Value) (d1 : DataW H) (p1 : List MemPlace) (k1 : Value.okWide Try.prog W .any base 23 v1) (h1 : DataW.Trod enc Try.prog W 0 (fun _ => true) true 23 v1 d1 p1) (_ : ∀ x ∈ p1, x.block < W.heap.size)
    (v2 : Value) (d2 : DataW H) (p2 : List MemPlace) (k2 : Value.okWide Try.prog W .any base 2 v2) (h2 : DataW.Trod enc Try.prog W 0 (fun _ => true) true 2 v2 d2 p2) (_ : ∀ x ∈ p2, x.block < W.heap.size) :
    Calls Try.prog 4 #[v0, v1, v2] W fun e W' => e = .returned (.bool true) ∧ Below W.heap.size W W' := by
  obtain ⟨a, rfl, rfl, rfl, wa⟩ := open_int Try.underlying23 k0 h0
  obtain ⟨b, rfl, rfl, rfl, wb⟩ := open_int Try.underlying23 k1 h1
  obtain ⟨n, rfl, rfl, rfl, wn⟩ := open_int Try.underlying2 k2 h2
  have a' := wf_u64 wa
  have b' := wf_u64 wb
  have n' := wf_i64 wn
  refine (wordSums_walk a b n a'.1 a'.2 b'.1 b'.2 n'.1 n'.2 W).mono ?_
  rintro e w' ⟨rfl, rfl⟩
  exact ⟨rfl, Below.refl _ _⟩
end Go.Proofs.Ytojlafkiaibeeaa.Law
