/- The walk of WordParts. -/
import Derived.Test.YtojlafkiaibeeaaWordAwake
import Derived.OpenShut
namespace Go.Proofs.Ytojlafkiaibeeaa.Law
open Go Go.RowKit Go.ChangeShapes Go.WideShapes Go.Proofs.Ytojlafkiaibeeaa.Wd Go.Proofs.Ytojlafkiaibeeaa.Word
set_option linter.unusedVariables false

theorem parts_join {w k : Nat} (h1 : 1 ≤ k) (h : k ≤ 35) : putN (putN 0 0 k (getN w 0 k)) k (36 - k) (getN w k (36 - k)) = w % 68719476736 := by
  refine eq_of_bits (putN_lt _ _ _ _ (by omega)) (Nat.mod_lt _ (by decide)) fun i hi => ?_
  rw [testBit_putN (by omega) i hi, testBit_putN (by omega) i hi, testBit_getN, testBit_getN, show (68719476736 : Nat) = 2 ^ 36 from rfl, Nat.testBit_mod_two_pow]
  by_cases c : i < 36 - k
  · rw [if_pos (show 36 - k - (36 - k) ≤ i ∧ i < 36 - k by omega)]
    have e : i - (36 - k - (36 - k)) < 36 - k := by omega
    have e2 : i - (36 - k - (36 - k)) + (36 - k - (36 - k)) = i := by omega
    rw [e2]; simp [hi]; intro _; omega
  · rw [if_neg (show ¬ (36 - k - (36 - k) ≤ i ∧ i < 36 - k) by omega), if_pos (show 36 - 0 - k ≤ i ∧ i < 36 - 0 by omega)]
    have e : i - (36 - 0 - k) < k := by omega
    have e2 : i - (36 - 0 - k) + (36 - 0 - k) = i := by omega
    rw [e2]; simp [e, hi]

theorem wordParts_walk (x : Nat) (c : Int) (hx : x < 18446744073709551616) (c0 : 0 ≤ c) (c1 : c < 256) (w : World) :
    Calls Try.prog 8 #[.int .u64 x, .int .u8 c] w fun e w' => e = .returned (.bool true) ∧ w = w' := by
  obtain ⟨K, hK⟩ : ∃ K : Nat, 1 + c % 35 = (K : Int) := ⟨(1 + c % 35).toNat, by omega⟩
  have hK1 : 1 ≤ K := by omega
  have hK2 : K ≤ 35 := by omega
  have g0 : Go.bits .and .u64 (x : Int) 68719476735 = ((x % 68719476736 : Nat) : Int) := by rw [and_mask (by omega) (by omega)]; omega
  have e36 : (36 - (K : Int)) = ((36 - K : Nat) : Int) := by omega
  have gj := parts_join (w := x) hK1 hK2
  have l1 := getN_lt x 0 K
  have l2 := getN_lt x K (36 - K)
  have q1 : Hid _ := shl_one (n := K) (by omega)
  have q2 : Hid _ := shl_one (n := 36 - K) (by omega)
  have t1 : ((getN x 0 K : Nat) : Int) < IntKind.u64.wrap (2 ^ K) := by rw [q1.out]; omega
  have t2 : decide (((getN x K (36 - K) : Nat) : Int) < IntKind.u64.wrap (2 ^ (36 - K))) = true := by rw [q2.out]; simp only [decide_eq_true_eq]; omega
  have L1 := hid l1
  have L2 := hid l2
  clear l1 l2
  go_enter Try.func8, Try.ntmps8
  go_wp2_with fail
  refine (awake_any _).mono ?_
  rintro e w' ⟨rfl, rfl⟩
  go_wp2_with fail
  refine (get_yes_any x 0 K hx hK1 (by omega) _).mono ?_
  rintro e w' ⟨rfl, rfl⟩
  go_wp2_with fail
  refine (get_yes_any x K (36 - K) hx (by omega) (by omega) _).mono ?_
  rintro e w' ⟨rfl, rfl⟩
  go_wp2_with fail
  refine (put_yes_any 0 0 K (getN x 0 K) (by omega) ?_ hK1 (by omega) _).mono ?_
  · have := L1.out; have := pow_le_36 (k := K) (by omega); omega
  rintro e w' ⟨rfl, rfl⟩
  go_wp2_with fail
  refine (put_yes_any (putN 0 0 K (getN x 0 K)) K (36 - K) (getN x K (36 - K)) ?_ ?_ (by omega) (by omega) _).mono ?_
  · have := putN_lt 0 0 K (getN x 0 K) (by omega); omega
  · have := L2.out; have := pow_le_36 (k := 36 - K) (by omega); omega
  rintro e w' ⟨rfl, rfl⟩
  go_wp2_with fail
  go_ret
  exact ⟨rfl, rfl⟩
theorem wordParts_row {H : Type} {enc : TypeId × Value → H} (W : World) {base : Nat}
    (v0 : Value) (d0 : DataW H) (p0 : List MemPlace) (k0 : Value.okWide Try.prog W .any base 23 v0) (h0 : DataW.Trod enc Try.prog W 0 (fun _ => true) true 23 v0 d0 p0) (l0 : ∀ x ∈ p0, x.block < W.heap.size)
    (v1 : Value) (d1 : DataW H) (p1 : List MemPlace) (k1 : Value.okWide Try.prog W .any base 5 v1) (h1 : DataW.Trod enc Try.prog W 0 (fun _ => true) true 5 v1 d1 p1) (l1 : ∀ x ∈ p1, x.block < W.heap.size)
    : Calls Try.prog 8 #[v0, v1] W fun e W' => e = .returned (.bool true) ∧ Below W.heap.size W W' := by
  obtain ⟨a, rfl, rfl, rfl, wa⟩ := open_int Try.underlying23 k0 h0
  obtain ⟨c, rfl, rfl, rfl, wc⟩ := open_int Try.underlying5 k1 h1
  have a' := wf_u64 wa
  have c' := wf_u8 wc
  obtain ⟨x, rfl⟩ := Int.eq_ofNat_of_zero_le a'.1
  refine (wordParts_walk x c (by omega) c'.1 c'.2 W).mono ?_
  rintro e w' ⟨rfl, rfl⟩
  exact ⟨rfl, Below.refl _ _⟩
end Go.Proofs.Ytojlafkiaibeeaa.Law
