/- The walk of WordLaws. -/
import Derived.Test.YtojlafkiaibeeaaWordAwake
import Derived.OpenShut
namespace Go.Proofs.Ytojlafkiaibeeaa.Law
open Go Go.RowKit Go.ChangeShapes Go.WideShapes Go.Proofs.Ytojlafkiaibeeaa.Wd Go.Proofs.Ytojlafkiaibeeaa.Word
set_option linter.unusedVariables false

theorem signZ_neg (x : Int) : wrap64 (-signZ x) % 68719476736 = (0 - x) % 68719476736 := by
  unfold signZ
  rw [wrap64_small (by split <;> omega) (by split <;> omega)]
  split <;> omega
theorem wordLaws_walk (a b c : Int) (a0 : 0 ≤ a) (a1 : a < 18446744073709551616) (w : World) :
    Calls Try.prog 7 #[.int .u64 a, .int .u64 b, .int .u64 c] w fun e w' => e = .returned (.bool true) ∧ w = w' := by
  have g0 := and_mask a0 a1
  have g00 : Go.bits .and .u64 (a / 34359738368) 1 = a / 34359738368 % 2 := and_one (by omega) (by omega)
  have g1 : (((a + b) % 68719476736 + c) % 68719476736 == (a + (b + c) % 68719476736) % 68719476736) = true := by rw [beq_iff_eq]; omega
  have g2 : (((a + b) % 68719476736 - b) % 68719476736 == a % 68719476736) = true := by rw [beq_iff_eq]; omega
  have g3 : ((a - a) % 68719476736 == 0) = true := by rw [beq_iff_eq]; omega
  have g4 : ((a + (0 - a) % 68719476736) % 68719476736 == 0) = true := by rw [beq_iff_eq]; omega
  have g5 : (wrap64 (-signZ a) % 68719476736 == (0 - a) % 68719476736) = true := by rw [beq_iff_eq]; exact signZ_neg a
  have g5' : (wrap64 (-signZ a) % 68719476736 == -a % 68719476736) = true := by rw [beq_iff_eq, signZ_neg a]; congr 1; omega
  have g6 : (decide (signZ a < 0) == (a / 34359738368 % 2 == 1)) = true := by
    unfold signZ
    by_cases c : a % 68719476736 < 34359738368
    · rw [if_pos c]
      have e1 : decide (a % 68719476736 < 0) = false := by simp; omega
      have e2 : (a / 34359738368 % 2 == 1) = false := by simp; omega
      rw [e1, e2]; rfl
    · rw [if_neg c]
      have e1 : decide (a % 68719476736 - 68719476736 < 0) = true := by simp; omega
      have e2 : (a / 34359738368 % 2 == 1) = true := by simp; omega
      rw [e1, e2]; rfl
  go_enter Try.func7, Try.ntmps7
  go_wp2_with fail
  refine (awake_any _).mono ?_
  rintro e w' ⟨rfl, rfl⟩
  go_wp2_with fail
  refine (add_any _ _ _).mono ?_
  rintro e w' ⟨rfl, rfl⟩
  go_wp2_with fail
  refine (add_any _ _ _).mono ?_
  rintro e w' ⟨rfl, rfl⟩
  go_wp2_with fail
  refine (add_any _ _ _).mono ?_
  rintro e w' ⟨rfl, rfl⟩
  go_wp2_with fail
  refine (add_any _ _ _).mono ?_
  rintro e w' ⟨rfl, rfl⟩
  go_wp2_with fail
  refine (add_any _ _ _).mono ?_
  rintro e w' ⟨rfl, rfl⟩
  go_wp2_with fail
  refine (sub_any _ _ _).mono ?_
  rintro e w' ⟨rfl, rfl⟩
  go_wp2_with fail
  refine (sub_any _ _ _).mono ?_
  rintro e w' ⟨rfl, rfl⟩
  go_wp2_with fail
  refine (sub_any _ _ _).mono ?_
  rintro e w' ⟨rfl, rfl⟩
  go_wp2_with fail
  refine (add_any _ _ _).mono ?_
  rintro e w' ⟨rfl, rfl⟩
  go_wp2_with fail
  refine (sign_any a a0 a1 _).mono ?_
  rintro e w' ⟨rfl, rfl⟩
  go_wp2_with fail
  refine (of_any _ _).mono ?_
  rintro e w' ⟨rfl, rfl⟩
  go_wp2_with fail
  refine (sub_any _ _ _).mono ?_
  rintro e w' ⟨rfl, rfl⟩
  go_wp2_with fail
  refine (sign_any a a0 a1 _).mono ?_
  rintro e w' ⟨rfl, rfl⟩
  go_wp2
  go_ret
  exact ⟨rfl, rfl⟩
theorem wordLaws_row {H : Type} {enc : TypeId × Value → H} (W : World) {base : Nat}
    (v0 : Value) (d0 : DataW H) (p0 : List MemPlace) (k0 : Value.okWide Try.prog W .any base 23 v0) (h0 : DataW.Trod enc Try.prog W 0 (fun _ => true) true 23 v0 d0 p0) (l0 : ∀ x ∈ p0, x.block < W.heap.size)
    (v1 : Value) (d1 : DataW H) (p1 : List MemPlace) (k1 : Value.okWide Try.prog W .any base 23 v1) (h1 : DataW.Trod enc Try.prog W 0 (fun _ => true) true 23 v1 d1 p1) (l1 : ∀ x ∈ p1, x.block < W.heap.size)
    (v2 : Value) (d2 : DataW H) (p2 : List MemPlace) (k2 : Value.okWide Try.prog W .any base 23 v2) (h2 : DataW.Trod enc Try.prog W 0 (fun _ => true) true 23 v2 d2 p2) (l2 : ∀ x ∈ p2, x.block < W.heap.size)
    : Calls Try.prog 7 #[v0, v1, v2] W fun e W' => e = .returned (.bool true) ∧ Below W.heap.size W W' := by
  obtain ⟨a, rfl, rfl, rfl, wa⟩ := open_int Try.underlying23 k0 h0
  obtain ⟨b, rfl, rfl, rfl, wb⟩ := open_int Try.underlying23 k1 h1
  obtain ⟨c, rfl, rfl, rfl, wc⟩ := open_int Try.underlying23 k2 h2
  have a' := wf_u64 wa
  refine (wordLaws_walk a b c a'.1 a'.2 W).mono ?_
  rintro e w' ⟨rfl, rfl⟩
  exact ⟨rfl, Below.refl _ _⟩
end Go.Proofs.Ytojlafkiaibeeaa.Law
