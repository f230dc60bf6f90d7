/- Layer 1's document example holds. -/
import Derived.Test.YtojlafkiaibeeaaWord
namespace Go.Proofs.Ytojlafkiaibeeaa.Law
open Go Go.RowKit Go.Proofs.Ytojlafkiaibeeaa.Wd Go.Proofs.Ytojlafkiaibeeaa.Word
theorem awake_any (w : World) : Calls Try.prog 14 #[] w fun e w' => e = .returned (.bool true) ∧ w = w' := by
  have k1 : getN 1 35 1 = 1 := by decide
  have k2 : putN 0 0 1 1 = 34359738368 := by decide
  have k3 : signZ 68719476735 = -1 := by decide
  go_enter Try.func14, Try.ntmps14
  go_wp2_with fail
  refine (get_yes_any 1 35 1 (by omega) (by omega) (by omega) _).mono ?_
  rintro e w' ⟨rfl, rfl⟩
  rw [k1]
  go_wp2_with fail
  refine (put_yes_any 0 0 1 1 (by omega) (by omega) (by omega) (by omega) _).mono ?_
  rintro e w' ⟨rfl, rfl⟩
  rw [k2]
  go_wp2_with fail
  refine (of_any (-1) _).mono ?_
  rintro e w' ⟨rfl, rfl⟩
  go_wp2_with fail
  refine (sign_any 68719476735 (by omega) (by omega) _).mono ?_
  rintro e w' ⟨rfl, rfl⟩
  rw [k3]
  go_wp2_with fail
  refine (add_any 68719476735 1 _).mono ?_
  rintro e w' ⟨rfl, rfl⟩
  go_wp2_with fail
  refine (sub_any 0 1 _).mono ?_
  rintro e w' ⟨rfl, rfl⟩
  go_wp2
  go_ret
  exact ⟨rfl, rfl⟩
end Go.Proofs.Ytojlafkiaibeeaa.Law
