/- The contract of the reference's PointMay, and how pointers come in open. -/
import Derived.Test.YtfgfhaknecolpaaPtMay
import Derived.Test.YtfgfhaknecolpaaOpenT
import Derived.BigQuiet
namespace Go.Proofs.Ytfgfhaknecolpaa.Point
open Go Go.RowKit Go.Proofs.Ytfgfhaknecolpaa.Kit Go.Proofs.Ytfgfhaknecolpaa.Open
set_option linter.unusedSimpArgs false
set_option linter.unusedVariables false
theorem refmay_any (a b c d : Int) (w : World) : Calls Try.prog 12 #[pt a b c d] w fun e w' => e = .returned (.bool (mayB a b c d)) ∧ New w w' := by
  go_enter Try.func12, Try.ntmps12
  go_wp2
  all_goals
    go_ret
    refine ⟨congrArg (fun x => Ending.returned (Value.bool x)) (Bool.eq_iff_iff.2 ?_), (New.refl _).alloc _⟩
    rw [mayB_iff]
    simp
    try omega
theorem pt_ints (H : Type) : Ints H Try.prog 29 [.i64, .i64, .i64, .i64] := by
  have hi : Ints H Try.prog 3 [.i64] := Ints.int Try.underlying3 (by kernel_rfl)
  refine Ints.struct Try.underlying29 (by kernel_rfl) fun j k hk => ?_
  match j, hk with
  | 0, hk => exact ⟨0, _, [.i64], rfl, hi, by decide, by decide, hk⟩
  | 1, hk => exact ⟨1, _, [.i64], rfl, hi, by decide, by decide, hk⟩
  | 2, hk => exact ⟨2, _, [.i64], rfl, hi, by decide, by decide, hk⟩
  | 3, hk => exact ⟨3, _, [.i64], rfl, hi, by decide, by decide, hk⟩
end Go.Proofs.Ytfgfhaknecolpaa.Point
