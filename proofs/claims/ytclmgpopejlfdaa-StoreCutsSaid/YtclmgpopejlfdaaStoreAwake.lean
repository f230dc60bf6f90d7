/- The example that every law of layer 5 opens with. -/
import Derived.Test.YtclmgpopejlfdaaStore
namespace Go.Proofs.Ytclmgpopejlfdaa.Law
open Go Go.RowKit Go.Proofs.Ytclmgpopejlfdaa.Kit Go.Proofs.Ytclmgpopejlfdaa.Store
set_option linter.unusedSimpArgs false
set_option linter.unusedVariables false
theorem awake_any (w : World) : Calls Try.prog 7 #[] w fun e w' => e = .returned (.bool true) ∧ New w w' := by
  go_enter Try.func7, Try.ntmps7
  go_wp2_with fail
  refine (new_any 10 w (by decide)).mono ?_
  rintro e w1 ⟨rfl, n1, a1⟩
  go_wp2_with fail
  refine (make_yes w1 _ _ _ a1 8 (by decide) (by decide)).mono ?_
  rintro e w2 ⟨rfl, b, hb, a2, k2⟩
  have n2 := n1.kept k2 (by rintro i (rfl | rfl) <;> omega)
  have h3 : mayE (makeS ⟨mxZ 10 0, 0, []⟩ 8 b) 3 0 = 6 := rfl
  go_wp2_with fail
  refine (make_no w2 _ _ _ a2 3 (by rw [h3]; decide)).mono ?_
  rintro e w3 ⟨rfl, n, rfl⟩
  rw [h3]
  have h4 : St.used (makeS ⟨mxZ 10 0, 0, []⟩ 8 b) = 8 := rfl
  go_wp2_with fail
  refine (used_any (w2.drewN n) _ _ _ (a2.drewN n)).mono ?_
  rintro e w4 ⟨rfl, rfl⟩
  rw [h4]
  go_wp2
  go_ret
  exact ⟨rfl, n2.drewN n⟩
end Go.Proofs.Ytclmgpopejlfdaa.Law
