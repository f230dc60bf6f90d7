/- The example that every law of layer 18 opens with. -/
import Derived.Test.YtfgfhaknecolpaaFrames
namespace Go.Proofs.Ytfgfhaknecolpaa.Law
open Go Go.RowKit Go.Proofs.Ytfgfhaknecolpaa.Kit Go.Proofs.Ytfgfhaknecolpaa.Frames Go.Proofs.Ytfgfhaknecolpaa.Point
set_option linter.unusedSimpArgs false
set_option linter.unusedVariables false
abbrev fr (a b c d : Int) : Fr := ⟨fun _ => 0, a, b, c, d⟩
set_option maxRecDepth 100000 in
theorem awake_any (w : World) : Calls Try.prog 9 #[] w fun e w' => e = .returned (.bool true) ∧ New w w' := by
  go_enter Try.func9, Try.ntmps9
  go_wp2_with fail
  refine (new_any w).mono ?_
  rintro e w1 ⟨rfl, n1, a1⟩
  have a1 := a1 w.heap.size (Nat.le_refl _)
  have hb : ∀ {X : World} i, FT X w.heap.size i → w.heap.size ≤ i := fun i h => h.1
  go_wp2_with fail
  refine (push_yes w1 _ _ _ a1 n1.size 4 (by decide) 0 0 0 0 (by decide) (by decide)).mono ?_
  rintro e w2 ⟨rfl, a2, k2⟩
  have n2 := n1.kept k2 hb
  go_wp2_with fail
  refine (write_yes w2 _ _ _ a2 4 (by decide) [] (fr 0 0 0 0) rfl 0 (by decide) 5).mono ?_
  rintro e w3 ⟨rfl, a3, k3⟩
  have n3 := n2.kept k3 hb
  go_wp2_with fail
  refine (push_yes w3 _ _ _ a3 n3.size 4 (by decide) 3 0 0 0 (by decide) (by decide)).mono ?_
  rintro e w4 ⟨rfl, a4, k4⟩
  have n4 := n3.kept k4 hb
  go_wp2_with fail
  refine (read_yes w4 _ _ _ a4 4 (by decide) [(fr 0 0 0 0).put 0 5] (fr 3 0 0 0) rfl 0 (by decide)).mono ?_
  rintro e w5 ⟨rfl, rfl⟩
  go_wp2_with fail
  refine (Pop_yes w4 _ _ _ a4 n4.size 4 (by decide) [(fr 0 0 0 0).put 0 5] (fr 3 0 0 0) rfl).mono ?_
  rintro e w5 ⟨rfl, a5, k5⟩
  have n5 := n4.kept k5 hb
  have q6 := fun W (h : New w5 W) => read_yes W _ _ _ (a5.new_ h) 4 (by decide) [] ((fr 0 0 0 0).put 0 5) rfl 0 (by decide)
  go_wp2_with fail
  refine (q6 _ (by (repeat (first | exact New.refl _ | (refine New.step ?_ (by assumption)) | apply New.alloc | apply New.drewN | apply New.drew)))).mono ?_
  rintro e w6 ⟨rfl, rfl⟩
  have q7 := fun W (h : New w5 W) => depth_yes W _ _ _ (a5.new_ h) 4 (by decide)
  go_wp2_with fail
  refine (q7 _ (by (repeat (first | exact New.refl _ | (refine New.step ?_ (by assumption)) | apply New.alloc | apply New.drewN | apply New.drew)))).mono ?_
  rintro e w6 ⟨rfl, rfl⟩
  go_wp2
  go_ret
  exact ⟨rfl, by (repeat (first | exact n5 | apply New.alloc))⟩
end Go.Proofs.Ytfgfhaknecolpaa.Law
