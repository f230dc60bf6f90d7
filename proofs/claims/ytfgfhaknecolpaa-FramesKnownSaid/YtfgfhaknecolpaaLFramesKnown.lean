/- FramesKnown returns true. -/
import Derived.Test.YtfgfhaknecolpaaFramesAwake
namespace Go.Proofs.Ytfgfhaknecolpaa.Law
open Go Go.RowKit Go.Proofs.Ytfgfhaknecolpaa.Kit Go.Proofs.Ytfgfhaknecolpaa.Frames Go.Proofs.Ytfgfhaknecolpaa.Point
set_option linter.unusedSimpArgs false
set_option linter.unusedVariables false
set_option maxRecDepth 100000 in
set_option maxHeartbeats 4000000 in
theorem framesKnown_row {H : Type} {enc : TypeId × Value → H} (W : World) {base : Nat}
    : Calls Try.prog 6 #[] W fun e W' => e = .returned (.bool true) ∧ Below W.heap.size W W' := by
  have he := fun (a b c d a' b' c' d' : Int) w => eql_pt a b c d a' b' c' d' w
  go_enter Try.func6, Try.ntmps6
  go_wp2_with fail
  refine (awake_any W).mono ?_
  rintro e w0 ⟨rfl, n0⟩
  go_wp2_with fail
  refine (new_any w0).mono ?_
  rintro e w1 ⟨rfl, n1, a1⟩
  have a1 := a1 W.heap.size n0.size
  have n1 := n0.step n1
  have hb : ∀ {X : World} i, FT X W.heap.size i → W.heap.size ≤ i := fun i h => h.1
  go_wp2_with fail
  refine (push_arg1 w1 _ 8 0 0 0 0 (by decide)).mono ?_
  rintro e w2 ⟨rfl, n2⟩
  go_wp2_with fail
  refine (push_arg1 w2 _ (-1) 0 0 0 0 (by decide)).mono ?_
  rintro e w3 ⟨rfl, n3⟩
  go_wp2_with fail
  refine (push_arg2 w3 _ 4 0 9 0 0 (by decide) (by decide)).mono ?_
  rintro e w4 ⟨rfl, n4⟩
  have a4 := a1.new_ (n2.step (n3.step n4))
  have y4 := n1.step (n2.step (n3.step n4))
  clear a1 n1 n2 n3 n4
  have e5 : topE nothing 4 = 18 := rfl
  have q5 := fun X (h : New w4 X) => Pop_no X _ _ _ (a4.new_ h) 4 (by rw [e5]; decide)
  rw [e5] at q5
  go_wp2_with fail
  refine (q5 _ (by (repeat (first | exact New.refl _ | (refine New.step ?_ (by assumption)) | apply New.alloc | apply New.drewN | apply New.drew)))).mono ?_
  rintro e w5 ⟨rfl, n5⟩
  have e6 : topE nothing 8 = 1 := rfl
  have q6 := fun X (h : New w4 X) => Pop_no X _ _ _ (a4.new_ h) 8 (by rw [e6]; decide)
  rw [e6] at q6
  go_wp2_with fail
  refine (q6 _ (by (repeat (first | exact New.refl _ | (refine New.step ?_ (by assumption)) | apply New.alloc | apply New.drewN | apply New.drew)))).mono ?_
  rintro e w6 ⟨rfl, n6⟩
  have e7 : wordE nothing 4 0 = 18 := rfl
  have q7 := fun X (h : New w4 X) => read_no X _ _ _ (a4.new_ h) 4 0 (by rw [e7]; decide)
  rw [e7] at q7
  go_wp2_with fail
  refine (q7 _ (by (repeat (first | exact New.refl _ | (refine New.step ?_ (by assumption)) | apply New.alloc | apply New.drewN | apply New.drew)))).mono ?_
  rintro e w7 ⟨rfl, rfl⟩
  have q8 := fun X (h : New w4 X) => push_yes X _ _ _ (a4.new_ h) (y4.step h).size 4 (by decide) 5 0 2 0 (by decide) (by decide)
  go_wp2_with fail
  refine (q8 _ (by (repeat (first | exact New.refl _ | (refine New.step ?_ (by assumption)) | apply New.alloc | apply New.drewN | apply New.drew)))).mono ?_
  rintro e w8 ⟨rfl, a8, k8⟩
  have y8 : New W w8 := (y4.step (by (repeat (first | exact New.refl _ | (refine New.step ?_ (by assumption)) | apply New.alloc | apply New.drewN | apply New.drew)))).kept k8 hb
  have a8 : At w8 W.heap.size w0.heap.size (upd nothing 4 ([] ++ [fr 5 0 2 0])) := a8
  clear a4 y4 k8 q5 q6 q7 q8 n5 n6
  go_wp2_with fail
  refine (Top_yes w8 _ _ _ a8 4 (by decide) [] (fr 5 0 2 0) rfl).mono ?_
  rintro e w9 ⟨rfl, n9⟩
  have hbx := Blk.new w9 29 #[.int .i64 5, .int .i64 0, .int .i64 2, .int .i64 0]
  have a9 := a8.new_ (n9.alloc (.cells #[.int .i64 5, .int .i64 0, .int .i64 2, .int .i64 0] 29))
  have y9 := (y8.step n9).alloc (.cells #[.int .i64 5, .int .i64 0, .int .i64 2, .int .i64 0] 29)
  have hz9 := World.size_alloc w9 (.cells #[.int .i64 5, .int .i64 0, .int .i64 2, .int .i64 0] 29)
  have e10 : wordE (upd nothing 4 ([] ++ [fr 5 0 2 0])) 4 7 = 8 := rfl
  have q10 := read_no _ _ _ _ a9 4 7 (by rw [e10]; decide)
  rw [e10] at q10
  go_wp2_with fail
  refine (q10).mono ?_
  rintro e w10 ⟨rfl, rfl⟩
  have e11 : wordE (upd nothing 4 ([] ++ [fr 5 0 2 0])) 4 (-1) = 8 := rfl
  have q11 := write_no _ _ _ _ a9 4 (-1) 0 (by rw [e11]; decide)
  rw [e11] at q11
  go_wp2_with fail
  refine (q11).mono ?_
  rintro e w11 ⟨rfl, rfl⟩
  go_wp2_with fail
  refine (write_yes _ _ _ _ a9 4 (by decide) [] (fr 5 0 2 0) rfl 6 (by decide) 68719476742).mono ?_
  rintro e w12 ⟨rfl, a12, k12⟩
  have b12 : Go.bits .and .u64 68719476742 68719476735 = 6 := by decide
  rw [b12] at a12
  have hb12 := hbx.keeps k12 (FT.not hbx (by decide) (by decide))
  have c0 : w12.cell? ⟨w9.heap.size, 0, none⟩ = some (.int .i64 5) := by rw [hb12.cell]; rfl
  have c1 : w12.cell? ⟨w9.heap.size, 1, none⟩ = some (.int .i64 0) := by rw [hb12.cell]; rfl
  have c2 : w12.cell? ⟨w9.heap.size, 2, none⟩ = some (.int .i64 2) := by rw [hb12.cell]; rfl
  have c3 : w12.cell? ⟨w9.heap.size, 3, none⟩ = some (.int .i64 0) := by rw [hb12.cell]; rfl
  go_wp2_with fail
  refine (read_yes w12 _ _ _ a12 4 (by decide) [] ((fr 5 0 2 0).put 6 6) rfl 6 (by decide)).mono ?_
  rintro e w13 ⟨rfl, rfl⟩
  have q14 := depth_yes w12 _ _ _ a12 4 (by decide)
  have hp5 : ptEq 5 0 2 0 5 0 2 0 = true := rfl
  have yy := y9.kept k12 hb
  clear hb12 hbx a12 a9 a8 y9 hz9 q10 q11 k12
  go_wp2_with fail
  refine q14.mono ?_
  rintro e w14 ⟨rfl, rfl⟩
  go_wp2
  go_ret
  exact ⟨rfl, yy.below⟩
end Go.Proofs.Ytfgfhaknecolpaa.Law
