/- KnownKnown returns true. -/
import Derived.Test.YtgiipmccolmmdaaKnownAwake
namespace Go.Proofs.Ytgiipmccolmmdaa.Law
open Go Go.RowKit Go.Proofs.Ytgiipmccolmmdaa.Kit Go.Proofs.Ytgiipmccolmmdaa.Known
set_option linter.unusedSimpArgs false
set_option linter.unusedVariables false
set_option maxRecDepth 100000 in
set_option maxHeartbeats 4000000 in
theorem knownKnown_row {H : Type} {enc : TypeId × Value → H} (W : World) {base : Nat}
    : Calls Try.prog 4 #[] W fun e W' => e = .returned (.bool true) ∧ Below W.heap.size W W' := by
  go_enter Try.func4, Try.ntmps4
  go_wp2_with fail
  refine (awake_any W).mono ?_
  rintro e w0 ⟨rfl, n0⟩
  go_wp2_with fail
  refine (new_any w0).mono ?_
  rintro e w1 ⟨rfl, n1, a1⟩
  have hs0 := n0.size
  have hb : ∀ i, i = w0.heap.size + 1 ∨ i = w0.heap.size → W.heap.size ≤ i := by omega
  go_wp2_with fail
  refine (add_arg w1 _ w0.heap.size 0 4 (by decide)).mono ?_
  rintro e w2 ⟨rfl, rfl⟩
  go_wp2_with fail
  refine (add_arg w1 _ w0.heap.size 1 8 (by decide)).mono ?_
  rintro e w2 ⟨rfl, rfl⟩
  go_wp2_with fail
  refine (add_arg w1 _ w0.heap.size 1 (-1) (by decide)).mono ?_
  rintro e w2 ⟨rfl, rfl⟩
  go_wp2_with fail
  refine (add_new w1 _ _ _ a1 1099511627776 1 7 (by decide) (by decide) (by decide) (by decide) (by decide) rfl rfl (fun a h1 h2 => by omega)).mono ?_
  rintro e w2 ⟨rfl, a2, k2⟩
  have n2 := (n0.step n1).kept k2 hb
  generalize hS : addS new 1099511627776 1 7 = S at a2
  have q3 := drop_none w2 _ _ _ a2 1 4 (by decide) (by rw [← hS]; decide)
  go_wp2_with fail
  refine (q3).mono ?_
  rintro e w3 ⟨rfl, m3, hw⟩
  have a3 : At w3 (w0.heap.size + 1) w0.heap.size S := by rw [hw]; exact a2.drewN _
  have n3 : New W w3 := by rw [hw]; exact n2.drewN _
  clear hw
  have q4 := drop_none w3 _ _ _ a3 2 7 (by decide) (by rw [← hS]; decide)
  go_wp2_with fail
  refine (q4).mono ?_
  rintro e w4 ⟨rfl, m4, hw⟩
  have a4 : At w4 (w0.heap.size + 1) w0.heap.size S := by rw [hw]; exact a3.drewN _
  have n4 : New W w4 := by rw [hw]; exact n3.drewN _
  clear hw
  go_wp2_with fail
  refine (drop_arg w4 _ _ _ a4 1 9 (by decide)).mono ?_
  rintro e w5 ⟨rfl, rfl⟩
  have q6 := uid_any w4 _ _ _ a4 1
  rw [show uidV S 1 = .tuple #[.int .i64 1099511627776, .bool true] from by rw [← hS]; rfl] at q6
  go_wp2_with fail
  refine (q6).mono ?_
  rintro e w6 ⟨rfl, m6, hw⟩
  have a6 : At w6 (w0.heap.size + 1) w0.heap.size S := by rw [hw]; exact a4.drewN _
  have n6 : New W w6 := by rw [hw]; exact n4.drewN _
  clear hw
  have q7 := uid_any w6 _ _ _ a6 0
  rw [show uidV S 0 = .tuple #[.int .i64 0, .bool false] from by rw [← hS]; rfl] at q7
  go_wp2_with fail
  refine (q7).mono ?_
  rintro e w7 ⟨rfl, m7, hw⟩
  have a7 : At w7 (w0.heap.size + 1) w0.heap.size S := by rw [hw]; exact a6.drewN _
  have n7 : New W w7 := by rw [hw]; exact n6.drewN _
  clear hw
  have q8 := count_any w7 _ _ _ a7 1 7
  rw [show countV S 1 7 = 1 from by rw [← hS]; rfl] at q8
  go_wp2_with fail
  refine (q8).mono ?_
  rintro e w8 ⟨rfl, m8, hw⟩
  have a8 : At w8 (w0.heap.size + 1) w0.heap.size S := by rw [hw]; exact a7.drewN _
  have n8 : New W w8 := by rw [hw]; exact n7.drewN _
  clear hw
  have q9 := count_any w8 _ _ _ a8 1 4
  rw [show countV S 1 4 = 0 from by rw [← hS]; rfl] at q9
  go_wp2_with fail
  refine (q9).mono ?_
  rintro e w9 ⟨rfl, m9, hw⟩
  have a9 : At w9 (w0.heap.size + 1) w0.heap.size S := by rw [hw]; exact a8.drewN _
  have n9 : New W w9 := by rw [hw]; exact n8.drewN _
  clear hw
  have q10 := count_any w9 _ _ _ a9 99 0
  rw [show countV S 99 0 = 0 from by rw [← hS]; rfl] at q10
  go_wp2_with fail
  refine (q10).mono ?_
  rintro e w10 ⟨rfl, m10, hw⟩
  have a10 : At w10 (w0.heap.size + 1) w0.heap.size S := by rw [hw]; exact a9.drewN _
  have n10 : New W w10 := by rw [hw]; exact n9.drewN _
  clear hw
  have q11 := forget_no w10 _ _ _ a10 5 (by rw [← hS]; decide)
  go_wp2_with fail
  refine (q11).mono ?_
  rintro e w11 ⟨rfl, m11, hw⟩
  have a11 : At w11 (w0.heap.size + 1) w0.heap.size S := by rw [hw]; exact a10.drewN _
  have n11 : New W w11 := by rw [hw]; exact n10.drewN _
  clear hw
  go_wp2_with fail
  refine (forget_yes w11 _ _ _ a11 1 (by decide) (by decide) (by rw [← hS]; decide)).mono ?_
  rintro e w12 ⟨rfl, a12, k12⟩
  have n12 := n11.kept k12 hb
  go_wp2
  go_ret
  exact ⟨rfl, n12.below⟩
end Go.Proofs.Ytgiipmccolmmdaa.Law
