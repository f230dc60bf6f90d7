/- StoreKnown returns true. -/
import Derived.Test.YtclmgpopejlfdaaStoreAwake
namespace Go.Proofs.Ytclmgpopejlfdaa.Law
open Go Go.RowKit Go.Proofs.Ytclmgpopejlfdaa.Kit Go.Proofs.Ytclmgpopejlfdaa.Store
set_option linter.unusedSimpArgs false
set_option linter.unusedVariables false
set_option maxRecDepth 100000 in
set_option maxHeartbeats 4000000 in
theorem storeKnown_row {H : Type} {enc : TypeId × Value → H} (W : World) {base : Nat}
    : Calls Try.prog 6 #[] W fun e W' => e = .returned (.bool true) ∧ Below W.heap.size W W' := by
  go_enter Try.func6, Try.ntmps6
  go_wp2_with fail
  refine (awake_any W).mono ?_
  rintro e w0 ⟨rfl, n0⟩
  go_wp2_with fail
  refine (new_any 12 w0 (by decide)).mono ?_
  rintro e w1 ⟨rfl, n1, a1⟩
  have a1 : At w1 (w0.heap.size + 1) w0.heap.size ⟨12, 0, []⟩ := a1
  go_wp2_with fail
  refine (new_any (-5) w1 (by decide)).mono ?_
  rintro e w2 ⟨rfl, n2, z2⟩
  have z2 : At w2 (w1.heap.size + 1) w1.heap.size ⟨0, 0, []⟩ := z2
  have s1 := a1.blk.lt
  have a2 := a1.keeps (n2.keeps (fun _ => False)) (fun _ _ h => h)
  have s2 := z2.blk.lt
  have hn0 := n0.size
  go_wp2_with fail
  refine (make_yes w2 _ _ _ a2 4 rfl (by decide)).mono ?_
  rintro e w3 ⟨rfl, b3, l3, a3, k3⟩
  have a3 : At w3 _ _ ⟨12, 1, [(1, b3, [0, 0, 0, 0])]⟩ := a3
  have z3 := z2.keeps k3 (by rintro b (rfl | rfl | ⟨x, hx, _⟩) <;> (try cases hx) <;> omega)
  have y3 := (n0.step (n1.step n2)).kept k3 (by rintro b (rfl | rfl) <;> omega)
  rw [show (St.next ⟨12, 0, []⟩) + 1 = 1 from rfl]
  go_wp2_with fail
  refine (write_yes w3 _ _ _ a3 1 68719476743 3 (by decide) (by decide) (by decide) (by decide) b3 [0, 0, 0, 0] rfl (by decide)).mono ?_
  rintro e w4 ⟨rfl, a4, k4⟩
  have a4 : At w4 _ _ ⟨12, 1, [(1, b3, [0, 0, 0, 7])]⟩ := a4
  have z4 := z3.keeps k4 (by rintro b (rfl | rfl | ⟨x, hx, _⟩) <;> (try cases hx) <;> intro e <;> omega)
  have y4 := y3.kept k4 (by rintro b rfl; omega)
  go_wp2_with fail
  refine (resize_yes w4 _ _ _ a4 1 2 (by decide) (by decide) b3 [0, 0, 0, 7] rfl rfl).mono ?_
  rintro e w5 ⟨rfl, b5, l5, a5, k5⟩
  have a5 : At w5 _ _ ⟨12, 1, [(1, b5, [0, 0])]⟩ := a5
  have z5 := z4.keeps k5 (by rintro b (rfl | rfl | ⟨x, hx, _⟩) <;> (try cases hx) <;> omega)
  have y5 := y4.kept k5 (by rintro b (rfl | rfl) <;> omega)
  go_wp2_with fail
  refine (resize_yes w5 _ _ _ a5 1 4 (by decide) (by decide) b5 [0, 0] rfl rfl).mono ?_
  rintro e w6 ⟨rfl, b6, l6, a6, k6⟩
  have a6 : At w6 _ _ ⟨12, 1, [(1, b6, [0, 0, 0, 0])]⟩ := a6
  have z6 := z5.keeps k6 (by rintro b (rfl | rfl | ⟨x, hx, _⟩) <;> (try cases hx) <;> omega)
  have y6 := y5.kept k6 (by rintro b (rfl | rfl) <;> omega)
  have r6 : readV ⟨12, 1, [(1, b6, [0, 0, 0, 0])]⟩ 1 3 = .tuple #[.int .u64 0, .int .i64 0] := rfl
  go_wp2_with fail
  refine (read_any w6 _ _ _ a6 1 3 (by decide) (by decide)).mono ?_
  rintro e w7 ⟨rfl, rfl⟩
  rw [r6]
  go_wp2_with fail
  refine (drop_yes w6 _ _ _ a6 1 (by decide) (by decide) (b6, [0, 0, 0, 0]) rfl).mono ?_
  rintro e w8 ⟨rfl, a8, k8⟩
  have a8 : At w8 _ _ ⟨12, 1, []⟩ := a8
  have z8 := z6.keeps k8 (by rintro b (rfl | rfl | ⟨x, hx, _⟩) <;> (try cases hx) <;> omega)
  have y8 := y6.kept k8 (by rintro b (rfl | rfl) <;> omega)
  go_wp2_with fail
  refine (make_yes w8 _ _ _ a8 12 rfl (by decide)).mono ?_
  rintro e w9 ⟨rfl, b9, l9, a9, k9⟩
  have a9 : At w9 _ _ ⟨12, 2, [(2, b9, [0, 0, 0, 0, 0, 0, 0, 0, 0, 0, 0, 0])]⟩ := a9
  have z9 := z8.keeps k9 (by rintro b (rfl | rfl | ⟨x, hx, _⟩) <;> (try cases hx) <;> omega)
  have y9 := y8.kept k9 (by rintro b (rfl | rfl) <;> omega)
  rw [show (St.next ⟨12, 1, []⟩) + 1 = 2 from rfl]
  have r10 : mayE ⟨12, 2, [(2, b9, [0, 0, 0, 0, 0, 0, 0, 0, 0, 0, 0, 0])]⟩ (-1) 0 = 1 := rfl
  go_wp2_with fail
  refine (make_no w9 _ _ _ a9 (-1) (by rw [r10]; decide)).mono ?_
  rintro e w10 ⟨rfl, m10, hw⟩
  have a10 := a9.drewN m10
  rw [← hw] at a10
  have z10 := z9.drewN m10
  rw [← hw] at z10
  have y10 : New W w10 := by rw [hw]; exact y9.drewN m10
  have t10 : w9.heap.size = w10.heap.size := by rw [hw]; first | rfl | exact t9
  clear hw
  rw [r10]
  have r11 : mayE ⟨12, 2, [(2, b9, [0, 0, 0, 0, 0, 0, 0, 0, 0, 0, 0, 0])]⟩ 1025 0 = 1 := rfl
  go_wp2_with fail
  refine (make_no w10 _ _ _ a10 1025 (by rw [r11]; decide)).mono ?_
  rintro e w11 ⟨rfl, m11, hw⟩
  have a11 := a10.drewN m11
  rw [← hw] at a11
  have z11 := z10.drewN m11
  rw [← hw] at z11
  have y11 : New W w11 := by rw [hw]; exact y10.drewN m11
  have t11 : w9.heap.size = w11.heap.size := by rw [hw]; first | rfl | exact t10
  clear hw
  rw [r11]
  have r12 : mayE ⟨12, 2, [(2, b9, [0, 0, 0, 0, 0, 0, 0, 0, 0, 0, 0, 0])]⟩ 13 12 = 6 := rfl
  go_wp2_with fail
  refine (resize_no w11 _ _ _ a11 2 13 (by decide) (by decide) (b9, [0, 0, 0, 0, 0, 0, 0, 0, 0, 0, 0, 0]) rfl (by show mayE _ 13 12 ≠ 0; rw [r12]; decide)).mono ?_
  rintro e w12 ⟨rfl, m12, hw⟩
  have a12 := a11.drewN m12
  rw [← hw] at a12
  have z12 := z11.drewN m12
  rw [← hw] at z12
  have y12 : New W w12 := by rw [hw]; exact y11.drewN m12
  have t12 : w9.heap.size = w12.heap.size := by rw [hw]; first | rfl | exact t11
  clear hw
  rw [show mayE ⟨12, 2, [(2, b9, [0, 0, 0, 0, 0, 0, 0, 0, 0, 0, 0, 0])]⟩ 13 (([0, 0, 0, 0, 0, 0, 0, 0, 0, 0, 0, 0] : List Int).length : Nat) = 6 from r12]
  have u9 := a12.rows (2, b9, [0, 0, 0, 0, 0, 0, 0, 0, 0, 0, 0, 0]) (List.mem_singleton.2 rfl)
  have u9 := u9.lt
  simp only at u9
  go_wp2_with fail
  refine (make_yes w12 _ _ _ z12 0 rfl (by decide)).mono ?_
  rintro e w13 ⟨rfl, b13, l13, z13, k13⟩
  have z13 : At w13 _ _ ⟨0, 1, [(1, b13, [])]⟩ := z13
  have q3 := k3.size
  have q4 := k4.size
  have q5 := k5.size
  have q6 := k6.size
  have q8 := k8.size
  have q9 := k9.size
  have a13 := a12.keeps k13 (by rintro b (rfl | rfl | ⟨x, hx, e⟩) <;> (try (cases List.mem_singleton.1 hx; simp only at e)) <;> intro h <;> omega)
  have y13 := y12.kept k13 (by rintro b (rfl | rfl) <;> omega)
  rw [show (St.next ⟨0, 0, []⟩) + 1 = 1 from rfl]
  have r14 : mayE ⟨0, 1, [(1, b13, [])]⟩ 1 0 = 6 := rfl
  go_wp2_with fail
  refine (make_no _ _ _ _ z13 1 (by rw [r14]; decide)).mono ?_
  rintro e w14 ⟨rfl, m4, hw⟩
  rw [r14]
  have a14 := a13.drewN m4
  rw [← hw] at a14
  have y14 : New W w14 := by rw [hw]; exact y13.drewN m4
  clear hw
  have r15 : writeE ⟨12, 2, [(2, b9, [0, 0, 0, 0, 0, 0, 0, 0, 0, 0, 0, 0])]⟩ 2 12 = 8 := rfl
  go_wp2_with fail
  refine (write_no w14 _ _ _ a14 2 12 0 (by decide) (by decide) (by rw [r15]; decide)).mono ?_
  rintro e w15 ⟨rfl, rfl⟩
  rw [r15]
  go_wp2_with fail
  refine (write_yes w14 _ _ _ a14 2 68719476743 11 (by decide) (by decide) (by decide) (by decide) b9 [0, 0, 0, 0, 0, 0, 0, 0, 0, 0, 0, 0] rfl (by decide)).mono ?_
  rintro e w16 ⟨rfl, a16, k16⟩
  have a16 : At w16 _ _ ⟨12, 2, [(2, b9, [0, 0, 0, 0, 0, 0, 0, 0, 0, 0, 0, 7])]⟩ := a16
  have y16 := y14.kept k16 (by rintro b rfl; have := y8.size; omega)
  have r17 : readV ⟨12, 2, [(2, b9, [0, 0, 0, 0, 0, 0, 0, 0, 0, 0, 0, 7])]⟩ 2 11 = .tuple #[.int .u64 7, .int .i64 0] := rfl
  go_wp2_with fail
  refine (read_any w16 _ _ _ a16 2 11 (by decide) (by decide)).mono ?_
  rintro e w17 ⟨rfl, rfl⟩
  rw [r17]
  go_wp2_with fail
  refine (drop_no w16 _ _ _ a16 1 (by decide) (by decide) rfl).mono ?_
  rintro e w18 ⟨rfl, rfl⟩
  have r18 : St.used ⟨12, 2, [(2, b9, [0, 0, 0, 0, 0, 0, 0, 0, 0, 0, 0, 7])]⟩ = 12 := rfl
  go_wp2_with fail
  refine (used_any w16 _ _ _ a16).mono ?_
  rintro e w19 ⟨rfl, rfl⟩
  rw [r18]
  go_wp2
  go_ret
  exact ⟨rfl, y16.below⟩
end Go.Proofs.Ytclmgpopejlfdaa.Law
