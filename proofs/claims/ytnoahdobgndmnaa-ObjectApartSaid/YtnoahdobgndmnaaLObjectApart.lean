/- The walk of ObjectApart. -/
import Derived.Test.YtnoahdobgndmnaaObjO
import Derived.BigQuiet
namespace Go.Proofs.Ytnoahdobgndmnaa.Law
open Go Go.RowKit Go.ChangeShapes Go.WideShapes Go.Proofs.Ytnoahdobgndmnaa.Kit Go.Proofs.Ytnoahdobgndmnaa.Str Go.Proofs.Ytnoahdobgndmnaa.Obj
set_option linter.unusedSimpArgs false
set_option linter.unusedVariables false
set_option maxRecDepth 100000 in
set_option maxHeartbeats 8000000 in
theorem objectApart_walk (O P : Ob) (v1 v2 : Value) (w : World) (h1 : ObAt w v1 O) (h2 : ObAt w v2 P) (l1 : Lens O) (l2 : Lens P) :
    Calls Try.prog 6 #[v1, v2] w fun e w' => e = .returned (.bool true) ∧ New w w' := by
  obtain ⟨a, b, c, d, ea, _⟩ := id h1
  obtain ⟨a', b', c', d', eb, _⟩ := id h2
  subst ea eb
  obtain ⟨B, hB⟩ : ∃ B, B = w.heap.size := ⟨_, rfl⟩
  obtain ⟨w1, hw1⟩ : ∃ w1, w1 = (w.alloc (.cells #[a, b, c, d] 27)).alloc (.cells #[a', b', c', d'] 27) := ⟨_, rfl⟩
  have hW1 : New w w1 := by rw [hw1]; exact ((New.refl w).alloc _).alloc _
  have hB1 : Blk w1 B 27 #[a, b, c, d] := by rw [hw1, hB]; exact (Blk.new w _ _).new_ ((New.refl _).alloc _)
  have hB2 : Blk w1 (B + 1) 27 #[a', b', c', d'] := by
    have := Blk.new (w.alloc (.cells #[a, b, c, d] 27)) 27 #[a', b', c', d']
    rw [World.size_alloc] at this
    rw [hw1, hB]
    exact this
  have HBX : Hid (∀ X, New w1 X → (X.cell? ⟨B, 0, none⟩ = some a ∧ X.cell? ⟨B, 1, none⟩ = some b ∧ X.cell? ⟨B, 2, none⟩ = some c ∧ X.cell? ⟨B, 3, none⟩ = some d) ∧ X.cell? ⟨B + 1, 0, none⟩ = some a' ∧ X.cell? ⟨B + 1, 1, none⟩ = some b' ∧ X.cell? ⟨B + 1, 2, none⟩ = some c' ∧ X.cell? ⟨B + 1, 3, none⟩ = some d') := fun X hX => ⟨blk4 (hB1.new_ hX), blk4 (hB2.new_ hX)⟩
  have HO := hid (fun X (hX : New w1 X) => h1.new_ (hW1.step hX))
  have HP := hid (fun X (hX : New w1 X) => h2.new_ (hW1.step hX))
  have HW := hid (And.intro hW1 (And.intro l1 l2))
  have hw1' := hid hw1
  have hB' := hid hB
  clear h1 h2 hW1 hB1 hB2 hw1 hB l1 l2
  go_enter Try.func6, Try.ntmps6
  go_wp2_with fail
  rw [← hw1'.out, ← hB'.out]
  refine (awake_any w1).mono ?_
  rintro e w2 ⟨rfl, n2⟩
  obtain ⟨⟨x0, x1, x2, x3⟩, y0, y1, y2, y3⟩ := HBX.out _ n2
  have N2 := hid n2
  clear n2
  go_wp2_with fail
  refine (small_any w2 _ O (HO.out _ N2.out)).mono ?_
  rintro e w3 ⟨⟨s1, rfl⟩, n3⟩
  have N3 := hid (N2.out.step n3)
  clear n3 x0 x1 x2 x3 y0 y1 y2 y3
  obtain ⟨⟨x0, x1, x2, x3⟩, y0, y1, y2, y3⟩ := HBX.out _ N3.out
  cases s1 with
  | false =>
    go_wp2_with fail
    go_ret
    exact ⟨rfl, HW.out.1.step N3.out⟩
  | true =>
    go_wp2_with fail
    refine (small_any w3 _ P (HP.out _ N3.out)).mono ?_
    rintro e w4 ⟨⟨s2, rfl⟩, n4⟩
    have N4 := hid (N3.out.step n4)
    clear n4 x0 x1 x2 x3 y0 y1 y2 y3
    obtain ⟨⟨x0, x1, x2, x3⟩, y0, y1, y2, y3⟩ := HBX.out _ N4.out
    cases s2 with
    | false =>
      go_wp2_with fail
      go_ret
      exact ⟨rfl, HW.out.1.step N4.out⟩
    | true =>
      go_wp2_with fail
      refine (wordsO_any w4 _ O (HO.out _ N4.out) HW.out.2.1).mono ?_
      rintro e w5 (⟨hm1, u1, rfl, hu1, n5⟩ | ⟨hm1, rfl, n5⟩)
      · have N5 := hid (N4.out.step n5)
        clear x0 x1 x2 x3 y0 y1 y2 y3
        obtain ⟨⟨x0, x1, x2, x3⟩, y0, y1, y2, y3⟩ := HBX.out _ N5.out
        have HU1 := hid (And.intro hm1 hu1)
        clear n5 hm1 hu1
        go_wp2_with fail
        refine (wordsO_any w5 _ P (HP.out _ N5.out) HW.out.2.2).mono ?_
        rintro e w6 (⟨hm2, u2, rfl, hu2, n6⟩ | ⟨hm2, rfl, n6⟩)
        · have N6 := hid (N5.out.step n6)
          clear x0 x1 x2 x3 y0 y1 y2 y3
          obtain ⟨⟨x0, x1, x2, x3⟩, y0, y1, y2, y3⟩ := HBX.out _ N6.out
          have fO : Fit O := (fits_iff O).1 (by have := HU1.out.1; unfold mayB at this; rw [Bool.and_eq_true] at this; exact this.1)
          have fP : Fit P := (fits_iff P).1 (by unfold mayB at hm2; rw [Bool.and_eq_true] at hm2; exact hm2.1)
          have e1 : (encO O).length ≤ 1000000 := by have := HU1.out.1; unfold mayB at this; rw [Bool.and_eq_true, decide_eq_true_eq] at this; omega
          have e2 : (encO P).length ≤ 1000000 := by unfold mayB at hm2; rw [Bool.and_eq_true, decide_eq_true_eq] at hm2; omega
          have hS := fun X (hX : New w6 X) => (sameW X u1 u2 _ _ (HU1.out.2.new_ (n6.step hX)) (hu2.new_ hX) e1 e2).mono (R' := fun e w' => e = .returned (.bool (decide (encO O = encO P))) ∧ New X w') (fun e w' h => ⟨h.1, by obtain ⟨k, rfl⟩ := h.2; exact (New.refl X).drewN k⟩)
          have hT := fun X (hX : New w6 X) => same_obj X _ _ O P (HO.out _ (N6.out.step hX)) (HP.out _ (N6.out.step hX)) (by have := fO.text; omega) (by have := fP.text; omega) (by have := fO.static; omega) (by have := fP.static; omega)
          by_cases hq : O = P
          · rw [decide_eq_true (show encO O = encO P by rw [hq])] at hS
            have hT' := fun X (hX : New w6 X) => (hT X hX).mono (R' := fun e w' => e = .returned (.bool true) ∧ New X w') (fun e w' h => ⟨by
              rcases h.1 with ⟨_, h⟩ | ⟨h, _⟩
              · exact h
              · exact absurd hq h, h.2⟩)
            clear hT
            have HS := hid hS
            have HT := hid hT'
            clear hS hT' hq fO fP e1 e2 hm2 hu2 n6
            go_wp2_with fail
            refine wp_region_quiet (C := fun w' => New w6 w') (by kernel_rfl) (by kernel_rfl) (New.refl w6).drew ?_
            simp only [List.toList_toArray]
            repeat (first
              | go_big_quiet_skip
              | (go_big_quiet_want
                 apply Exists.intro
                 refine ⟨fun w' hw' => ?_, ?_⟩
                 · have x0_ := hw'.cellK x0; have x1_ := hw'.cellK x1; have x2_ := hw'.cellK x2; have x3_ := hw'.cellK x3; have y0_ := hw'.cellK y0; have y1_ := hw'.cellK y1; have y2_ := hw'.cellK y2; have y3_ := hw'.cellK y3; go_simp; first | (with_reducible rfl) | (go_at_call 15; with_reducible exact ((HS.out _ hw').mono (fun e w2 h => ⟨h.1, hw'.step h.2⟩))) | (go_at_call 11; with_reducible exact ((HT.out _ hw').mono (fun e w2 h => ⟨h.1, hw'.step h.2⟩)))
                 go_big_quiet_on
                 try simp only [Act.put, List.setIfInBounds_toArray, List.set_cons_zero, List.set_cons_succ]))
            refine wpQuiet_nil ?_
            intro wQ hwQ
            go_wp2_with fail
            go_ret
            exact ⟨rfl, (HW.out.1.step N6.out).step hwQ⟩
          · rw [decide_eq_false (show ¬ encO O = encO P from fun h => hq (enc_one fO fP h))] at hS
            have hT' := fun X (hX : New w6 X) => (hT X hX).mono (R' := fun e w' => e = .returned (.bool false) ∧ New X w') (fun e w' h => ⟨by
              rcases h.1 with ⟨h, _⟩ | ⟨_, h⟩
              · exact absurd h hq
              · exact h, h.2⟩)
            clear hT
            have HS := hid hS
            have HT := hid hT'
            clear hS hT' hq fO fP e1 e2 hm2 hu2 n6
            go_wp2_with fail
            refine wp_region_quiet (C := fun w' => New w6 w') (by kernel_rfl) (by kernel_rfl) (New.refl w6).drew ?_
            simp only [List.toList_toArray]
            repeat (first
              | go_big_quiet_skip
              | (go_big_quiet_want
                 apply Exists.intro
                 refine ⟨fun w' hw' => ?_, ?_⟩
                 · have x0_ := hw'.cellK x0; have x1_ := hw'.cellK x1; have x2_ := hw'.cellK x2; have x3_ := hw'.cellK x3; have y0_ := hw'.cellK y0; have y1_ := hw'.cellK y1; have y2_ := hw'.cellK y2; have y3_ := hw'.cellK y3; go_simp; first | (with_reducible rfl) | (go_at_call 15; with_reducible exact ((HS.out _ hw').mono (fun e w2 h => ⟨h.1, hw'.step h.2⟩))) | (go_at_call 11; with_reducible exact ((HT.out _ hw').mono (fun e w2 h => ⟨h.1, hw'.step h.2⟩)))
                 go_big_quiet_on
                 try simp only [Act.put, List.setIfInBounds_toArray, List.set_cons_zero, List.set_cons_succ]))
            refine wpQuiet_nil ?_
            intro wQ hwQ
            go_wp2_with fail
            go_ret
            exact ⟨rfl, (HW.out.1.step N6.out).step hwQ⟩
        · have N6 := hid (N5.out.step n6)
          clear hm2 n6 x0 x1 x2 x3 y0 y1 y2 y3
          go_wp2_with fail
          refine wp_region_quiet (C := fun w' => New w6 w') (by kernel_rfl) (by kernel_rfl) (New.refl w6).drew ?_
          simp only [List.toList_toArray]
          repeat (first
            | go_big_quiet_skip
            | (go_big_quiet_want
               apply Exists.intro
               refine ⟨fun w' hw' => ?_, ?_⟩
               · go_simp; first | (with_reducible rfl)
               go_big_quiet_on
               try simp only [Act.put, List.setIfInBounds_toArray, List.set_cons_zero, List.set_cons_succ]))
          refine wpQuiet_nil ?_
          intro wQ hwQ
          go_wp2_with fail
          go_ret
          exact ⟨rfl, (HW.out.1.step N6.out).step hwQ⟩
      · have N5 := hid (N4.out.step n5)
        clear x0 x1 x2 x3 y0 y1 y2 y3
        obtain ⟨⟨x0, x1, x2, x3⟩, y0, y1, y2, y3⟩ := HBX.out _ N5.out
        clear n5 hm1
        go_wp2_with fail
        refine (wordsO_any w5 _ P (HP.out _ N5.out) HW.out.2.2).mono ?_
        rintro e w6 (⟨hm2, u2, rfl, hu2, n6⟩ | ⟨hm2, rfl, n6⟩)
        · have N6 := hid (N5.out.step n6)
          clear hm2 hu2 n6 x0 x1 x2 x3 y0 y1 y2 y3
          go_wp2_with fail
          refine wp_region_quiet (C := fun w' => New w6 w') (by kernel_rfl) (by kernel_rfl) (New.refl w6).drew ?_
          simp only [List.toList_toArray]
          repeat (first
            | go_big_quiet_skip
            | (go_big_quiet_want
               apply Exists.intro
               refine ⟨fun w' hw' => ?_, ?_⟩
               · go_simp; first | (with_reducible rfl)
               go_big_quiet_on
               try simp only [Act.put, List.setIfInBounds_toArray, List.set_cons_zero, List.set_cons_succ]))
          refine wpQuiet_nil ?_
          intro wQ hwQ
          go_wp2_with fail
          go_ret
          exact ⟨rfl, (HW.out.1.step N6.out).step hwQ⟩
        · have N6 := hid (N5.out.step n6)
          clear hm2 n6 x0 x1 x2 x3 y0 y1 y2 y3
          go_wp2_with fail
          refine wp_region_quiet (C := fun w' => New w6 w') (by kernel_rfl) (by kernel_rfl) (New.refl w6).drew ?_
          simp only [List.toList_toArray]
          repeat (first
            | go_big_quiet_skip
            | (go_big_quiet_want
               apply Exists.intro
               refine ⟨fun w' hw' => ?_, ?_⟩
               · go_simp; first | (with_reducible rfl)
               go_big_quiet_on
               try simp only [Act.put, List.setIfInBounds_toArray, List.set_cons_zero, List.set_cons_succ]))
          refine wpQuiet_nil ?_
          intro wQ hwQ
          go_wp2_with fail
          go_ret
          exact ⟨rfl, (HW.out.1.step N6.out).step hwQ⟩
theorem objectApart_row {H : Type} {enc : TypeId × Value → H} (W : World) {base : Nat}
    (v0 : Value) (d0 : DataW H) (p0 : List MemPlace) (k0 : Value.okWide Try.prog W .any base 27 v0) (h0 : DataW.Trod enc Try.prog W 0 (fun _ => true) true 27 v0 d0 p0) (l0 : ∀ x ∈ p0, x.block < W.heap.size)
    (v1 : Value) (d1 : DataW H) (p1 : List MemPlace) (k1 : Value.okWide Try.prog W .any base 27 v1) (h1 : DataW.Trod enc Try.prog W 0 (fun _ => true) true 27 v1 d1 p1) (l1 : ∀ x ∈ p1, x.block < W.heap.size)
    : Calls Try.prog 6 #[v0, v1] W fun e W' => e = .returned (.bool true) ∧ Below W.heap.size W W' := by
  obtain ⟨O, hO, lO⟩ := open_obj k0 h0
  obtain ⟨P, hP, lP⟩ := open_obj k1 h1
  exact objectApart_walk O P _ _ W hO hP lO lP
end Go.Proofs.Ytnoahdobgndmnaa.Law
