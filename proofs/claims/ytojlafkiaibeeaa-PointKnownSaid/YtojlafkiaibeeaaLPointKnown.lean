/- The walk of PointKnown. -/
import Derived.Test.YtojlafkiaibeeaaPointAwake
namespace Go.Proofs.Ytojlafkiaibeeaa.Law
open Go Go.RowKit Go.ChangeShapes Go.WideShapes Go.Proofs.Ytojlafkiaibeeaa.Wd Go.Proofs.Ytojlafkiaibeeaa.Word Go.Proofs.Ytojlafkiaibeeaa.Kit Go.Proofs.Ytojlafkiaibeeaa.Point
set_option linter.unusedSimpArgs false
set_option linter.unusedVariables false
set_option maxRecDepth 100000 in
set_option maxHeartbeats 4000000 in
theorem pointKnown_walk (w : World) :
    Calls Try.prog 12 #[] w fun e w' => e = .returned (.bool true) ∧ New w w' := by
  go_enter Try.func12, Try.ntmps12
  go_wp2_with fail
  refine (awake2_any _).mono ?_
  rintro e w1 ⟨rfl, hn1⟩
  obtain ⟨hc1, hf1⟩ := New.cells hn1
  have hs1 := New.size hn1
  try simp only [World.size_alloc, size_drewN, size_drew, size_setCell] at hc1 hf1 hs1
  try have hz1_w : w.heap.size < w1.heap.size := by omega
  go_wp2_with fail
  go_loopw [2] (fun i wr => ∃ m : Nat, m ≤ 7 ∧ i = .int .i64 (m : Int) ∧ New (w1.alloc (Obj.cells #[.int .i64 (-1), .int .i64 (0), .int .i64 (0), .int .i64 (0), .int .i64 (4096), .int .i64 (0), .int .i64 (0), .int .i64 (0), .int .i64 (0), .int .i64 (8), .int .i64 (0), .int .i64 (0), .int .i64 (0), .int .i64 (-1), .int .i64 (0), .int .i64 (0), .int .i64 (0), .int .i64 (0), .int .i64 (8), .int .i64 (0), .int .i64 (0), .int .i64 (0), .int .i64 (0), .int .i64 (262144), .int .i64 (0), .int .i64 (0), .int .i64 (0), .int .i64 (-1)] 47)) wr) (fun i _ => 7 - (intOf i).toNat)
  case atStart => exact ⟨0, by omega, rfl, New.refl _⟩
  case round =>
    obtain ⟨m, hm, rfl, hnr⟩ := hrel
    obtain ⟨hc2, hf2⟩ := New.cells hnr
    have hs2 := New.size hnr
    try simp only [World.size_alloc, size_drewN, size_drew, size_setCell] at hc2 hf2 hs2
    try have hz2_w1_1 : w1.heap.size + 1 < wr.heap.size := by omega
    try have hz2_w1 : w1.heap.size < wr.heap.size := by omega
    rcases (by omega : m = 0 ∨ m = 1 ∨ m = 2 ∨ m = 3 ∨ m = 4 ∨ m = 5 ∨ m = 6 ∨ m = 7) with rfl | rfl | rfl | rfl | rfl | rfl | rfl | rfl
    · have q : mayB (-1) (0) (0) (0) = false := by decide
      go_wp2_with fail
      refine (pack_no (-1) (0) (0) (0) q _).mono ?_
      rintro e w3 ⟨rfl, hn3⟩
      obtain ⟨hc3, hf3⟩ := New.cells hn3
      have hs3 := New.size hn3
      try simp only [World.size_alloc, size_drewN, size_drew, size_setCell] at hc3 hf3 hs3
      try have hz3_w1_1 : w1.heap.size + 1 < w3.heap.size := by omega
      try have hz3_w1 : w1.heap.size < w3.heap.size := by omega
      go_wp2_with fail
      refine (may_any (-1) (0) (0) (0) _).mono ?_
      rintro e w4 ⟨rfl, hn4⟩
      obtain ⟨hc4, hf4⟩ := New.cells hn4
      have hs4 := New.size hn4
      try simp only [World.size_alloc, size_drewN, size_drew, size_setCell] at hc4 hf4 hs4
      try have hz4_w1_1 : w1.heap.size + 1 < w4.heap.size := by omega
      try have hz4_w1 : w1.heap.size < w4.heap.size := by omega
      rw [q]
      go_wp2_with fail
      go_roundw
      case rel => exact ⟨1, by omega, rfl, by (repeat (first | exact New.refl _ | (refine New.step ?_ (by assumption)) | apply New.alloc | apply New.drewN | apply New.drew))⟩
      case measure => simp [intOf]
    · have q : mayB (4096) (0) (0) (0) = false := by decide
      go_wp2_with fail
      refine (pack_no (4096) (0) (0) (0) q _).mono ?_
      rintro e w5 ⟨rfl, hn5⟩
      obtain ⟨hc5, hf5⟩ := New.cells hn5
      have hs5 := New.size hn5
      try simp only [World.size_alloc, size_drewN, size_drew, size_setCell] at hc5 hf5 hs5
      try have hz5_w1_1 : w1.heap.size + 1 < w5.heap.size := by omega
      try have hz5_w1 : w1.heap.size < w5.heap.size := by omega
      go_wp2_with fail
      refine (may_any (4096) (0) (0) (0) _).mono ?_
      rintro e w6 ⟨rfl, hn6⟩
      obtain ⟨hc6, hf6⟩ := New.cells hn6
      have hs6 := New.size hn6
      try simp only [World.size_alloc, size_drewN, size_drew, size_setCell] at hc6 hf6 hs6
      try have hz6_w1_1 : w1.heap.size + 1 < w6.heap.size := by omega
      try have hz6_w1 : w1.heap.size < w6.heap.size := by omega
      rw [q]
      go_wp2_with fail
      go_roundw
      case rel => exact ⟨2, by omega, rfl, by (repeat (first | exact New.refl _ | (refine New.step ?_ (by assumption)) | apply New.alloc | apply New.drewN | apply New.drew))⟩
      case measure => simp [intOf]
    · have q : mayB (0) (8) (0) (0) = false := by decide
      go_wp2_with fail
      refine (pack_no (0) (8) (0) (0) q _).mono ?_
      rintro e w7 ⟨rfl, hn7⟩
      obtain ⟨hc7, hf7⟩ := New.cells hn7
      have hs7 := New.size hn7
      try simp only [World.size_alloc, size_drewN, size_drew, size_setCell] at hc7 hf7 hs7
      try have hz7_w1_1 : w1.heap.size + 1 < w7.heap.size := by omega
      try have hz7_w1 : w1.heap.size < w7.heap.size := by omega
      go_wp2_with fail
      refine (may_any (0) (8) (0) (0) _).mono ?_
      rintro e w8 ⟨rfl, hn8⟩
      obtain ⟨hc8, hf8⟩ := New.cells hn8
      have hs8 := New.size hn8
      try simp only [World.size_alloc, size_drewN, size_drew, size_setCell] at hc8 hf8 hs8
      try have hz8_w1_1 : w1.heap.size + 1 < w8.heap.size := by omega
      try have hz8_w1 : w1.heap.size < w8.heap.size := by omega
      rw [q]
      go_wp2_with fail
      go_roundw
      case rel => exact ⟨3, by omega, rfl, by (repeat (first | exact New.refl _ | (refine New.step ?_ (by assumption)) | apply New.alloc | apply New.drewN | apply New.drew))⟩
      case measure => simp [intOf]
    · have q : mayB (0) (-1) (0) (0) = false := by decide
      go_wp2_with fail
      refine (pack_no (0) (-1) (0) (0) q _).mono ?_
      rintro e w9 ⟨rfl, hn9⟩
      obtain ⟨hc9, hf9⟩ := New.cells hn9
      have hs9 := New.size hn9
      try simp only [World.size_alloc, size_drewN, size_drew, size_setCell] at hc9 hf9 hs9
      try have hz9_w1_1 : w1.heap.size + 1 < w9.heap.size := by omega
      try have hz9_w1 : w1.heap.size < w9.heap.size := by omega
      go_wp2_with fail
      refine (may_any (0) (-1) (0) (0) _).mono ?_
      rintro e w10 ⟨rfl, hn10⟩
      obtain ⟨hc10, hf10⟩ := New.cells hn10
      have hs10 := New.size hn10
      try simp only [World.size_alloc, size_drewN, size_drew, size_setCell] at hc10 hf10 hs10
      try have hz10_w1_1 : w1.heap.size + 1 < w10.heap.size := by omega
      try have hz10_w1 : w1.heap.size < w10.heap.size := by omega
      rw [q]
      go_wp2_with fail
      go_roundw
      case rel => exact ⟨4, by omega, rfl, by (repeat (first | exact New.refl _ | (refine New.step ?_ (by assumption)) | apply New.alloc | apply New.drewN | apply New.drew))⟩
      case measure => simp [intOf]
    · have q : mayB (0) (0) (8) (0) = false := by decide
      go_wp2_with fail
      refine (pack_no (0) (0) (8) (0) q _).mono ?_
      rintro e w11 ⟨rfl, hn11⟩
      obtain ⟨hc11, hf11⟩ := New.cells hn11
      have hs11 := New.size hn11
      try simp only [World.size_alloc, size_drewN, size_drew, size_setCell] at hc11 hf11 hs11
      try have hz11_w1_1 : w1.heap.size + 1 < w11.heap.size := by omega
      try have hz11_w1 : w1.heap.size < w11.heap.size := by omega
      go_wp2_with fail
      refine (may_any (0) (0) (8) (0) _).mono ?_
      rintro e w12 ⟨rfl, hn12⟩
      obtain ⟨hc12, hf12⟩ := New.cells hn12
      have hs12 := New.size hn12
      try simp only [World.size_alloc, size_drewN, size_drew, size_setCell] at hc12 hf12 hs12
      try have hz12_w1_1 : w1.heap.size + 1 < w12.heap.size := by omega
      try have hz12_w1 : w1.heap.size < w12.heap.size := by omega
      rw [q]
      go_wp2_with fail
      go_roundw
      case rel => exact ⟨5, by omega, rfl, by (repeat (first | exact New.refl _ | (refine New.step ?_ (by assumption)) | apply New.alloc | apply New.drewN | apply New.drew))⟩
      case measure => simp [intOf]
    · have q : mayB (0) (0) (0) (262144) = false := by decide
      go_wp2_with fail
      refine (pack_no (0) (0) (0) (262144) q _).mono ?_
      rintro e w13 ⟨rfl, hn13⟩
      obtain ⟨hc13, hf13⟩ := New.cells hn13
      have hs13 := New.size hn13
      try simp only [World.size_alloc, size_drewN, size_drew, size_setCell] at hc13 hf13 hs13
      try have hz13_w1_1 : w1.heap.size + 1 < w13.heap.size := by omega
      try have hz13_w1 : w1.heap.size < w13.heap.size := by omega
      go_wp2_with fail
      refine (may_any (0) (0) (0) (262144) _).mono ?_
      rintro e w14 ⟨rfl, hn14⟩
      obtain ⟨hc14, hf14⟩ := New.cells hn14
      have hs14 := New.size hn14
      try simp only [World.size_alloc, size_drewN, size_drew, size_setCell] at hc14 hf14 hs14
      try have hz14_w1_1 : w1.heap.size + 1 < w14.heap.size := by omega
      try have hz14_w1 : w1.heap.size < w14.heap.size := by omega
      rw [q]
      go_wp2_with fail
      go_roundw
      case rel => exact ⟨6, by omega, rfl, by (repeat (first | exact New.refl _ | (refine New.step ?_ (by assumption)) | apply New.alloc | apply New.drewN | apply New.drew))⟩
      case measure => simp [intOf]
    · have q : mayB (0) (0) (0) (-1) = false := by decide
      go_wp2_with fail
      refine (pack_no (0) (0) (0) (-1) q _).mono ?_
      rintro e w15 ⟨rfl, hn15⟩
      obtain ⟨hc15, hf15⟩ := New.cells hn15
      have hs15 := New.size hn15
      try simp only [World.size_alloc, size_drewN, size_drew, size_setCell] at hc15 hf15 hs15
      try have hz15_w1_1 : w1.heap.size + 1 < w15.heap.size := by omega
      try have hz15_w1 : w1.heap.size < w15.heap.size := by omega
      go_wp2_with fail
      refine (may_any (0) (0) (0) (-1) _).mono ?_
      rintro e w16 ⟨rfl, hn16⟩
      obtain ⟨hc16, hf16⟩ := New.cells hn16
      have hs16 := New.size hn16
      try simp only [World.size_alloc, size_drewN, size_drew, size_setCell] at hc16 hf16 hs16
      try have hz16_w1_1 : w1.heap.size + 1 < w16.heap.size := by omega
      try have hz16_w1 : w1.heap.size < w16.heap.size := by omega
      rw [q]
      go_wp2_with fail
      go_roundw
      case rel => exact ⟨7, by omega, rfl, by (repeat (first | exact New.refl _ | (refine New.step ?_ (by assumption)) | apply New.alloc | apply New.drewN | apply New.drew))⟩
      case measure => simp [intOf]
    · have q : packN 4095 7 7 262143 = 68719476735 := by decide
      have q1 : mxZ 3 (mnZ (mxZ 5 0) 7) = 5 := by decide
      have q2 : mxZ 3 (mnZ (mxZ (-4) 0) 7) = 3 := by decide
      have q3 : mxZ 0 (mnZ (mxZ 99 0) 7) = 7 := by decide
      go_wp2_with fail
      refine (pack_yes 4095 7 7 262143 (by decide) _).mono ?_
      rintro e w17 ⟨rfl, hn17⟩
      obtain ⟨hc17, hf17⟩ := New.cells hn17
      have hs17 := New.size hn17
      try simp only [World.size_alloc, size_drewN, size_drew, size_setCell] at hc17 hf17 hs17
      try have hz17_w1_1 : w1.heap.size + 1 < w17.heap.size := by omega
      try have hz17_w1 : w1.heap.size < w17.heap.size := by omega
      rw [q]
      go_wp2_with fail
      refine (raise_any 0 3 0 0 5 _).mono ?_
      rintro e w18 ⟨rfl, hn18⟩
      obtain ⟨hc18, hf18⟩ := New.cells hn18
      have hs18 := New.size hn18
      try simp only [World.size_alloc, size_drewN, size_drew, size_setCell] at hc18 hf18 hs18
      try have hz18_w1_1 : w1.heap.size + 1 < w18.heap.size := by omega
      try have hz18_w1 : w1.heap.size < w18.heap.size := by omega
      rw [q1]
      go_wp2_with fail
      refine (raise_any 0 3 0 0 (-4) _).mono ?_
      rintro e w19 ⟨rfl, hn19⟩
      obtain ⟨hc19, hf19⟩ := New.cells hn19
      have hs19 := New.size hn19
      try simp only [World.size_alloc, size_drewN, size_drew, size_setCell] at hc19 hf19 hs19
      try have hz19_w1_1 : w1.heap.size + 1 < w19.heap.size := by omega
      try have hz19_w1 : w1.heap.size < w19.heap.size := by omega
      rw [q2]
      go_wp2_with fail
      refine (raise_any 0 0 0 0 99 _).mono ?_
      rintro e w20 ⟨rfl, hn20⟩
      obtain ⟨hc20, hf20⟩ := New.cells hn20
      have hs20 := New.size hn20
      try simp only [World.size_alloc, size_drewN, size_drew, size_setCell] at hc20 hf20 hs20
      try have hz20_w1_1 : w1.heap.size + 1 < w20.heap.size := by omega
      try have hz20_w1 : w1.heap.size < w20.heap.size := by omega
      rw [q3]
      go_wp2_with fail
      refine (move_any 0 0 0 1 (-2) _).mono ?_
      rintro e w21 ⟨rfl, hn21⟩
      obtain ⟨hc21, hf21⟩ := New.cells hn21
      have hs21 := New.size hn21
      try simp only [World.size_alloc, size_drewN, size_drew, size_setCell] at hc21 hf21 hs21
      try have hz21_w1_1 : w1.heap.size + 1 < w21.heap.size := by omega
      try have hz21_w1 : w1.heap.size < w21.heap.size := by omega
      go_wp2_with fail
      refine (move_any 0 0 0 262143 1 _).mono ?_
      rintro e w22 ⟨rfl, hn22⟩
      obtain ⟨hc22, hf22⟩ := New.cells hn22
      have hs22 := New.size hn22
      try simp only [World.size_alloc, size_drewN, size_drew, size_setCell] at hc22 hf22 hs22
      try have hz22_w1_1 : w1.heap.size + 1 < w22.heap.size := by omega
      try have hz22_w1 : w1.heap.size < w22.heap.size := by omega
      go_wp2
      go_ret
      refine ⟨rfl, ?_⟩
      (repeat (first | exact New.refl _ | (refine New.step ?_ (by assumption)) | apply New.alloc | apply New.drewN | apply New.drew))
theorem pointKnown_row {H : Type} {enc : TypeId × Value → H} (W : World) {base : Nat}
    : Calls Try.prog 12 #[] W fun e W' => e = .returned (.bool true) ∧ Below W.heap.size W W' := by
  exact pointKnown_walk W
end Go.Proofs.Ytojlafkiaibeeaa.Law
