/- The walk of RingKnown. -/
import Derived.Test.YtgdocnejieaogaaRingAwake
namespace Go.Proofs.Ytgdocnejieaogaa.Law
open Go Go.RowKit Go.ChangeShapes Go.WideShapes Go.Proofs.Ytgdocnejieaogaa.Kit Go.Proofs.Ytgdocnejieaogaa.Ring
set_option linter.unusedSimpArgs false
set_option linter.unusedVariables false
set_option maxRecDepth 100000 in
set_option maxHeartbeats 4000000 in
theorem ringKnown_walk (w : World) :
    Calls Try.prog 7 #[] w fun e w' => e = .returned (.bool true) ∧ New w w' := by
  go_enter Try.func7, Try.ntmps7
  go_wp2_with fail
  refine (awake_any _).mono ?_
  rintro e w1 ⟨rfl, hn1⟩
  obtain ⟨hc1, hf1⟩ := New.cells hn1
  have hs1 := New.size hn1
  try simp only [World.size_alloc, size_drewN, size_drew, size_setCell] at hc1 hf1 hs1
  try have hz1_w : w.heap.size < w1.heap.size := by omega
  go_wp2_with fail
  go_loopw [5] (fun i wr => ∃ m : Nat, m ≤ 8 ∧ i = .int .i64 (m : Int) ∧ New (((((w1.alloc (Obj.cells #[Value.bool true, Value.bool true, Value.bool true] 25)).alloc (Obj.cells #[Value.int IntKind.i64 2, Value.int IntKind.i64 4, Value.int IntKind.i64 6, Value.int IntKind.i64 2] 23)).alloc (Obj.cells #[Value.int IntKind.i64 10, Value.int IntKind.i64 10, Value.int IntKind.i64 0, Value.int IntKind.i64 0, Value.int IntKind.i64 0, Value.int IntKind.i64 0, Value.int IntKind.i64 0, Value.int IntKind.i64 10] 3)).alloc (Obj.cells #[Value.int IntKind.i64 0, Value.int IntKind.i64 0, Value.int IntKind.i64 2, Value.int IntKind.i64 3, Value.int IntKind.i64 4, Value.int IntKind.i64 4, Value.int IntKind.i64 4, Value.int IntKind.i64 0] 3))) wr) (fun i _ => 8 - (intOf i).toNat)
  case atStart => exact ⟨0, by omega, rfl, New.refl _⟩
  case round =>
    obtain ⟨m, hm, rfl, hnr⟩ := hrel
    obtain ⟨hc2, hf2⟩ := New.cells hnr
    have hs2 := New.size hnr
    try simp only [World.size_alloc, size_drewN, size_drew, size_setCell] at hc2 hf2 hs2
    try have hz2_w1_1 : w1.heap.size + 1 < wr.heap.size := by omega
    try have hz2_w1_2 : w1.heap.size + 2 < wr.heap.size := by omega
    try have hz2_w1_3 : w1.heap.size + 3 < wr.heap.size := by omega
    try have hz2_w1 : w1.heap.size < wr.heap.size := by omega
    rcases (by omega : m = 0 ∨ m = 1 ∨ m = 2 ∨ m = 3 ∨ m = 4 ∨ m = 5 ∨ m = 6 ∨ m = 7 ∨ m = 8) with rfl | rfl | rfl | rfl | rfl | rfl | rfl | rfl | rfl
    · have q1 : callE 2 4 6 2 true 0 1 = (0, 10) := by decide
      have q2 : readE 2 4 6 2 true 0 = 0 := by decide
      have q3 : writeE 2 4 6 2 true 0 = 0 := by decide
      have q4 : execE 2 4 6 2 true 0 = 10 := by decide
      go_wp2_with fail
      refine (call_any 2 4 6 2 true true true 0 1 _).mono ?_
      rintro e w3 ⟨rfl, hn3⟩
      obtain ⟨hc3, hf3⟩ := New.cells hn3
      have hs3 := New.size hn3
      try simp only [World.size_alloc, size_drewN, size_drew, size_setCell] at hc3 hf3 hs3
      try have hz3_w1_1 : w1.heap.size + 1 < w3.heap.size := by omega
      try have hz3_w1_2 : w1.heap.size + 2 < w3.heap.size := by omega
      try have hz3_w1_3 : w1.heap.size + 3 < w3.heap.size := by omega
      try have hz3_w1 : w1.heap.size < w3.heap.size := by omega
      rw [q1]
      go_wp2_with fail
      refine (read_any 2 4 6 2 true true true 0 _).mono ?_
      rintro e w4 ⟨rfl, hn4⟩
      obtain ⟨hc4, hf4⟩ := New.cells hn4
      have hs4 := New.size hn4
      try simp only [World.size_alloc, size_drewN, size_drew, size_setCell] at hc4 hf4 hs4
      try have hz4_w1_1 : w1.heap.size + 1 < w4.heap.size := by omega
      try have hz4_w1_2 : w1.heap.size + 2 < w4.heap.size := by omega
      try have hz4_w1_3 : w1.heap.size + 3 < w4.heap.size := by omega
      try have hz4_w1 : w1.heap.size < w4.heap.size := by omega
      rw [q2]
      go_wp2_with fail
      refine (write_any 2 4 6 2 true true true 0 _).mono ?_
      rintro e w5 ⟨rfl, hn5⟩
      obtain ⟨hc5, hf5⟩ := New.cells hn5
      have hs5 := New.size hn5
      try simp only [World.size_alloc, size_drewN, size_drew, size_setCell] at hc5 hf5 hs5
      try have hz5_w1_1 : w1.heap.size + 1 < w5.heap.size := by omega
      try have hz5_w1_2 : w1.heap.size + 2 < w5.heap.size := by omega
      try have hz5_w1_3 : w1.heap.size + 3 < w5.heap.size := by omega
      try have hz5_w1 : w1.heap.size < w5.heap.size := by omega
      rw [q3]
      go_wp2_with fail
      refine (exec_any 2 4 6 2 true true true 0 _).mono ?_
      rintro e w6 ⟨rfl, hn6⟩
      obtain ⟨hc6, hf6⟩ := New.cells hn6
      have hs6 := New.size hn6
      try simp only [World.size_alloc, size_drewN, size_drew, size_setCell] at hc6 hf6 hs6
      try have hz6_w1_1 : w1.heap.size + 1 < w6.heap.size := by omega
      try have hz6_w1_2 : w1.heap.size + 2 < w6.heap.size := by omega
      try have hz6_w1_3 : w1.heap.size + 3 < w6.heap.size := by omega
      try have hz6_w1 : w1.heap.size < w6.heap.size := by omega
      rw [q4]
      go_wp2_with fail
      go_roundw
      case rel => exact ⟨1, by omega, rfl, by (repeat (first | exact New.refl _ | (refine New.step ?_ (by assumption)) | apply New.alloc | apply New.drewN | apply New.drew))⟩
      case measure => simp [intOf]
    · have q1 : callE 2 4 6 2 true 1 1 = (0, 10) := by decide
      have q2 : readE 2 4 6 2 true 1 = 0 := by decide
      have q3 : writeE 2 4 6 2 true 1 = 0 := by decide
      have q4 : execE 2 4 6 2 true 1 = 10 := by decide
      go_wp2_with fail
      refine (call_any 2 4 6 2 true true true 1 1 _).mono ?_
      rintro e w7 ⟨rfl, hn7⟩
      obtain ⟨hc7, hf7⟩ := New.cells hn7
      have hs7 := New.size hn7
      try simp only [World.size_alloc, size_drewN, size_drew, size_setCell] at hc7 hf7 hs7
      try have hz7_w1_1 : w1.heap.size + 1 < w7.heap.size := by omega
      try have hz7_w1_2 : w1.heap.size + 2 < w7.heap.size := by omega
      try have hz7_w1_3 : w1.heap.size + 3 < w7.heap.size := by omega
      try have hz7_w1 : w1.heap.size < w7.heap.size := by omega
      rw [q1]
      go_wp2_with fail
      refine (read_any 2 4 6 2 true true true 1 _).mono ?_
      rintro e w8 ⟨rfl, hn8⟩
      obtain ⟨hc8, hf8⟩ := New.cells hn8
      have hs8 := New.size hn8
      try simp only [World.size_alloc, size_drewN, size_drew, size_setCell] at hc8 hf8 hs8
      try have hz8_w1_1 : w1.heap.size + 1 < w8.heap.size := by omega
      try have hz8_w1_2 : w1.heap.size + 2 < w8.heap.size := by omega
      try have hz8_w1_3 : w1.heap.size + 3 < w8.heap.size := by omega
      try have hz8_w1 : w1.heap.size < w8.heap.size := by omega
      rw [q2]
      go_wp2_with fail
      refine (write_any 2 4 6 2 true true true 1 _).mono ?_
      rintro e w9 ⟨rfl, hn9⟩
      obtain ⟨hc9, hf9⟩ := New.cells hn9
      have hs9 := New.size hn9
      try simp only [World.size_alloc, size_drewN, size_drew, size_setCell] at hc9 hf9 hs9
      try have hz9_w1_1 : w1.heap.size + 1 < w9.heap.size := by omega
      try have hz9_w1_2 : w1.heap.size + 2 < w9.heap.size := by omega
      try have hz9_w1_3 : w1.heap.size + 3 < w9.heap.size := by omega
      try have hz9_w1 : w1.heap.size < w9.heap.size := by omega
      rw [q3]
      go_wp2_with fail
      refine (exec_any 2 4 6 2 true true true 1 _).mono ?_
      rintro e w10 ⟨rfl, hn10⟩
      obtain ⟨hc10, hf10⟩ := New.cells hn10
      have hs10 := New.size hn10
      try simp only [World.size_alloc, size_drewN, size_drew, size_setCell] at hc10 hf10 hs10
      try have hz10_w1_1 : w1.heap.size + 1 < w10.heap.size := by omega
      try have hz10_w1_2 : w1.heap.size + 2 < w10.heap.size := by omega
      try have hz10_w1_3 : w1.heap.size + 3 < w10.heap.size := by omega
      try have hz10_w1 : w1.heap.size < w10.heap.size := by omega
      rw [q4]
      go_wp2_with fail
      go_roundw
      case rel => exact ⟨2, by omega, rfl, by (repeat (first | exact New.refl _ | (refine New.step ?_ (by assumption)) | apply New.alloc | apply New.drewN | apply New.drew))⟩
      case measure => simp [intOf]
    · have q1 : callE 2 4 6 2 true 2 1 = (2, 0) := by decide
      have q2 : readE 2 4 6 2 true 2 = 0 := by decide
      have q3 : writeE 2 4 6 2 true 2 = 0 := by decide
      have q4 : execE 2 4 6 2 true 2 = 0 := by decide
      go_wp2_with fail
      refine (call_any 2 4 6 2 true true true 2 1 _).mono ?_
      rintro e w11 ⟨rfl, hn11⟩
      obtain ⟨hc11, hf11⟩ := New.cells hn11
      have hs11 := New.size hn11
      try simp only [World.size_alloc, size_drewN, size_drew, size_setCell] at hc11 hf11 hs11
      try have hz11_w1_1 : w1.heap.size + 1 < w11.heap.size := by omega
      try have hz11_w1_2 : w1.heap.size + 2 < w11.heap.size := by omega
      try have hz11_w1_3 : w1.heap.size + 3 < w11.heap.size := by omega
      try have hz11_w1 : w1.heap.size < w11.heap.size := by omega
      rw [q1]
      go_wp2_with fail
      refine (read_any 2 4 6 2 true true true 2 _).mono ?_
      rintro e w12 ⟨rfl, hn12⟩
      obtain ⟨hc12, hf12⟩ := New.cells hn12
      have hs12 := New.size hn12
      try simp only [World.size_alloc, size_drewN, size_drew, size_setCell] at hc12 hf12 hs12
      try have hz12_w1_1 : w1.heap.size + 1 < w12.heap.size := by omega
      try have hz12_w1_2 : w1.heap.size + 2 < w12.heap.size := by omega
      try have hz12_w1_3 : w1.heap.size + 3 < w12.heap.size := by omega
      try have hz12_w1 : w1.heap.size < w12.heap.size := by omega
      rw [q2]
      go_wp2_with fail
      refine (write_any 2 4 6 2 true true true 2 _).mono ?_
      rintro e w13 ⟨rfl, hn13⟩
      obtain ⟨hc13, hf13⟩ := New.cells hn13
      have hs13 := New.size hn13
      try simp only [World.size_alloc, size_drewN, size_drew, size_setCell] at hc13 hf13 hs13
      try have hz13_w1_1 : w1.heap.size + 1 < w13.heap.size := by omega
      try have hz13_w1_2 : w1.heap.size + 2 < w13.heap.size := by omega
      try have hz13_w1_3 : w1.heap.size + 3 < w13.heap.size := by omega
      try have hz13_w1 : w1.heap.size < w13.heap.size := by omega
      rw [q3]
      go_wp2_with fail
      refine (exec_any 2 4 6 2 true true true 2 _).mono ?_
      rintro e w14 ⟨rfl, hn14⟩
      obtain ⟨hc14, hf14⟩ := New.cells hn14
      have hs14 := New.size hn14
      try simp only [World.size_alloc, size_drewN, size_drew, size_setCell] at hc14 hf14 hs14
      try have hz14_w1_1 : w1.heap.size + 1 < w14.heap.size := by omega
      try have hz14_w1_2 : w1.heap.size + 2 < w14.heap.size := by omega
      try have hz14_w1_3 : w1.heap.size + 3 < w14.heap.size := by omega
      try have hz14_w1 : w1.heap.size < w14.heap.size := by omega
      rw [q4]
      go_wp2_with fail
      go_roundw
      case rel => exact ⟨3, by omega, rfl, by (repeat (first | exact New.refl _ | (refine New.step ?_ (by assumption)) | apply New.alloc | apply New.drewN | apply New.drew))⟩
      case measure => simp [intOf]
    · have q1 : callE 2 4 6 2 true 3 1 = (3, 0) := by decide
      have q2 : readE 2 4 6 2 true 3 = 0 := by decide
      have q3 : writeE 2 4 6 2 true 3 = 10 := by decide
      have q4 : execE 2 4 6 2 true 3 = 0 := by decide
      go_wp2_with fail
      refine (call_any 2 4 6 2 true true true 3 1 _).mono ?_
      rintro e w15 ⟨rfl, hn15⟩
      obtain ⟨hc15, hf15⟩ := New.cells hn15
      have hs15 := New.size hn15
      try simp only [World.size_alloc, size_drewN, size_drew, size_setCell] at hc15 hf15 hs15
      try have hz15_w1_1 : w1.heap.size + 1 < w15.heap.size := by omega
      try have hz15_w1_2 : w1.heap.size + 2 < w15.heap.size := by omega
      try have hz15_w1_3 : w1.heap.size + 3 < w15.heap.size := by omega
      try have hz15_w1 : w1.heap.size < w15.heap.size := by omega
      rw [q1]
      go_wp2_with fail
      refine (read_any 2 4 6 2 true true true 3 _).mono ?_
      rintro e w16 ⟨rfl, hn16⟩
      obtain ⟨hc16, hf16⟩ := New.cells hn16
      have hs16 := New.size hn16
      try simp only [World.size_alloc, size_drewN, size_drew, size_setCell] at hc16 hf16 hs16
      try have hz16_w1_1 : w1.heap.size + 1 < w16.heap.size := by omega
      try have hz16_w1_2 : w1.heap.size + 2 < w16.heap.size := by omega
      try have hz16_w1_3 : w1.heap.size + 3 < w16.heap.size := by omega
      try have hz16_w1 : w1.heap.size < w16.heap.size := by omega
      rw [q2]
      go_wp2_with fail
      refine (write_any 2 4 6 2 true true true 3 _).mono ?_
      rintro e w17 ⟨rfl, hn17⟩
      obtain ⟨hc17, hf17⟩ := New.cells hn17
      have hs17 := New.size hn17
      try simp only [World.size_alloc, size_drewN, size_drew, size_setCell] at hc17 hf17 hs17
      try have hz17_w1_1 : w1.heap.size + 1 < w17.heap.size := by omega
      try have hz17_w1_2 : w1.heap.size + 2 < w17.heap.size := by omega
      try have hz17_w1_3 : w1.heap.size + 3 < w17.heap.size := by omega
      try have hz17_w1 : w1.heap.size < w17.heap.size := by omega
      rw [q3]
      go_wp2_with fail
      refine (exec_any 2 4 6 2 true true true 3 _).mono ?_
      rintro e w18 ⟨rfl, hn18⟩
      obtain ⟨hc18, hf18⟩ := New.cells hn18
      have hs18 := New.size hn18
      try simp only [World.size_alloc, size_drewN, size_drew, size_setCell] at hc18 hf18 hs18
      try have hz18_w1_1 : w1.heap.size + 1 < w18.heap.size := by omega
      try have hz18_w1_2 : w1.heap.size + 2 < w18.heap.size := by omega
      try have hz18_w1_3 : w1.heap.size + 3 < w18.heap.size := by omega
      try have hz18_w1 : w1.heap.size < w18.heap.size := by omega
      rw [q4]
      go_wp2_with fail
      go_roundw
      case rel => exact ⟨4, by omega, rfl, by (repeat (first | exact New.refl _ | (refine New.step ?_ (by assumption)) | apply New.alloc | apply New.drewN | apply New.drew))⟩
      case measure => simp [intOf]
    · have q1 : callE 2 4 6 2 true 4 1 = (4, 0) := by decide
      have q2 : readE 2 4 6 2 true 4 = 0 := by decide
      have q3 : writeE 2 4 6 2 true 4 = 10 := by decide
      have q4 : execE 2 4 6 2 true 4 = 0 := by decide
      go_wp2_with fail
      refine (call_any 2 4 6 2 true true true 4 1 _).mono ?_
      rintro e w19 ⟨rfl, hn19⟩
      obtain ⟨hc19, hf19⟩ := New.cells hn19
      have hs19 := New.size hn19
      try simp only [World.size_alloc, size_drewN, size_drew, size_setCell] at hc19 hf19 hs19
      try have hz19_w1_1 : w1.heap.size + 1 < w19.heap.size := by omega
      try have hz19_w1_2 : w1.heap.size + 2 < w19.heap.size := by omega
      try have hz19_w1_3 : w1.heap.size + 3 < w19.heap.size := by omega
      try have hz19_w1 : w1.heap.size < w19.heap.size := by omega
      rw [q1]
      go_wp2_with fail
      refine (read_any 2 4 6 2 true true true 4 _).mono ?_
      rintro e w20 ⟨rfl, hn20⟩
      obtain ⟨hc20, hf20⟩ := New.cells hn20
      have hs20 := New.size hn20
      try simp only [World.size_alloc, size_drewN, size_drew, size_setCell] at hc20 hf20 hs20
      try have hz20_w1_1 : w1.heap.size + 1 < w20.heap.size := by omega
      try have hz20_w1_2 : w1.heap.size + 2 < w20.heap.size := by omega
      try have hz20_w1_3 : w1.heap.size + 3 < w20.heap.size := by omega
      try have hz20_w1 : w1.heap.size < w20.heap.size := by omega
      rw [q2]
      go_wp2_with fail
      refine (write_any 2 4 6 2 true true true 4 _).mono ?_
      rintro e w21 ⟨rfl, hn21⟩
      obtain ⟨hc21, hf21⟩ := New.cells hn21
      have hs21 := New.size hn21
      try simp only [World.size_alloc, size_drewN, size_drew, size_setCell] at hc21 hf21 hs21
      try have hz21_w1_1 : w1.heap.size + 1 < w21.heap.size := by omega
      try have hz21_w1_2 : w1.heap.size + 2 < w21.heap.size := by omega
      try have hz21_w1_3 : w1.heap.size + 3 < w21.heap.size := by omega
      try have hz21_w1 : w1.heap.size < w21.heap.size := by omega
      rw [q3]
      go_wp2_with fail
      refine (exec_any 2 4 6 2 true true true 4 _).mono ?_
      rintro e w22 ⟨rfl, hn22⟩
      obtain ⟨hc22, hf22⟩ := New.cells hn22
      have hs22 := New.size hn22
      try simp only [World.size_alloc, size_drewN, size_drew, size_setCell] at hc22 hf22 hs22
      try have hz22_w1_1 : w1.heap.size + 1 < w22.heap.size := by omega
      try have hz22_w1_2 : w1.heap.size + 2 < w22.heap.size := by omega
      try have hz22_w1_3 : w1.heap.size + 3 < w22.heap.size := by omega
      try have hz22_w1 : w1.heap.size < w22.heap.size := by omega
      rw [q4]
      go_wp2_with fail
      go_roundw
      case rel => exact ⟨5, by omega, rfl, by (repeat (first | exact New.refl _ | (refine New.step ?_ (by assumption)) | apply New.alloc | apply New.drewN | apply New.drew))⟩
      case measure => simp [intOf]
    · have q1 : callE 2 4 6 2 true 5 1 = (4, 0) := by decide
      have q2 : readE 2 4 6 2 true 5 = 10 := by decide
      have q3 : writeE 2 4 6 2 true 5 = 10 := by decide
      have q4 : execE 2 4 6 2 true 5 = 10 := by decide
      go_wp2_with fail
      refine (call_any 2 4 6 2 true true true 5 1 _).mono ?_
      rintro e w23 ⟨rfl, hn23⟩
      obtain ⟨hc23, hf23⟩ := New.cells hn23
      have hs23 := New.size hn23
      try simp only [World.size_alloc, size_drewN, size_drew, size_setCell] at hc23 hf23 hs23
      try have hz23_w1_1 : w1.heap.size + 1 < w23.heap.size := by omega
      try have hz23_w1_2 : w1.heap.size + 2 < w23.heap.size := by omega
      try have hz23_w1_3 : w1.heap.size + 3 < w23.heap.size := by omega
      try have hz23_w1 : w1.heap.size < w23.heap.size := by omega
      rw [q1]
      go_wp2_with fail
      refine (read_any 2 4 6 2 true true true 5 _).mono ?_
      rintro e w24 ⟨rfl, hn24⟩
      obtain ⟨hc24, hf24⟩ := New.cells hn24
      have hs24 := New.size hn24
      try simp only [World.size_alloc, size_drewN, size_drew, size_setCell] at hc24 hf24 hs24
      try have hz24_w1_1 : w1.heap.size + 1 < w24.heap.size := by omega
      try have hz24_w1_2 : w1.heap.size + 2 < w24.heap.size := by omega
      try have hz24_w1_3 : w1.heap.size + 3 < w24.heap.size := by omega
      try have hz24_w1 : w1.heap.size < w24.heap.size := by omega
      rw [q2]
      go_wp2_with fail
      refine (write_any 2 4 6 2 true true true 5 _).mono ?_
      rintro e w25 ⟨rfl, hn25⟩
      obtain ⟨hc25, hf25⟩ := New.cells hn25
      have hs25 := New.size hn25
      try simp only [World.size_alloc, size_drewN, size_drew, size_setCell] at hc25 hf25 hs25
      try have hz25_w1_1 : w1.heap.size + 1 < w25.heap.size := by omega
      try have hz25_w1_2 : w1.heap.size + 2 < w25.heap.size := by omega
      try have hz25_w1_3 : w1.heap.size + 3 < w25.heap.size := by omega
      try have hz25_w1 : w1.heap.size < w25.heap.size := by omega
      rw [q3]
      go_wp2_with fail
      refine (exec_any 2 4 6 2 true true true 5 _).mono ?_
      rintro e w26 ⟨rfl, hn26⟩
      obtain ⟨hc26, hf26⟩ := New.cells hn26
      have hs26 := New.size hn26
      try simp only [World.size_alloc, size_drewN, size_drew, size_setCell] at hc26 hf26 hs26
      try have hz26_w1_1 : w1.heap.size + 1 < w26.heap.size := by omega
      try have hz26_w1_2 : w1.heap.size + 2 < w26.heap.size := by omega
      try have hz26_w1_3 : w1.heap.size + 3 < w26.heap.size := by omega
      try have hz26_w1 : w1.heap.size < w26.heap.size := by omega
      rw [q4]
      go_wp2_with fail
      go_roundw
      case rel => exact ⟨6, by omega, rfl, by (repeat (first | exact New.refl _ | (refine New.step ?_ (by assumption)) | apply New.alloc | apply New.drewN | apply New.drew))⟩
      case measure => simp [intOf]
    · have q1 : callE 2 4 6 2 true 6 1 = (4, 0) := by decide
      have q2 : readE 2 4 6 2 true 6 = 10 := by decide
      have q3 : writeE 2 4 6 2 true 6 = 10 := by decide
      have q4 : execE 2 4 6 2 true 6 = 10 := by decide
      go_wp2_with fail
      refine (call_any 2 4 6 2 true true true 6 1 _).mono ?_
      rintro e w27 ⟨rfl, hn27⟩
      obtain ⟨hc27, hf27⟩ := New.cells hn27
      have hs27 := New.size hn27
      try simp only [World.size_alloc, size_drewN, size_drew, size_setCell] at hc27 hf27 hs27
      try have hz27_w1_1 : w1.heap.size + 1 < w27.heap.size := by omega
      try have hz27_w1_2 : w1.heap.size + 2 < w27.heap.size := by omega
      try have hz27_w1_3 : w1.heap.size + 3 < w27.heap.size := by omega
      try have hz27_w1 : w1.heap.size < w27.heap.size := by omega
      rw [q1]
      go_wp2_with fail
      refine (read_any 2 4 6 2 true true true 6 _).mono ?_
      rintro e w28 ⟨rfl, hn28⟩
      obtain ⟨hc28, hf28⟩ := New.cells hn28
      have hs28 := New.size hn28
      try simp only [World.size_alloc, size_drewN, size_drew, size_setCell] at hc28 hf28 hs28
      try have hz28_w1_1 : w1.heap.size + 1 < w28.heap.size := by omega
      try have hz28_w1_2 : w1.heap.size + 2 < w28.heap.size := by omega
      try have hz28_w1_3 : w1.heap.size + 3 < w28.heap.size := by omega
      try have hz28_w1 : w1.heap.size < w28.heap.size := by omega
      rw [q2]
      go_wp2_with fail
      refine (write_any 2 4 6 2 true true true 6 _).mono ?_
      rintro e w29 ⟨rfl, hn29⟩
      obtain ⟨hc29, hf29⟩ := New.cells hn29
      have hs29 := New.size hn29
      try simp only [World.size_alloc, size_drewN, size_drew, size_setCell] at hc29 hf29 hs29
      try have hz29_w1_1 : w1.heap.size + 1 < w29.heap.size := by omega
      try have hz29_w1_2 : w1.heap.size + 2 < w29.heap.size := by omega
      try have hz29_w1_3 : w1.heap.size + 3 < w29.heap.size := by omega
      try have hz29_w1 : w1.heap.size < w29.heap.size := by omega
      rw [q3]
      go_wp2_with fail
      refine (exec_any 2 4 6 2 true true true 6 _).mono ?_
      rintro e w30 ⟨rfl, hn30⟩
      obtain ⟨hc30, hf30⟩ := New.cells hn30
      have hs30 := New.size hn30
      try simp only [World.size_alloc, size_drewN, size_drew, size_setCell] at hc30 hf30 hs30
      try have hz30_w1_1 : w1.heap.size + 1 < w30.heap.size := by omega
      try have hz30_w1_2 : w1.heap.size + 2 < w30.heap.size := by omega
      try have hz30_w1_3 : w1.heap.size + 3 < w30.heap.size := by omega
      try have hz30_w1 : w1.heap.size < w30.heap.size := by omega
      rw [q4]
      go_wp2_with fail
      go_roundw
      case rel => exact ⟨7, by omega, rfl, by (repeat (first | exact New.refl _ | (refine New.step ?_ (by assumption)) | apply New.alloc | apply New.drewN | apply New.drew))⟩
      case measure => simp [intOf]
    · have q1 : callE 2 4 6 2 true 7 1 = (0, 10) := by decide
      have q2 : readE 2 4 6 2 true 7 = 10 := by decide
      have q3 : writeE 2 4 6 2 true 7 = 10 := by decide
      have q4 : execE 2 4 6 2 true 7 = 10 := by decide
      go_wp2_with fail
      refine (call_any 2 4 6 2 true true true 7 1 _).mono ?_
      rintro e w31 ⟨rfl, hn31⟩
      obtain ⟨hc31, hf31⟩ := New.cells hn31
      have hs31 := New.size hn31
      try simp only [World.size_alloc, size_drewN, size_drew, size_setCell] at hc31 hf31 hs31
      try have hz31_w1_1 : w1.heap.size + 1 < w31.heap.size := by omega
      try have hz31_w1_2 : w1.heap.size + 2 < w31.heap.size := by omega
      try have hz31_w1_3 : w1.heap.size + 3 < w31.heap.size := by omega
      try have hz31_w1 : w1.heap.size < w31.heap.size := by omega
      rw [q1]
      go_wp2_with fail
      refine (read_any 2 4 6 2 true true true 7 _).mono ?_
      rintro e w32 ⟨rfl, hn32⟩
      obtain ⟨hc32, hf32⟩ := New.cells hn32
      have hs32 := New.size hn32
      try simp only [World.size_alloc, size_drewN, size_drew, size_setCell] at hc32 hf32 hs32
      try have hz32_w1_1 : w1.heap.size + 1 < w32.heap.size := by omega
      try have hz32_w1_2 : w1.heap.size + 2 < w32.heap.size := by omega
      try have hz32_w1_3 : w1.heap.size + 3 < w32.heap.size := by omega
      try have hz32_w1 : w1.heap.size < w32.heap.size := by omega
      rw [q2]
      go_wp2_with fail
      refine (write_any 2 4 6 2 true true true 7 _).mono ?_
      rintro e w33 ⟨rfl, hn33⟩
      obtain ⟨hc33, hf33⟩ := New.cells hn33
      have hs33 := New.size hn33
      try simp only [World.size_alloc, size_drewN, size_drew, size_setCell] at hc33 hf33 hs33
      try have hz33_w1_1 : w1.heap.size + 1 < w33.heap.size := by omega
      try have hz33_w1_2 : w1.heap.size + 2 < w33.heap.size := by omega
      try have hz33_w1_3 : w1.heap.size + 3 < w33.heap.size := by omega
      try have hz33_w1 : w1.heap.size < w33.heap.size := by omega
      rw [q3]
      go_wp2_with fail
      refine (exec_any 2 4 6 2 true true true 7 _).mono ?_
      rintro e w34 ⟨rfl, hn34⟩
      obtain ⟨hc34, hf34⟩ := New.cells hn34
      have hs34 := New.size hn34
      try simp only [World.size_alloc, size_drewN, size_drew, size_setCell] at hc34 hf34 hs34
      try have hz34_w1_1 : w1.heap.size + 1 < w34.heap.size := by omega
      try have hz34_w1_2 : w1.heap.size + 2 < w34.heap.size := by omega
      try have hz34_w1_3 : w1.heap.size + 3 < w34.heap.size := by omega
      try have hz34_w1 : w1.heap.size < w34.heap.size := by omega
      rw [q4]
      go_wp2_with fail
      go_roundw
      case rel => exact ⟨8, by omega, rfl, by (repeat (first | exact New.refl _ | (refine New.step ?_ (by assumption)) | apply New.alloc | apply New.drewN | apply New.drew))⟩
      case measure => simp [intOf]
    · have q1 : callE 2 4 6 2 true 5 2 = (0, 11) := by decide
      have q2 : callE 2 4 6 2 true 5 (-1) = (0, 11) := by decide
      have q3 : callE 2 4 6 2 false 1 0 = (0, 9) := by decide
      have q4 : callE 3 2 4 0 false 3 0 = (0, 1) := by decide
      have q5 : mayB 0 0 8 0 = false := by decide
      have q6 : mayB 0 0 0 (-1) = false := by decide
      have q7 : mayB 0 0 0 1025 = false := by decide
      have q8 : readE 2 4 6 2 true 8 = 1 := by decide
      have q9 : cutZ (-3) = 0 := by decide
      have q10 : cutZ 99 = 7 := by decide
      go_wp2_with fail
      refine (call_any 2 4 6 2 true true true 5 2 _).mono ?_
      rintro e w35 ⟨rfl, hn35⟩
      obtain ⟨hc35, hf35⟩ := New.cells hn35
      have hs35 := New.size hn35
      try simp only [World.size_alloc, size_drewN, size_drew, size_setCell] at hc35 hf35 hs35
      try have hz35_w1_1 : w1.heap.size + 1 < w35.heap.size := by omega
      try have hz35_w1_2 : w1.heap.size + 2 < w35.heap.size := by omega
      try have hz35_w1_3 : w1.heap.size + 3 < w35.heap.size := by omega
      try have hz35_w1 : w1.heap.size < w35.heap.size := by omega
      rw [q1]
      go_wp2_with fail
      refine (call_any 2 4 6 2 true true true 5 (-1) _).mono ?_
      rintro e w36 ⟨rfl, hn36⟩
      obtain ⟨hc36, hf36⟩ := New.cells hn36
      have hs36 := New.size hn36
      try simp only [World.size_alloc, size_drewN, size_drew, size_setCell] at hc36 hf36 hs36
      try have hz36_w1_1 : w1.heap.size + 1 < w36.heap.size := by omega
      try have hz36_w1_2 : w1.heap.size + 2 < w36.heap.size := by omega
      try have hz36_w1_3 : w1.heap.size + 3 < w36.heap.size := by omega
      try have hz36_w1 : w1.heap.size < w36.heap.size := by omega
      rw [q2]
      go_wp2_with fail
      refine (call_any 2 4 6 2 true true false 1 0 _).mono ?_
      rintro e w37 ⟨rfl, hn37⟩
      obtain ⟨hc37, hf37⟩ := New.cells hn37
      have hs37 := New.size hn37
      try simp only [World.size_alloc, size_drewN, size_drew, size_setCell] at hc37 hf37 hs37
      try have hz37_w1_1 : w1.heap.size + 1 < w37.heap.size := by omega
      try have hz37_w1_2 : w1.heap.size + 2 < w37.heap.size := by omega
      try have hz37_w1_3 : w1.heap.size + 3 < w37.heap.size := by omega
      try have hz37_w1 : w1.heap.size < w37.heap.size := by omega
      rw [q3]
      go_wp2_with fail
      refine (call_any 3 2 4 0 false false false 3 0 _).mono ?_
      rintro e w38 ⟨rfl, hn38⟩
      obtain ⟨hc38, hf38⟩ := New.cells hn38
      have hs38 := New.size hn38
      try simp only [World.size_alloc, size_drewN, size_drew, size_setCell] at hc38 hf38 hs38
      try have hz38_w1_1 : w1.heap.size + 1 < w38.heap.size := by omega
      try have hz38_w1_2 : w1.heap.size + 2 < w38.heap.size := by omega
      try have hz38_w1_3 : w1.heap.size + 3 < w38.heap.size := by omega
      try have hz38_w1 : w1.heap.size < w38.heap.size := by omega
      rw [q4]
      go_wp2_with fail
      refine (may_any 0 0 8 0 _).mono ?_
      rintro e w39 ⟨rfl, hn39⟩
      obtain ⟨hc39, hf39⟩ := New.cells hn39
      have hs39 := New.size hn39
      try simp only [World.size_alloc, size_drewN, size_drew, size_setCell] at hc39 hf39 hs39
      try have hz39_w1_1 : w1.heap.size + 1 < w39.heap.size := by omega
      try have hz39_w1_2 : w1.heap.size + 2 < w39.heap.size := by omega
      try have hz39_w1_3 : w1.heap.size + 3 < w39.heap.size := by omega
      try have hz39_w1 : w1.heap.size < w39.heap.size := by omega
      rw [q5]
      go_wp2_with fail
      refine (may_any 0 0 0 (-1) _).mono ?_
      rintro e w40 ⟨rfl, hn40⟩
      obtain ⟨hc40, hf40⟩ := New.cells hn40
      have hs40 := New.size hn40
      try simp only [World.size_alloc, size_drewN, size_drew, size_setCell] at hc40 hf40 hs40
      try have hz40_w1_1 : w1.heap.size + 1 < w40.heap.size := by omega
      try have hz40_w1_2 : w1.heap.size + 2 < w40.heap.size := by omega
      try have hz40_w1_3 : w1.heap.size + 3 < w40.heap.size := by omega
      try have hz40_w1 : w1.heap.size < w40.heap.size := by omega
      rw [q6]
      go_wp2_with fail
      refine (may_any 0 0 0 1025 _).mono ?_
      rintro e w41 ⟨rfl, hn41⟩
      obtain ⟨hc41, hf41⟩ := New.cells hn41
      have hs41 := New.size hn41
      try simp only [World.size_alloc, size_drewN, size_drew, size_setCell] at hc41 hf41 hs41
      try have hz41_w1_1 : w1.heap.size + 1 < w41.heap.size := by omega
      try have hz41_w1_2 : w1.heap.size + 2 < w41.heap.size := by omega
      try have hz41_w1_3 : w1.heap.size + 3 < w41.heap.size := by omega
      try have hz41_w1 : w1.heap.size < w41.heap.size := by omega
      rw [q7]
      go_wp2_with fail
      refine (read_any 2 4 6 2 true true true 8 _).mono ?_
      rintro e w42 ⟨rfl, hn42⟩
      obtain ⟨hc42, hf42⟩ := New.cells hn42
      have hs42 := New.size hn42
      try simp only [World.size_alloc, size_drewN, size_drew, size_setCell] at hc42 hf42 hs42
      try have hz42_w1_1 : w1.heap.size + 1 < w42.heap.size := by omega
      try have hz42_w1_2 : w1.heap.size + 2 < w42.heap.size := by omega
      try have hz42_w1_3 : w1.heap.size + 3 < w42.heap.size := by omega
      try have hz42_w1 : w1.heap.size < w42.heap.size := by omega
      rw [q8]
      go_wp2_with fail
      refine (return_any (-3) 99 _).mono ?_
      rintro e w' ⟨rfl, rfl⟩
      rw [q9, q10]
      go_wp2
      go_ret
      refine ⟨rfl, ?_⟩
      (repeat (first | exact New.refl _ | (refine New.step ?_ (by assumption)) | apply New.alloc | apply New.drewN | apply New.drew))
theorem ringKnown_row {H : Type} {enc : TypeId × Value → H} (W : World) {base : Nat}
    : Calls Try.prog 7 #[] W fun e W' => e = .returned (.bool true) ∧ Below W.heap.size W W' := by
  exact ringKnown_walk W
end Go.Proofs.Ytgdocnejieaogaa.Law
