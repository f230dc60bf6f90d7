/- The walk of PointApart. -/
import Derived.Test.YtojlafkiaibeeaaPointAwake
namespace Go.Proofs.Ytojlafkiaibeeaa.Law
open Go Go.RowKit Go.ChangeShapes Go.WideShapes Go.Proofs.Ytojlafkiaibeeaa.Wd Go.Proofs.Ytojlafkiaibeeaa.Word Go.Proofs.Ytojlafkiaibeeaa.Kit Go.Proofs.Ytojlafkiaibeeaa.Point
set_option linter.unusedSimpArgs false
set_option linter.unusedVariables false
/-- A field out of a word into which fields were put one behind the other. -/
theorem pack_bit (a b c d : Nat) (i : Nat) (hi : i < 36) : (packN a b c d).testBit i = if i < 18 then d.testBit i else if i < 21 then c.testBit (i - 18) else if i < 24 then b.testBit (i - 21) else a.testBit (i - 24) := by
  unfold packN
  rw [testBit_putN (by omega) i hi, testBit_putN (by omega) i hi, testBit_putN (by omega) i hi, testBit_putN (by omega) i hi]
  by_cases h1 : i < 18
  · rw [if_pos (by omega), if_pos h1]; rfl
  rw [if_neg (by omega), if_neg h1]
  by_cases h2 : i < 21
  · rw [if_pos (by omega), if_pos h2]
  rw [if_neg (by omega), if_neg h2]
  by_cases h3 : i < 24
  · rw [if_pos (by omega), if_pos h3]
  · rw [if_neg (by omega), if_neg h3, if_pos (by omega)]
theorem get_pack0 {a b c d : Nat} (h : mayB a b c d = true) : getN (packN a b c d) 0 12 = a ∧ getN (packN a b c d) 12 3 = b ∧ getN (packN a b c d) 15 3 = c ∧ getN (packN a b c d) 18 18 = d := by
  have hm := mayB_iff.1 h
  refine ⟨?_, ?_, ?_, ?_⟩
  · apply Nat.eq_of_testBit_eq; intro i
    rw [testBit_getN]
    by_cases hi : i < 12
    · rw [pack_bit _ _ _ _ _ (by omega), if_neg (by omega), if_neg (by omega), if_neg (by omega), show i + (36 - 0 - 12) - 24 = i by omega]; simp [hi]
    · rw [testBit_high (x := a) (k := 12) (by omega) (by omega)]; simp [hi]
  · apply Nat.eq_of_testBit_eq; intro i
    rw [testBit_getN]
    by_cases hi : i < 3
    · rw [pack_bit _ _ _ _ _ (by omega), if_neg (by omega), if_neg (by omega), if_pos (by omega), show i + (36 - 12 - 3) - 21 = i by omega]; simp [hi]
    · rw [testBit_high (x := b) (k := 3) (by omega) (by omega)]; simp [hi]
  · apply Nat.eq_of_testBit_eq; intro i
    rw [testBit_getN]
    by_cases hi : i < 3
    · rw [pack_bit _ _ _ _ _ (by omega), if_neg (by omega), if_pos (by omega), show i + (36 - 15 - 3) - 18 = i by omega]; simp [hi]
    · rw [testBit_high (x := c) (k := 3) (by omega) (by omega)]; simp [hi]
  · apply Nat.eq_of_testBit_eq; intro i
    rw [testBit_getN]
    by_cases hi : i < 18
    · rw [pack_bit _ _ _ _ _ (by omega), if_pos (by omega), show i + (36 - 18 - 18) = i by omega]; simp [hi]
    · rw [testBit_high (x := d) (k := 18) (by omega) (by omega)]; simp [hi]
theorem pack_inj {a b c d a' b' c' d' : Nat} (h : mayB a b c d = true) (h' : mayB a' b' c' d' = true) (e : packN a b c d = packN a' b' c' d') : a = a' ∧ b = b' ∧ c = c' ∧ d = d' := by
  obtain ⟨p1, p2, p3, p4⟩ := get_pack0 h
  obtain ⟨q1, q2, q3, q4⟩ := get_pack0 h'
  rw [e] at p1 p2 p3 p4
  exact ⟨p1.symm.trans q1, p2.symm.trans q2, p3.symm.trans q3, p4.symm.trans q4⟩

theorem pointApart_walk (a b c d a' b' c' d' : Int) (w : World) :
    Calls Try.prog 10 #[pt a b c d, pt a' b' c' d'] w fun e w' => e = .returned (.bool true) ∧ New w w' := by
  have he := fun (a b c d a' b' c' d' : Int) w => eql_pt a b c d a' b' c' d' w
  by_cases h1 : mayB a b c d = true
  · have m1 := mayB_iff.1 h1
    obtain ⟨A, rfl⟩ := Int.eq_ofNat_of_zero_le m1.1
    obtain ⟨B, rfl⟩ := Int.eq_ofNat_of_zero_le m1.2.2.1
    obtain ⟨C, rfl⟩ := Int.eq_ofNat_of_zero_le m1.2.2.2.2.1
    obtain ⟨D, rfl⟩ := Int.eq_ofNat_of_zero_le m1.2.2.2.2.2.2.1
    clear m1
    by_cases h2 : mayB a' b' c' d' = true
    · have m2 := mayB_iff.1 h2
      obtain ⟨A', rfl⟩ := Int.eq_ofNat_of_zero_le m2.1
      obtain ⟨B', rfl⟩ := Int.eq_ofNat_of_zero_le m2.2.2.1
      obtain ⟨C', rfl⟩ := Int.eq_ofNat_of_zero_le m2.2.2.2.2.1
      obtain ⟨D', rfl⟩ := Int.eq_ofNat_of_zero_le m2.2.2.2.2.2.2.1
      clear m2
      have hq : ((((packN A B C D : Nat) : Int) == ((packN A' B' C' D' : Nat) : Int)) == ptEq (A : Int) (B : Int) (C : Int) (D : Int) (A' : Int) (B' : Int) (C' : Int) (D' : Int)) = true := by
        rw [beq_iff_eq, Bool.eq_iff_iff, beq_iff_eq, ptEq_iff]
        constructor
        · intro e
          obtain ⟨rfl, rfl, rfl, rfl⟩ := pack_inj h1 h2 (by omega)
          exact ⟨rfl, rfl, rfl, rfl⟩
        · rintro ⟨e1, e2, e3, e4⟩
          obtain rfl : A = A' := by omega
          obtain rfl : B = B' := by omega
          obtain rfl : C = C' := by omega
          obtain rfl : D = D' := by omega
          rfl
      have H1 := hid h1
      have H2 := hid h2
      clear h1 h2
      have HQ := hid hq
      clear hq
      go_enter Try.func10, Try.ntmps10
      go_wp2_with fail
      refine (awake2_any _).mono ?_
      rintro e w1 ⟨rfl, hn1⟩
      obtain ⟨hc1, hf1⟩ := New.cells hn1
      have hs1 := New.size hn1
      try simp only [World.size_alloc, size_drewN, size_drew, size_setCell] at hc1 hf1 hs1
      try have hz1_w_1 : w.heap.size + 1 < w1.heap.size := by omega
      try have hz1_w : w.heap.size < w1.heap.size := by omega
      go_wp2_with fail
      refine (pack_yes A B C D H1.out _).mono ?_
      rintro e w2 ⟨rfl, hn2⟩
      obtain ⟨hc2, hf2⟩ := New.cells hn2
      have hs2 := New.size hn2
      try simp only [World.size_alloc, size_drewN, size_drew, size_setCell] at hc2 hf2 hs2
      try have hz2_w_1 : w.heap.size + 1 < w2.heap.size := by omega
      try have hz2_w : w.heap.size < w2.heap.size := by omega
      go_wp2_with fail
      refine (pack_yes A' B' C' D' H2.out _).mono ?_
      rintro e w3 ⟨rfl, hn3⟩
      obtain ⟨hc3, hf3⟩ := New.cells hn3
      have hs3 := New.size hn3
      try simp only [World.size_alloc, size_drewN, size_drew, size_setCell] at hc3 hf3 hs3
      try have hz3_w_1 : w.heap.size + 1 < w3.heap.size := by omega
      try have hz3_w : w.heap.size < w3.heap.size := by omega
      have hq := HQ.out
      go_wp2_with fail
      go_ret
      refine ⟨rfl, ?_⟩
      (repeat (first | exact New.refl _ | (refine New.step ?_ (by assumption)) | apply New.alloc | apply New.drewN | apply New.drew))
    · have h2' : mayB a' b' c' d' = false := by simpa using h2
      have H1 := hid h1
      clear h1 h2
      go_enter Try.func10, Try.ntmps10
      go_wp2_with fail
      refine (awake2_any _).mono ?_
      rintro e w4 ⟨rfl, hn4⟩
      obtain ⟨hc4, hf4⟩ := New.cells hn4
      have hs4 := New.size hn4
      try simp only [World.size_alloc, size_drewN, size_drew, size_setCell] at hc4 hf4 hs4
      try have hz4_w_1 : w.heap.size + 1 < w4.heap.size := by omega
      try have hz4_w : w.heap.size < w4.heap.size := by omega
      go_wp2_with fail
      refine (pack_yes A B C D H1.out _).mono ?_
      rintro e w5 ⟨rfl, hn5⟩
      obtain ⟨hc5, hf5⟩ := New.cells hn5
      have hs5 := New.size hn5
      try simp only [World.size_alloc, size_drewN, size_drew, size_setCell] at hc5 hf5 hs5
      try have hz5_w_1 : w.heap.size + 1 < w5.heap.size := by omega
      try have hz5_w : w.heap.size < w5.heap.size := by omega
      go_wp2_with fail
      refine (pack_no a' b' c' d' h2' _).mono ?_
      rintro e w6 ⟨rfl, hn6⟩
      obtain ⟨hc6, hf6⟩ := New.cells hn6
      have hs6 := New.size hn6
      try simp only [World.size_alloc, size_drewN, size_drew, size_setCell] at hc6 hf6 hs6
      try have hz6_w_1 : w.heap.size + 1 < w6.heap.size := by omega
      try have hz6_w : w.heap.size < w6.heap.size := by omega
      go_wp2
      go_ret
      refine ⟨rfl, ?_⟩
      (repeat (first | exact New.refl _ | (refine New.step ?_ (by assumption)) | apply New.alloc | apply New.drewN | apply New.drew))
  · have h1' : mayB a b c d = false := by simpa using h1
    clear h1
    by_cases h2 : mayB a' b' c' d' = true
    · have m2 := mayB_iff.1 h2
      obtain ⟨A', rfl⟩ := Int.eq_ofNat_of_zero_le m2.1
      obtain ⟨B', rfl⟩ := Int.eq_ofNat_of_zero_le m2.2.2.1
      obtain ⟨C', rfl⟩ := Int.eq_ofNat_of_zero_le m2.2.2.2.2.1
      obtain ⟨D', rfl⟩ := Int.eq_ofNat_of_zero_le m2.2.2.2.2.2.2.1
      have H2 := hid h2
      clear m2 h2
      go_enter Try.func10, Try.ntmps10
      go_wp2_with fail
      refine (awake2_any _).mono ?_
      rintro e w7 ⟨rfl, hn7⟩
      obtain ⟨hc7, hf7⟩ := New.cells hn7
      have hs7 := New.size hn7
      try simp only [World.size_alloc, size_drewN, size_drew, size_setCell] at hc7 hf7 hs7
      try have hz7_w_1 : w.heap.size + 1 < w7.heap.size := by omega
      try have hz7_w : w.heap.size < w7.heap.size := by omega
      go_wp2_with fail
      refine (pack_no a b c d h1' _).mono ?_
      rintro e w8 ⟨rfl, hn8⟩
      obtain ⟨hc8, hf8⟩ := New.cells hn8
      have hs8 := New.size hn8
      try simp only [World.size_alloc, size_drewN, size_drew, size_setCell] at hc8 hf8 hs8
      try have hz8_w_1 : w.heap.size + 1 < w8.heap.size := by omega
      try have hz8_w : w.heap.size < w8.heap.size := by omega
      go_wp2_with fail
      refine (pack_yes A' B' C' D' H2.out _).mono ?_
      rintro e w9 ⟨rfl, hn9⟩
      obtain ⟨hc9, hf9⟩ := New.cells hn9
      have hs9 := New.size hn9
      try simp only [World.size_alloc, size_drewN, size_drew, size_setCell] at hc9 hf9 hs9
      try have hz9_w_1 : w.heap.size + 1 < w9.heap.size := by omega
      try have hz9_w : w.heap.size < w9.heap.size := by omega
      go_wp2
      go_ret
      refine ⟨rfl, ?_⟩
      (repeat (first | exact New.refl _ | (refine New.step ?_ (by assumption)) | apply New.alloc | apply New.drewN | apply New.drew))
    · have h2' : mayB a' b' c' d' = false := by simpa using h2
      clear h2
      go_enter Try.func10, Try.ntmps10
      go_wp2_with fail
      refine (awake2_any _).mono ?_
      rintro e w10 ⟨rfl, hn10⟩
      obtain ⟨hc10, hf10⟩ := New.cells hn10
      have hs10 := New.size hn10
      try simp only [World.size_alloc, size_drewN, size_drew, size_setCell] at hc10 hf10 hs10
      try have hz10_w_1 : w.heap.size + 1 < w10.heap.size := by omega
      try have hz10_w : w.heap.size < w10.heap.size := by omega
      go_wp2_with fail
      refine (pack_no a b c d h1' _).mono ?_
      rintro e w11 ⟨rfl, hn11⟩
      obtain ⟨hc11, hf11⟩ := New.cells hn11
      have hs11 := New.size hn11
      try simp only [World.size_alloc, size_drewN, size_drew, size_setCell] at hc11 hf11 hs11
      try have hz11_w_1 : w.heap.size + 1 < w11.heap.size := by omega
      try have hz11_w : w.heap.size < w11.heap.size := by omega
      go_wp2_with fail
      refine (pack_no a' b' c' d' h2' _).mono ?_
      rintro e w12 ⟨rfl, hn12⟩
      obtain ⟨hc12, hf12⟩ := New.cells hn12
      have hs12 := New.size hn12
      try simp only [World.size_alloc, size_drewN, size_drew, size_setCell] at hc12 hf12 hs12
      try have hz12_w_1 : w.heap.size + 1 < w12.heap.size := by omega
      try have hz12_w : w.heap.size < w12.heap.size := by omega
      go_wp2
      go_ret
      refine ⟨rfl, ?_⟩
      (repeat (first | exact New.refl _ | (refine New.step ?_ (by assumption)) | apply New.alloc | apply New.drewN | apply New.drew))
theorem pointApart_row {H : Type} {enc : TypeId × Value → H} (W : World) {base : Nat}
    (v0 : Value) (d0 : DataW H) (p0 : List MemPlace) (k0 : Value.okWide Try.prog W .any base 47 v0) (h0 : DataW.Trod enc Try.prog W 0 (fun _ => true) true 47 v0 d0 p0) (l0 : ∀ x ∈ p0, x.block < W.heap.size)
    (v1 : Value) (d1 : DataW H) (p1 : List MemPlace) (k1 : Value.okWide Try.prog W .any base 47 v1) (h1 : DataW.Trod enc Try.prog W 0 (fun _ => true) true 47 v1 d1 p1) (l1 : ∀ x ∈ p1, x.block < W.heap.size)
    : Calls Try.prog 10 #[v0, v1] W fun e W' => e = .returned (.bool true) ∧ Below W.heap.size W W' := by
  obtain ⟨a, b, c, d, rfl, _⟩ := open_pt k0 h0
  obtain ⟨a', b', c', d', rfl, _⟩ := open_pt k1 h1
  exact pointApart_walk a b c d a' b' c' d' W
end Go.Proofs.Ytojlafkiaibeeaa.Law
