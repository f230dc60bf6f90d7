/- The walk of CodeFields. -/
import Derived.Test.YtlacegnhfgnlgaaDoorCodeAwake
namespace Go.Proofs.YtlacegnhfgnlgaaDoor.Law
open Go Go.RowKit Go.Proofs.YtlacegnhfgnlgaaDoor.Wd Go.Proofs.YtlacegnhfgnlgaaDoor.Word Go.Proofs.YtlacegnhfgnlgaaDoor.Kit Go.Proofs.YtlacegnhfgnlgaaDoor.Code
set_option linter.unusedSimpArgs false
set_option linter.unusedVariables false
theorem get_put {w at_ n v : Nat} (h : at_ + n ≤ 36) : getN (putN w at_ n v) at_ n = v % 2 ^ n := by
  apply Nat.eq_of_testBit_eq
  intro i
  rw [testBit_getN, Nat.testBit_mod_two_pow]
  by_cases c : i < n
  · rw [testBit_putN h _ (by omega), if_pos (by omega), show i + (36 - at_ - n) - (36 - at_ - n) = i by omega]
  · simp [c]
theorem get_other {w at_ n v a k : Nat} (hw : w < 68719476736) (h : at_ + n ≤ 36) (h' : a + k ≤ 36) (hd : a + k ≤ at_ ∨ at_ + n ≤ a) : getN (putN w at_ n v) a k = getN w a k := by
  apply Nat.eq_of_testBit_eq
  intro i
  rw [testBit_getN, testBit_getN]
  by_cases c : i < k
  · rw [testBit_putN h _ (by omega), if_neg (by omega)]
  · simp [c]
theorem get_zero (a k : Nat) : getN 0 a k = 0 := by unfold getN; simp
theorem code_get {a b c d : Nat} (ha : a < 64) (hb : b < 8) (hc : c < 8) (hd : d < 262144) :
    getN (codeN a b c d) 0 6 = a ∧ getN (codeN a b c d) 6 3 = b ∧ getN (codeN a b c d) 9 3 = c ∧ getN (codeN a b c d) 12 6 = 0 ∧ getN (codeN a b c d) 18 18 = d := by
  have p1 := putN_lt 0 0 6 a (by omega)
  have p2 := putN_lt (putN 0 0 6 a) 6 3 b (by omega)
  have p3 := putN_lt (putN (putN 0 0 6 a) 6 3 b) 9 3 c (by omega)
  unfold codeN
  refine ⟨?_, ?_, ?_, ?_, ?_⟩
  · rw [get_other p3 (by omega) (by omega) (by omega), get_other p2 (by omega) (by omega) (by omega), get_other p1 (by omega) (by omega) (by omega), get_put (by omega)]
    omega
  · rw [get_other p3 (by omega) (by omega) (by omega), get_other p2 (by omega) (by omega) (by omega), get_put (by omega)]
    omega
  · rw [get_other p3 (by omega) (by omega) (by omega), get_put (by omega)]
    omega
  · rw [get_other p3 (by omega) (by omega) (by omega), get_other p2 (by omega) (by omega) (by omega), get_other p1 (by omega) (by omega) (by omega), get_other (by decide) (by omega) (by omega) (by omega), get_zero]
  · rw [get_put (by omega)]
    omega
theorem code_inj {a b c d a' b' c' d' : Nat} (ha : a < 64) (hb : b < 8) (hc : c < 8) (hd : d < 262144) (ha' : a' < 64) (hb' : b' < 8) (hc' : c' < 8) (hd' : d' < 262144) (h : codeN a b c d = codeN a' b' c' d') : a = a' ∧ b = b' ∧ c = c' ∧ d = d' := by
  have h1 := code_get ha hb hc hd
  have h2 := code_get ha' hb' hc' hd'
  rw [h] at h1
  exact ⟨h1.1.symm.trans h2.1, h1.2.1.symm.trans h2.2.1, h1.2.2.1.symm.trans h2.2.2.1, h1.2.2.2.2.symm.trans h2.2.2.2.2⟩
theorem code_lt (a b c d : Nat) : codeN a b c d < 68719476736 := putN_lt _ _ _ _ (by omega)
set_option maxHeartbeats 2000000 in
theorem codeFields_walk (a b c d a' b' c' d' : Int) (w : World) (h : Tab w) : Calls Tryd.prog 3 #[inst a b c d, inst a' b' c' d'] w fun e w' => e = .returned (.bool true) ∧ New w w' := by
  have n2 : New w ((w.alloc (.cells #[.int .i64 a, .int .i64 b, .int .i64 c, .int .i64 d] 23)).alloc (.cells #[.int .i64 a', .int .i64 b', .int .i64 c', .int .i64 d'] 23)) := ((New.refl w).alloc _).alloc _
  have hA := ((Blk.new w 23 #[.int .i64 a, .int .i64 b, .int .i64 c, .int .i64 d]).alloc (.cells #[.int .i64 a', .int .i64 b', .int .i64 c', .int .i64 d'] 23))
  have hB := Blk.new (w.alloc (.cells #[.int .i64 a, .int .i64 b, .int .i64 c, .int .i64 d] 23)) 23 #[.int .i64 a', .int .i64 b', .int .i64 c', .int .i64 d']
  rw [World.size_alloc] at hB
  have HT := hid (h.new_ n2)
  have HB := hid (And.intro hA (And.intro hB n2))
  have cells : Hid (∀ (X : World) (D : Nat) (a b c d : Int), Blk X D 23 #[.int .i64 a, .int .i64 b, .int .i64 c, .int .i64 d] → X.cell? ⟨D, 0, none⟩ = some (.int .i64 a) ∧ X.cell? ⟨D, 1, none⟩ = some (.int .i64 b) ∧ X.cell? ⟨D, 2, none⟩ = some (.int .i64 c) ∧ X.cell? ⟨D, 3, none⟩ = some (.int .i64 d)) := by
    intro X D a b c d hX
    refine ⟨?_, ?_, ?_, ?_⟩ <;> (rw [hX.cell]; rfl)
  clear h hA hB n2
  go_enter Tryd.func3, Tryd.ntmps3
  go_wp2_with fail
  refine (awake_any _ HT.out).mono ?_
  rintro e w3 ⟨rfl, n3⟩
  obtain ⟨e0, e1, e2, e3⟩ := cells.out _ _ _ _ _ _ (HB.out.1.new_ n3)
  obtain ⟨f0, f1, f2, f3⟩ := cells.out _ _ _ _ _ _ (HB.out.2.1.new_ n3)
  have H3 := hid n3
  clear n3
  go_wp2_with fail
  cases hm : mayB a b c d with
  | false =>
    refine (word_no _ _ _ _ hm _).mono ?_
    rintro e w4 ⟨rfl, n4⟩
    obtain ⟨g0, g1, g2, g3⟩ := cells.out _ _ _ _ _ _ ((HB.out.2.1.new_ H3.out).new_ n4)
    have H4 := hid (H3.out.step n4)
    clear n4 hm
    go_wp2_with fail
    cases hm' : mayB a' b' c' d' with
    | false =>
      refine (word_no _ _ _ _ hm' _).mono ?_
      rintro e w5 ⟨rfl, n5⟩
      have H5 := hid (HB.out.2.2.step (H4.out.step n5))
      clear n5
      go_wp2
      go_ret
      exact ⟨rfl, H5.out⟩
    | true =>
      have hr := may_range hm'
      obtain ⟨p, rfl⟩ := Int.eq_ofNat_of_zero_le hr.1
      obtain ⟨q, rfl⟩ := Int.eq_ofNat_of_zero_le hr.2.2.1
      obtain ⟨r, rfl⟩ := Int.eq_ofNat_of_zero_le hr.2.2.2.2.1
      obtain ⟨s, rfl⟩ := Int.eq_ofNat_of_zero_le hr.2.2.2.2.2.2.1
      refine (word_yes p q r s hm' _).mono ?_
      rintro e w5 ⟨rfl, n5⟩
      have H5 := hid (HB.out.2.2.step (H4.out.step n5))
      clear n5 hm' hr
      go_wp2
      go_ret
      exact ⟨rfl, H5.out⟩
  | true =>
    have hr := may_range hm
    obtain ⟨p, rfl⟩ := Int.eq_ofNat_of_zero_le hr.1
    obtain ⟨q, rfl⟩ := Int.eq_ofNat_of_zero_le hr.2.2.1
    obtain ⟨r, rfl⟩ := Int.eq_ofNat_of_zero_le hr.2.2.2.2.1
    obtain ⟨s, rfl⟩ := Int.eq_ofNat_of_zero_le hr.2.2.2.2.2.2.1
    refine (word_yes p q r s hm _).mono ?_
    rintro e w4 ⟨rfl, n4⟩
    have HR := hid hr
    obtain ⟨g0, g1, g2, g3⟩ := cells.out _ _ _ _ _ _ ((HB.out.2.1.new_ H3.out).new_ n4)
    have H4 := hid (H3.out.step n4)
    clear n4 hm hr
    go_wp2_with fail
    cases hm' : mayB a' b' c' d' with
    | false =>
      refine (word_no _ _ _ _ hm' _).mono ?_
      rintro e w5 ⟨rfl, n5⟩
      have H5 := hid (HB.out.2.2.step (H4.out.step n5))
      clear n5
      go_wp2
      go_ret
      exact ⟨rfl, H5.out⟩
    | true =>
      have hr' := may_range hm'
      obtain ⟨p', rfl⟩ := Int.eq_ofNat_of_zero_le hr'.1
      obtain ⟨q', rfl⟩ := Int.eq_ofNat_of_zero_le hr'.2.2.1
      obtain ⟨r', rfl⟩ := Int.eq_ofNat_of_zero_le hr'.2.2.2.2.1
      obtain ⟨s', rfl⟩ := Int.eq_ofNat_of_zero_le hr'.2.2.2.2.2.2.1
      refine (word_yes p' q' r' s' hm' _).mono ?_
      rintro e w5 ⟨rfl, n5⟩
      have hr := HR.out
      have k1 : p < 64 := by omega
      have k2 : q < 8 := by omega
      have k3 : r < 8 := by omega
      have k4 : s < 262144 := by omega
      have hg := code_get k1 k2 k3 k4
      have hinj := code_inj k1 k2 k3 k4 (show p' < 64 by omega) (show q' < 8 by omega) (show r' < 8 by omega) (show s' < 262144 by omega)
      have hlt := code_lt p q r s
      have q1 := fun w => Ref1.get_yes_any (codeN p q r s) 0 6 (by omega) (by omega) (by omega) w
      have q2 := fun w => Ref1.get_yes_any (codeN p q r s) 6 3 (by omega) (by omega) (by omega) w
      have q3 := fun w => Ref1.get_yes_any (codeN p q r s) 9 3 (by omega) (by omega) (by omega) w
      have q4 := fun w => Ref1.get_yes_any (codeN p q r s) 12 6 (by omega) (by omega) (by omega) w
      have q5 := fun w => Ref1.get_yes_any (codeN p q r s) 18 18 (by omega) (by omega) (by omega) w
      rw [hg.1] at q1
      rw [hg.2.1] at q2
      rw [hg.2.2.1] at q3
      rw [hg.2.2.2.1] at q4
      rw [hg.2.2.2.2] at q5
      have hsame : p = p' ∧ q = q' ∧ r = r' ∧ s = s' → codeN p q r s = codeN p' q' r' s' := by
        rintro ⟨rfl, rfl, rfl, rfl⟩
        rfl
      generalize codeN p q r s = X at *
      generalize codeN p' q' r' s' = Y at *
      obtain ⟨l0, l1, l2, l3⟩ := cells.out _ _ _ _ _ _ (HB.out.1.new_ (H4.out.step n5))
      obtain ⟨m0, m1, m2, m3⟩ := cells.out _ _ _ _ _ _ (HB.out.2.1.new_ (H4.out.step n5))
      have H5 := hid (HB.out.2.2.step (H4.out.step n5))
      have HQ := hid (And.intro q1 (And.intro q2 (And.intro q3 (And.intro q4 q5))))
      have he : ∀ w, (binOp .eql 23 (inst p q r s) (inst p' q' r' s')).run Tryd.prog w = .ok (.bool (instEq p q r s p' q' r' s')) w := fun w => eql_inst _ _ _ _ _ _ _ _ w
      have hfin : Hid (instEq (p : Int) (q : Int) (r : Int) (s : Int) (p' : Int) (q' : Int) (r' : Int) (s' : Int) = decide ((X : Int) = (Y : Int))) := by
        unfold instEq Hid
        rw [decide_eq_decide]
        constructor
        · rintro ⟨h1, h2, h3, h4⟩
          have := hsame ⟨by omega, by omega, by omega, by omega⟩
          omega
        · intro h
          have := hinj (by omega)
          omega
      clear q1 q2 q3 q4 q5 hg hinj hsame g0 g1 g2 g3 n5 hr hr' hm'
      have b1 : (p : Int) < 64 := by omega
      have b2 : (q : Int) < 8 := by omega
      have b3 : (r : Int) < 8 := by omega
      have b4 : (s : Int) < 262144 := by omega
      go_wp2_with fail
      refine (HQ.out.1 _).mono ?_
      rintro e w' ⟨rfl, rfl⟩
      go_wp2_with fail
      refine (HQ.out.2.1 _).mono ?_
      rintro e w' ⟨rfl, rfl⟩
      go_wp2_with fail
      refine (HQ.out.2.2.1 _).mono ?_
      rintro e w' ⟨rfl, rfl⟩
      go_wp2_with fail
      refine (HQ.out.2.2.2.1 _).mono ?_
      rintro e w' ⟨rfl, rfl⟩
      go_wp2_with fail
      refine (HQ.out.2.2.2.2 _).mono ?_
      rintro e w' ⟨rfl, rfl⟩
      cases hd : instEq (p : Int) (q : Int) (r : Int) (s : Int) (p' : Int) (q' : Int) (r' : Int) (s' : Int) with
      | true =>
        have hXY : (X : Int) = (Y : Int) := of_decide_eq_true (hfin.out.symm.trans hd)
        obtain rfl : X = Y := by omega
        go_wp2
        go_ret
        exact ⟨rfl, H5.out⟩
      | false =>
        have hXY : ¬ (X : Int) = (Y : Int) := of_decide_eq_false (hfin.out.symm.trans hd)
        have hXYb : ((X : Int) == (Y : Int)) = false := by rw [beq_eq_false_iff_ne]; exact hXY
        go_wp2
        go_ret
        exact ⟨rfl, H5.out⟩
end Go.Proofs.YtlacegnhfgnlgaaDoor.Law
