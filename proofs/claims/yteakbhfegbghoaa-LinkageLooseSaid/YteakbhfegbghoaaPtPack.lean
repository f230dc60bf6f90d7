/- The fields of a packed pointer. -/
import Derived.Test.YteakbhfegbghoaaPoint
namespace Go.Proofs.Yteakbhfegbghoaa.Link
open Go Go.RowKit Go.Proofs.Yteakbhfegbghoaa.Wd Go.Proofs.Yteakbhfegbghoaa.Word Go.Proofs.Yteakbhfegbghoaa.Kit Go.Proofs.Yteakbhfegbghoaa.Point
set_option linter.unusedSimpArgs false
set_option linter.unusedVariables false
/-- A field out of a word into which fields were put one behind the other. -/
theorem pack_bit (a b c d : Nat) (i : Nat) (hi : i < 36) : (packN a b c d).testBit i = if i < 18 then d.testBit i else if i < 21 then c.testBit (i - 18) else if i < 24 then b.testBit (i - 21) else a.testBit (i - 24) := by
  unfold packN
  rw [testBit_putN (by omega) i hi, testBit_putN (by omega) i hi, testBit_putN (by omega) i hi, testBit_putN (by omega) i hi]
  by_cases h1 : i < 18
  · rw [if_pos (by omega), if_pos h1]; rfl
  rw [if_neg (by omega), if_neg h1]
  by_cases h2 : i < 21
  · rw [if_pos (by omega), if_pos h2]
  rw [if_neg (by omega), if_neg h2]
  by_cases h3 : i < 24
  · rw [if_pos (by omega), if_pos h3]
  · rw [if_neg (by omega), if_neg h3, if_pos (by omega)]
theorem get_pack0 {a b c d : Nat} (h : mayB a b c d = true) : getN (packN a b c d) 0 12 = a ∧ getN (packN a b c d) 12 3 = b ∧ getN (packN a b c d) 15 3 = c ∧ getN (packN a b c d) 18 18 = d := by
  have hm := mayB_iff.1 h
  refine ⟨?_, ?_, ?_, ?_⟩
  · apply Nat.eq_of_testBit_eq; intro i
    rw [testBit_getN]
    by_cases hi : i < 12
    · rw [pack_bit _ _ _ _ _ (by omega), if_neg (by omega), if_neg (by omega), if_neg (by omega), show i + (36 - 0 - 12) - 24 = i by omega]; simp [hi]
    · rw [testBit_high (x := a) (k := 12) (by omega) (by omega)]; simp [hi]
  · apply Nat.eq_of_testBit_eq; intro i
    rw [testBit_getN]
    by_cases hi : i < 3
    · rw [pack_bit _ _ _ _ _ (by omega), if_neg (by omega), if_neg (by omega), if_pos (by omega), show i + (36 - 12 - 3) - 21 = i by omega]; simp [hi]
    · rw [testBit_high (x := b) (k := 3) (by omega) (by omega)]; simp [hi]
  · apply Nat.eq_of_testBit_eq; intro i
    rw [testBit_getN]
    by_cases hi : i < 3
    · rw [pack_bit _ _ _ _ _ (by omega), if_neg (by omega), if_pos (by omega), show i + (36 - 15 - 3) - 18 = i by omega]; simp [hi]
    · rw [testBit_high (x := c) (k := 3) (by omega) (by omega)]; simp [hi]
  · apply Nat.eq_of_testBit_eq; intro i
    rw [testBit_getN]
    by_cases hi : i < 18
    · rw [pack_bit _ _ _ _ _ (by omega), if_pos (by omega), show i + (36 - 18 - 18) = i by omega]; simp [hi]
    · rw [testBit_high (x := d) (k := 18) (by omega) (by omega)]; simp [hi]
theorem pack_lt {a b c d : Nat} (h : mayB a b c d = true) : packN a b c d < 68719476736 := by
  have hm := mayB_iff.1 h
  have p1 := putN_lt 0 0 12 a (by omega)
  have p2 := putN_lt (putN 0 0 12 a) 12 3 b (by omega)
  have p3 := putN_lt (putN (putN 0 0 12 a) 12 3 b) 15 3 c (by omega)
  exact putN_lt (putN (putN (putN 0 0 12 a) 12 3 b) 15 3 c) 18 18 d (by omega)
end Go.Proofs.Yteakbhfegbghoaa.Link
