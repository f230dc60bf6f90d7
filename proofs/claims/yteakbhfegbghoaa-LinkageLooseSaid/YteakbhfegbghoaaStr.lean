/- Texts as lists of bytes: their equality and order as the walk spells them. Plain laws over any program. -/
import Derived.Test.YteakbhfegbghoaaKit
import Derived.Lib.Strings
import Derived.Lib.Bytealg
import Derived.Sort.Walk0
import Derived.Laws.Cover1
namespace Go.Proofs.Yteakbhfegbghoaa.Str
open Go Go.RowKit Go.Proofs.Yteakbhfegbghoaa.Kit
set_option linter.unusedSimpArgs false
set_option linter.unusedVariables false
/-- A text as a value. -/
abbrev st (l : List UInt8) : Value := .string ⟨l.toArray⟩
@[go_sem] theorem st_toList (l : List UInt8) : (ByteArray.mk l.toArray).toList = l := by rw [ByteArray.toList_eq]
theorem st_inj {a b : List UInt8} (h : st a = st b) : a = b := by
  injection h with h
  injection h with h
  simpa using congrArg Array.toList h
/-- Go's order of texts, under a name that simp does not part. -/
def ltB (a b : List UInt8) : Bool := Op.bytesLess a b
@[go_sem] theorem ltB_eq (a b : List UInt8) : Op.bytesLess a b = ltB a b := rfl
theorem ltB_iff {a b : List UInt8} : ltB a b = true ↔ a < b := by unfold ltB; rw [Go.Proofs.bytesLess_eq]; exact decide_eq_true_iff
theorem ltB_trans {a b c : List UInt8} (h : ltB a b = true) (k : ltB b c = true) : ltB a c = true := ltB_iff.2 (List.lt_trans (ltB_iff.1 h) (ltB_iff.1 k))
theorem ltB_irrefl (a : List UInt8) : ltB a a = false := by
  cases h : ltB a a with
  | false => rfl
  | true => exact absurd (ltB_iff.1 h) (List.lt_irrefl a)
theorem ltB_asymm {a b : List UInt8} (h : ltB a b = true) : ltB b a = false := by
  cases k : ltB b a with
  | false => rfl
  | true => have := ltB_trans h k; rw [ltB_irrefl] at this; cases this
theorem ltB_ne {a b : List UInt8} (h : ltB a b = true) : a ≠ b := by rintro rfl; rw [ltB_irrefl] at h; cases h
theorem ltB_total : ∀ {a b : List UInt8}, a ≠ b → ltB a b = false → ltB b a = true
  | [], [], h, _ => absurd rfl h
  | [], _ :: _, _, k => by simp [ltB, Op.bytesLess] at k
  | _ :: _, [], _, _ => by simp [ltB, Op.bytesLess]
  | x :: a, y :: b, h, k => by
    have ih := @ltB_total a b
    unfold ltB at ih k ⊢
    unfold Op.bytesLess at k ⊢
    by_cases h1 : x < y
    · simp [h1] at k
    · by_cases h2 : y < x
      · simp [h2]
      · have h3 : x = y := UInt8.le_antisymm (UInt8.not_lt.1 h2) (UInt8.not_lt.1 h1)
        subst h3
        simp [h1] at k ⊢
        exact ih (fun e => h (by rw [e])) k
/-- What strings.Compare answers. -/
theorem cmp_lt : ∀ {a b : List UInt8}, Lib.compareBytes a b = -1 ↔ ltB a b = true
  | [], [] => by simp [Lib.compareBytes, ltB, Op.bytesLess]
  | [], _ :: _ => by simp [Lib.compareBytes, ltB, Op.bytesLess]
  | _ :: _, [] => by simp [Lib.compareBytes, ltB, Op.bytesLess]
  | x :: a, y :: b => by
    have ih := cmp_lt (a := a) (b := b)
    unfold ltB at ih ⊢
    unfold Lib.compareBytes Op.bytesLess
    by_cases h1 : x < y
    · simp [h1]
    · by_cases h2 : y < x
      · have h3 : ¬ x = y := fun e => UInt8.lt_irrefl y (by rw [e] at h2; exact h2)
        simp [h1, h2, h3]
      · have h3 : x = y := UInt8.le_antisymm (UInt8.not_lt.1 h2) (UInt8.not_lt.1 h1)
        subst h3
        simp [h1, ih]
theorem cmp_eq : ∀ {a b : List UInt8}, Lib.compareBytes a b = 0 ↔ a = b
  | [], [] => by simp [Lib.compareBytes]
  | [], _ :: _ => by simp [Lib.compareBytes]
  | _ :: _, [] => by simp [Lib.compareBytes]
  | x :: a, y :: b => by
    have ih := cmp_eq (a := a) (b := b)
    unfold Lib.compareBytes
    by_cases h1 : x < y
    · have h3 : ¬ x = y := fun e => UInt8.lt_irrefl y (by rw [e] at h1; exact h1)
      simp [h1, h3]
    · by_cases h2 : y < x
      · have h3 : ¬ x = y := fun e => UInt8.lt_irrefl y (by rw [e] at h2; exact h2)
        simp [h1, h2, h3]
      · have h3 : x = y := UInt8.le_antisymm (UInt8.not_lt.1 h2) (UInt8.not_lt.1 h1)
        subst h3
        simp [h1, ih]
theorem cmp_cases : ∀ (a b : List UInt8), Lib.compareBytes a b = -1 ∨ Lib.compareBytes a b = 0 ∨ Lib.compareBytes a b = 1
  | [], [] => by simp [Lib.compareBytes]
  | [], _ :: _ => by simp [Lib.compareBytes]
  | _ :: _, [] => by simp [Lib.compareBytes]
  | x :: a, y :: b => by
    have ih := cmp_cases a b
    unfold Lib.compareBytes
    split
    · exact .inl rfl
    · split
      · exact .inr (.inr rfl)
      · exact ih
theorem cmp_val (a b : List UInt8) : (ltB a b = true ∧ Lib.compareBytes a b = -1) ∨ (a = b ∧ Lib.compareBytes a b = 0) ∨ (ltB b a = true ∧ Lib.compareBytes a b = 1) := by
  rcases cmp_cases a b with h | h | h
  · exact .inl ⟨cmp_lt.1 h, h⟩
  · exact .inr (.inl ⟨cmp_eq.1 h, h⟩)
  · refine .inr (.inr ⟨ltB_total (fun e => ?_) ?_, h⟩)
    · rw [cmp_eq.2 e] at h; cases h
    · cases k : ltB a b with
      | false => rfl
      | true => rw [cmp_lt.2 k] at h; cases h
/-- A name's sign. -/
def okB (c : UInt8) : Bool := decide (33 ≤ c.toNat) && decide (c.toNat ≤ 126) && decide (c.toNat ≠ 62)
def signsB (l : List UInt8) (most : Nat) : Bool := decide (1 ≤ l.length) && decide (l.length ≤ most) && l.all okB
def userB (l : List UInt8) : Bool := (l == [42]) || signsB l 16
theorem signsB_len {l : List UInt8} {m : Nat} (h : signsB l m = true) : 1 ≤ l.length ∧ l.length ≤ m := by
  simp only [signsB, Bool.and_eq_true, decide_eq_true_eq] at h
  exact h.1
end Go.Proofs.Yteakbhfegbghoaa.Str
