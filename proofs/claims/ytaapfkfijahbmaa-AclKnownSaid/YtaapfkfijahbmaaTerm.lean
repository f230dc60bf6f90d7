/- Terms and lists of terms: plain laws, no program. -/
import Derived.Test.YtaapfkfijahbmaaStr
import Derived.Test.YtaapfkfijahbmaaLs
namespace Go.Proofs.Ytaapfkfijahbmaa.Term
open Go Go.RowKit Go.Proofs.Ytaapfkfijahbmaa.Kit Go.Proofs.Ytaapfkfijahbmaa.Str
set_option linter.unusedSimpArgs false
set_option linter.unusedVariables false
abbrev Fl := Bool × Bool × Bool
abbrev Tm := List UInt8 × Fl
abbrev fv (f : Fl) : Value := .agg #[.bool f.1, .bool f.2.1, .bool f.2.2]
abbrev tv (t : Tm) : Value := .agg #[st t.1, .bool t.2.1, .bool t.2.2.1, .bool t.2.2.2]
def tc (t : Tm) : List Value := [st t.1, .bool t.2.1, .bool t.2.2.1, .bool t.2.2.2]
theorem tc_len (t : Tm) : (tc t).length = 4 := rfl
theorem tc_one (t : Tm) : ∀ u ∈ tc t, u.oneCell' = true := by
  intro u hu
  simp only [tc, List.mem_cons, List.not_mem_nil, or_false] at hu
  rcases hu with rfl | rfl | rfl | rfl <;> rfl
def MayP (l : List Tm) : Prop := l.length ≤ 16 ∧ ∀ (i : Nat) (t : Tm), l[i]? = some t → userB t.1 = true ∧ ∀ s : Tm, 0 < i → l[i - 1]? = some s → ltB s.1 t.1 = true
open Classical in
noncomputable def mayL (l : List Tm) : Bool := decide (MayP l)
theorem mayL_iff {l : List Tm} : mayL l = true ↔ MayP l := by unfold mayL; simp
theorem mayL_no {l : List Tm} : mayL l = false ↔ ¬ MayP l := by unfold mayL; simp
end Go.Proofs.Ytaapfkfijahbmaa.Term
