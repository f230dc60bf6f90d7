/- The law's example (awake); two areas side by side; AreaKnown. -/
import Derived.Test.YteakbhfegbghoaaAreaA
namespace Go.Proofs.Yteakbhfegbghoaa.Law
open Go Go.RowKit Go.ChangeShapes Go.WideShapes Go.Proofs.Yteakbhfegbghoaa.Kit Go.Proofs.Yteakbhfegbghoaa.Area
set_option linter.unusedSimpArgs false
set_option linter.unusedVariables false
abbrev tk (N : Nat) (ms : Ms) (n : Int) (b e : Int) (ms' : Ms) : Prop := takeB N ms n = b ∧ takeE N ms n = e ∧ takeM N ms n = ms'
theorem takeT {w0 : World} {A N : Nat} {ms ms' : Ms} {n b e : Int} (h : tk N ms n b e ms') (w : World) (hs : Since w0 w A N ms) (hN : N ≤ 100000) :
    Calls Try.prog 33 #[.pointer (some ⟨A, 0, none⟩), .int .i64 n] w fun x w' => x = .returned (.tuple #[.int .i64 b, .int .i64 e]) ∧ Since w0 w' A N ms' := by
  rw [← h.1, ← h.2.1, ← h.2.2]
  exact takeS w hs hN n
theorem giveT {w0 : World} {A N : Nat} {ms ms' : Ms} {b : Int} {ok : Bool} (h : (findM ms b).isSome = ok ∧ giveM ms b = ms') (w : World) (hs : Since w0 w A N ms) (hN : N ≤ 100000) :
    Calls Try.prog 36 #[.pointer (some ⟨A, 0, none⟩), .int .i64 b] w fun x w' => x = .returned (.bool ok) ∧ Since w0 w' A N ms' := by
  rw [← h.1, ← h.2]
  exact giveS w hs hN b
theorem usedT {w0 : World} {A N n : Nat} {ms : Ms} (h : usedM ms = n) (w : World) (hs : Since w0 w A N ms) (hN : N ≤ 100000) :
    Calls Try.prog 37 #[.pointer (some ⟨A, 0, none⟩)] w fun x w' => x = .returned (.int .i64 (n : Int)) ∧ New w w' := by
  rw [← h]
  exact usedS w hs hN
end Go.Proofs.Yteakbhfegbghoaa.Law
