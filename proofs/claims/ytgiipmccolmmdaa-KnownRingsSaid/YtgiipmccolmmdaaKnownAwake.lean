/- The example that every law of layer 12 opens with. -/
import Derived.Test.YtgiipmccolmmdaaKnown
namespace Go.Proofs.Ytgiipmccolmmdaa.Law
open Go Go.RowKit Go.Proofs.Ytgiipmccolmmdaa.Kit Go.Proofs.Ytgiipmccolmmdaa.Known
set_option linter.unusedSimpArgs false
set_option linter.unusedVariables false
set_option maxRecDepth 100000 in
theorem awake_any (w : World) : Calls Try.prog 7 #[] w fun e w' => e = .returned (.bool true) ∧ New w w' := by
  go_enter Try.func7, Try.ntmps7
  go_wp2_with fail
  refine (new_any w).mono ?_
  rintro e w1 ⟨rfl, n1, a1⟩
  have hb : ∀ i, i = w.heap.size + 1 ∨ i = w.heap.size → w.heap.size ≤ i := by omega
  go_wp2_with fail
  refine (add_new w1 _ _ _ a1 7 1 4 (by decide) (by decide) (by decide) (by decide) (by decide) rfl rfl (fun a h1 h2 => by omega)).mono ?_
  rintro e w2 ⟨rfl, a2, k2⟩
  have n2 := n1.kept k2 hb
  go_wp2_with fail
  refine (add_again w2 _ _ _ a2 7 1 4 (by decide) (by decide) (by decide) (by decide) (by decide) rfl (by decide)).mono ?_
  rintro e w3 ⟨rfl, a3, k3⟩
  have n3 := n2.kept k3 hb
  have l4 : lastB (incS (addS new 7 1 4) 1 4) 1 4 = false := by decide
  have q4 := drop_yes w3 _ _ _ a3 1 4 (by decide) (by decide) (by decide) (by decide)
  rw [l4] at q4
  go_wp2_with fail
  refine (q4).mono ?_
  rintro e w4 ⟨rfl, a4, k4⟩
  have n4 := n3.kept k4 hb
  have l5 : lastB (dropS (incS (addS new 7 1 4) 1 4) 1 4) 1 4 = true := by decide
  have q5 := drop_yes w4 _ _ _ a4 1 4 (by decide) (by decide) (by decide) (by decide)
  rw [l5] at q5
  go_wp2_with fail
  refine (q5).mono ?_
  rintro e w5 ⟨rfl, a5, k5⟩
  have n5 := n4.kept k5 hb
  have l6 : allL (dropS (dropS (incS (addS new 7 1 4) 1 4) 1 4) 1 4) 64 = [] := by decide
  have q6 := all_any w5 _ _ _ a5
  rw [l6] at q6
  go_wp2_with fail
  refine (q6).mono ?_
  rintro e w6 ⟨v, rfl, hs, n6⟩
  obtain ⟨oa, oc, rfl⟩ : ∃ oa oc, v = .slice oa (([] : List Nat).length) oc := by
    rcases hs.2 with ⟨e, h0⟩ | ⟨g, o2, cap, cur, e, _⟩
    · exact ⟨none, 0, by rw [e, h0]⟩
    · exact ⟨_, _, e⟩
  have hl : ([] : List Nat).length = 0 := rfl
  rw [hl]
  go_wp2
  go_ret
  exact ⟨rfl, n5.step n6⟩
end Go.Proofs.Ytgiipmccolmmdaa.Law
