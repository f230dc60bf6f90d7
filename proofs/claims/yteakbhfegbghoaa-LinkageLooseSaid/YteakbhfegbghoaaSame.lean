/- concentricref1.SameWords of two equal slices. -/
import Derived.Test.YteakbhfegbghoaaProg
import Derived.Test.YteakbhfegbghoaaKit
import Derived.Test.YteakbhfegbghoaaSl
namespace Go.Proofs.Yteakbhfegbghoaa.Same
open Go Go.RowKit Go.Proofs.Yteakbhfegbghoaa.Kit
set_option linter.unusedSimpArgs false
set_option linter.unusedVariables false
/-- The words behind a slice's value. -/
def WordsAt (w : World) (v : Value) (ws : List Int) : Prop :=
  ∃ a c, v = .slice a ws.length c ∧ (0 < ws.length → ∃ b o, a = some ⟨b, o, none⟩ ∧ ∀ i, i < ws.length → w.cell? ⟨b, o + i, none⟩ = some (.int .u64 (ws.getD i 0)))
theorem WordsAt.of_sl {w : World} {base : Nat} {e : TypeId} {v : Value} {ws : List Int} (h : Sl w base e 1 v ws.length (ws.map (Value.int .u64))) : WordsAt w v ws := by
  rcases Nat.eq_zero_or_pos ws.length with h0 | h0
  · rcases h.2 with ⟨rfl, e⟩ | ⟨g, o, cap, cur, rfl, _⟩
    · exact ⟨none, 0, by rw [h0], fun h => absurd h (by omega)⟩
    · exact ⟨_, _, rfl, fun h => absurd h (by omega)⟩
  · obtain ⟨g, o, cap, rfl, _, _, _, hc, _⟩ := h.form h0
    refine ⟨_, _, rfl, fun _ => ⟨g, o, rfl, fun i hi => ?_⟩⟩
    refine hc i _ ?_
    simp [hi]
theorem WordsAt.drewN {w : World} {v : Value} {ws : List Int} (h : WordsAt w v ws) (k : Nat) : WordsAt (w.drewN k) v ws := h
theorem list_eq_getD {xs ys : List Int} (hl : xs.length = ys.length) (h : ∀ i, i < xs.length → xs.getD i 0 = ys.getD i 0) : xs = ys := by
  apply List.ext_getElem hl
  intro i h1 h2
  have := h i h1
  rw [List.getD_eq_getElem?_getD, List.getD_eq_getElem?_getD, List.getElem?_eq_getElem h1, List.getElem?_eq_getElem h2] at this
  exact this
end Go.Proofs.Yteakbhfegbghoaa.Same
