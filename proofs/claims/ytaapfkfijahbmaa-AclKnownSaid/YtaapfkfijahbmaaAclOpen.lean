/- How terms and lists of terms that came in open. -/
import Derived.Test.YtaapfkfijahbmaaProg
import Derived.Test.YtaapfkfijahbmaaTerm
import Derived.Test.YtaapfkfijahbmaaOpenG
namespace Go.Proofs.Ytaapfkfijahbmaa.Law
open Go Go.RowKit Go.ChangeShapes Go.WideShapes Go.Proofs.Ytaapfkfijahbmaa.Kit Go.Proofs.Ytaapfkfijahbmaa.Str Go.Proofs.Ytaapfkfijahbmaa.Term Go.Proofs.Ytaapfkfijahbmaa.Open
set_option linter.unusedSimpArgs false
set_option linter.unusedVariables false
theorem open_terms {H : Type} {enc : TypeId × Value → H} {W : World} {base : Nat} {v : Value} {d : DataW H} {p : List MemPlace} {b0 : Nat} {r : Reach} {sp : Nat → Bool} {held : Bool} (k : Value.okWide Try.prog W r b0 22 v) (h : DataW.Trod enc Try.prog W base sp held 22 v d p) :
    ∃ ls : List Tm, LsAt 4 tc W v ls ∧ ∀ t ∈ ls, t.1.length ≤ 9223372036854775807 := by
  have oF : Opens H Try.prog 24 3 _ := Opens.struct [(1, RBool), (1, RBool), (1, RBool)] Try.underlying24 (by kernel_rfl) rfl (by
    intro i f p hf hp
    rcases i with _ | _ | _ | i
    · cases hf; cases hp; exact ⟨Opens.bool Try.underlying4 (by kernel_rfl), rfl⟩
    · cases hf; cases hp; exact ⟨Opens.bool Try.underlying4 (by kernel_rfl), rfl⟩
    · cases hf; cases hp; exact ⟨Opens.bool Try.underlying4 (by kernel_rfl), rfl⟩
    · simp at hp)
  have oT : Opens H Try.prog 26 4 _ := Opens.struct [(1, RStr), (3, RStruct [(1, RBool), (1, RBool), (1, RBool)])] Try.underlying26 (by kernel_rfl) rfl (by
    intro i f p hf hp
    rcases i with _ | _ | i
    · cases hf; cases hp; exact ⟨Opens.str Try.underlying9 (by kernel_rfl), rfl⟩
    · cases hf; cases hp; exact ⟨oF, rfl⟩
    · simp at hp)
  have oS := Opens.slice Try.underlying22 (by kernel_rfl) oT (by decide)
  refine oS.list (f := tc) (Q := fun t => t.1.length ≤ 9223372036854775807) Try.underlying22 (fun w ds hR => ?_) k h
  obtain ⟨c1, c2, rfl, _, ⟨l, rfl, hl⟩, c3, c4, rfl, _, hF, rfl⟩ := hR
  obtain ⟨x1, y1, rfl, _, ⟨b1, rfl⟩, x2, y2, rfl, _, ⟨b2, rfl⟩, x3, y3, rfl, _, ⟨b3, rfl⟩, rfl⟩ := hF
  exact ⟨(l, b1, b2, b3), rfl, hl⟩
theorem open_term {H : Type} {enc : TypeId × Value → H} {W : World} {base : Nat} {v : Value} {d : DataW H} {p : List MemPlace} {b0 : Nat} {r : Reach} {sp : Nat → Bool} {held : Bool} (k : Value.okWide Try.prog W r b0 26 v) (h : DataW.Trod enc Try.prog W base sp held 26 v d p) :
    ∃ t : Tm, v = tv t ∧ t.1.length ≤ 9223372036854775807 := by
  have oF : Opens H Try.prog 24 3 _ := Opens.struct [(1, RBool), (1, RBool), (1, RBool)] Try.underlying24 (by kernel_rfl) rfl (by
    intro i f p hf hp
    rcases i with _ | _ | _ | i
    · cases hf; cases hp; exact ⟨Opens.bool Try.underlying4 (by kernel_rfl), rfl⟩
    · cases hf; cases hp; exact ⟨Opens.bool Try.underlying4 (by kernel_rfl), rfl⟩
    · cases hf; cases hp; exact ⟨Opens.bool Try.underlying4 (by kernel_rfl), rfl⟩
    · simp at hp)
  have oT : Opens H Try.prog 26 4 _ := Opens.struct [(1, RStr), (3, RStruct [(1, RBool), (1, RBool), (1, RBool)])] Try.underlying26 (by kernel_rfl) rfl (by
    intro i f p hf hp
    rcases i with _ | _ | i
    · cases hf; cases hp; exact ⟨Opens.str Try.underlying9 (by kernel_rfl), rfl⟩
    · cases hf; cases hp; exact ⟨oF, rfl⟩
    · simp at hp)
  obtain ⟨cs, rfl, hR⟩ := oT.agg Try.underlying26 k h
  obtain ⟨c1, c2, rfl, _, ⟨l, rfl, hl⟩, c3, c4, rfl, _, hF, rfl⟩ := hR
  obtain ⟨x1, y1, rfl, _, ⟨b1, rfl⟩, x2, y2, rfl, _, ⟨b2, rfl⟩, x3, y3, rfl, _, ⟨b3, rfl⟩, rfl⟩ := hF
  exact ⟨(l, b1, b2, b3), rfl, hl⟩
end Go.Proofs.Ytaapfkfijahbmaa.Law
