/- ReferPlays for any argument. -/
import Derived.Test.YtakhidieomalhaaLReferPlays
import Derived.Test.YtakhidieomalhaaOpenG
import Derived.Below
namespace Go.Proofs.Ytakhidieomalhaa.Law
open Go Go.RowKit Go.ChangeShapes Go.WideShapes Go.Proofs.Ytakhidieomalhaa.Kit Go.Proofs.Ytakhidieomalhaa.Str Go.Proofs.Ytakhidieomalhaa.Refer Go.Proofs.Ytakhidieomalhaa.Open
set_option linter.unusedSimpArgs false
set_option linter.unusedVariables false
theorem open_deeds {H : Type} {enc : TypeId × Value → H} {W : World} {base : Nat} {v : Value} {d : DataW H} {p : List MemPlace} {b0 : Nat} {r : Reach} {sp : Nat → Bool} {held : Bool} (k : Value.okWide Try.prog W r b0 39 v) (h : DataW.Trod enc Try.prog W base sp held 39 v d p) :
    ∃ l : List Dd, LsAt 4 dc W v l ∧ ∀ d ∈ l, (Lit.int .i64 d.2.1).wf = true := by
  have oI : Opens H Try.prog 3 1 (RInt .i64) := Opens.int Try.underlying3 (by kernel_rfl)
  have oD : Opens H Try.prog 41 4 _ := Opens.struct [(1, RInt .i64), (1, RInt .i64), (1, RInt .i64), (1, RStr)] Try.underlying41 (by kernel_rfl) rfl (by
    intro i f p hf hp
    rcases i with _ | _ | _ | _ | i
    · cases hf; cases hp; exact ⟨oI, rfl⟩
    · cases hf; cases hp; exact ⟨oI, rfl⟩
    · cases hf; cases hp; exact ⟨oI, rfl⟩
    · cases hf; cases hp; exact ⟨Opens.str Try.underlying9 (by kernel_rfl), rfl⟩
    · simp at hp)
  have oS := Opens.slice Try.underlying39 (by kernel_rfl) oD (by decide)
  refine oS.list (f := dc) (Q := fun d => (Lit.int .i64 d.2.1).wf = true) Try.underlying39 (fun w ds hR => ?_) k h
  obtain ⟨x1, y1, rfl, _, ⟨z1, rfl, _⟩, x2, y2, rfl, _, ⟨z2, rfl, hz2⟩, x3, y3, rfl, _, ⟨z3, rfl, _⟩, x4, y4, rfl, _, ⟨s, rfl, _⟩, rfl⟩ := hR
  exact ⟨(z1, z2, z3, s), rfl, hz2⟩
theorem referPlays_row {H : Type} {enc : TypeId × Value → H} (W : World) {base : Nat}
    (v0 : Value) (d0 : DataW H) (p0 : List MemPlace) (k0 : Value.okWide Try.prog W .any base 39 v0) (h0 : DataW.Trod enc Try.prog W 0 (fun _ => true) true 39 v0 d0 p0) (l0 : ∀ x ∈ p0, x.block < W.heap.size)
    : Calls Try.prog 5 #[v0] W fun e W' => e = .returned (.bool true) ∧ Below W.heap.size W W' := by
  obtain ⟨l, hl, hwf⟩ := open_deeds k0 h0
  exact referPlays_walk _ l hwf W hl
end Go.Proofs.Ytakhidieomalhaa.Law
