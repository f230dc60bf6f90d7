/- ReferMany for any arguments. -/
import Derived.Test.YtakhidieomalhaaLReferMany
namespace Go.Proofs.Ytakhidieomalhaa.Law
open Go Go.RowKit Go.ChangeShapes Go.WideShapes Go.Proofs.Ytakhidieomalhaa.Kit Go.Proofs.Ytakhidieomalhaa.Str Go.Proofs.Ytakhidieomalhaa.Refer Go.Proofs.Ytakhidieomalhaa.Open
set_option linter.unusedSimpArgs false
set_option linter.unusedVariables false
theorem referMany_row {H : Type} {enc : TypeId × Value → H} (W : World) {base : Nat}
    (v0 : Value) (d0 : DataW H) (p0 : List MemPlace) (k0 : Value.okWide Try.prog W .any base 22 v0) (h0 : DataW.Trod enc Try.prog W 0 (fun _ => true) true 22 v0 d0 p0) (l0 : ∀ x ∈ p0, x.block < W.heap.size)
    (v1 : Value) (d1 : DataW H) (p1 : List MemPlace) (k1 : Value.okWide Try.prog W .any base 5 v1) (h1 : DataW.Trod enc Try.prog W 0 (fun _ => true) true 5 v1 d1 p1) (l1 : ∀ x ∈ p1, x.block < W.heap.size)
    : Calls Try.prog 3 #[v0, v1] W fun e W' => e = .returned (.bool true) ∧ Below W.heap.size W W' := by
  obtain ⟨y, rfl, rfl, rfl, hwf⟩ := open_int Try.underlying5 k1 h1
  obtain ⟨y0, y1⟩ := wf_u8 hwf
  obtain ⟨Y, rfl⟩ := Int.eq_ofNat_of_zero_le y0
  have hU : Opens H Try.prog 22 1 (RSl 1 RStr) := Opens.slice Try.underlying22 (by kernel_rfl) (Opens.str Try.underlying9 (by kernel_rfl)) (by decide)
  obtain ⟨l, hl, _⟩ := Opens.list (f := sc) (Q := fun _ => True) Try.underlying22 hU (fun w ds hr => by
    obtain ⟨s, rfl, _⟩ := hr
    exact ⟨s, rfl, trivial⟩) k0 h0
  exact referMany_walk _ l Y (by omega) W hl
end Go.Proofs.Ytakhidieomalhaa.Law
