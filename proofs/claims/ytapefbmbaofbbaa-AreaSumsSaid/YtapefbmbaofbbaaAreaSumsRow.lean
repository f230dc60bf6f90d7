/- AreaSums for any arguments. -/
import Derived.Test.YtapefbmbaofbbaaLAreaSums
namespace Go.Proofs.Ytapefbmbaofbbaa.Law
open Go Go.RowKit Go.ChangeShapes Go.WideShapes Go.Proofs.Ytapefbmbaofbbaa.Kit Go.Proofs.Ytapefbmbaofbbaa.Area Go.Proofs.Ytapefbmbaofbbaa.Open
set_option linter.unusedSimpArgs false
set_option linter.unusedVariables false
theorem areaSums_row {H : Type} {enc : TypeId × Value → H} (W : World) {base : Nat}
    (v0 : Value) (d0 : DataW H) (p0 : List MemPlace) (k0 : Value.okWide Try.prog W .any base 5 v0) (h0 : DataW.Trod enc Try.prog W 0 (fun _ => true) true 5 v0 d0 p0) (l0 : ∀ x ∈ p0, x.block < W.heap.size)
    (v1 : Value) (d1 : DataW H) (p1 : List MemPlace) (k1 : Value.okWide Try.prog W .any base 32 v1) (h1 : DataW.Trod enc Try.prog W 0 (fun _ => true) true 32 v1 d1 p1) (l1 : ∀ x ∈ p1, x.block < W.heap.size)
    : Calls Try.prog 4 #[v0, v1] W fun e W' => e = .returned (.bool true) ∧ Below W.heap.size W W' := by
  obtain ⟨y, rfl, rfl, rfl, hwf⟩ := open_int Try.underlying5 k0 h0
  obtain ⟨y0, y1⟩ := wf_u8 hwf
  obtain ⟨Y, rfl⟩ := Int.eq_ofNat_of_zero_le y0
  have hU : Opens H Try.prog 32 1 (RSl 1 (RInt .u8)) := Opens.slice Try.underlying32 (by kernel_rfl) (Opens.int Try.underlying5 (by kernel_rfl)) (by decide)
  obtain ⟨l, hl, hx⟩ := Opens.list (f := uc) (Q := fun x => x < 256) Try.underlying32 hU (fun w ds hr => by
    obtain ⟨z, rfl, hw⟩ := hr
    obtain ⟨z0, z1⟩ := wf_u8 hw
    obtain ⟨Z, rfl⟩ := Int.eq_ofNat_of_zero_le z0
    exact ⟨Z, rfl, by omega⟩) k1 h1
  exact areaSums_walk Y (by omega) _ l hx W hl
end Go.Proofs.Ytapefbmbaofbbaa.Law
