/- LinkageFull for any arguments. -/
import Derived.Test.YteakbhfegbghoaaLLinkageFull
import Derived.Test.YteakbhfegbghoaaOpenG
import Derived.Below
namespace Go.Proofs.Yteakbhfegbghoaa.Law
open Go Go.RowKit Go.ChangeMaps Go.ChangeShapes Go.WideShapes Go.Proofs.Yteakbhfegbghoaa.Kit Go.Proofs.Yteakbhfegbghoaa.Open
set_option linter.unusedSimpArgs false
set_option linter.unusedVariables false
set_option maxRecDepth 100000 in
theorem linkageFull_row {H : Type} {enc : TypeId × Value → H} (W : World) {base : Nat}
    (v0 : Value) (d0 : DataW H) (p0 : List MemPlace) (k0 : Value.okWide Try.prog W .any base 5 v0) (h0 : DataW.Trod enc Try.prog W 0 (fun _ => true) true 5 v0 d0 p0) (l0 : ∀ x ∈ p0, x.block < W.heap.size)
    (v1 : Value) (d1 : DataW H) (p1 : List MemPlace) (k1 : Value.okWide Try.prog W .any base 5 v1) (h1 : DataW.Trod enc Try.prog W 0 (fun _ => true) true 5 v1 d1 p1) (l1 : ∀ x ∈ p1, x.block < W.heap.size)
    : Calls Try.prog 3 #[v0, v1] W fun e W' => e = .returned (.bool true) ∧ Below W.heap.size W W' := by
  obtain ⟨y, rfl, rfl, rfl, hwf⟩ := open_int Try.underlying5 k0 h0
  obtain ⟨z, rfl, rfl, rfl, hwz⟩ := open_int Try.underlying5 k1 h1
  obtain ⟨y0, y1⟩ := wf_u8 hwf
  obtain ⟨z0, z1⟩ := wf_u8 hwz
  obtain ⟨Y, rfl⟩ := Int.eq_ofNat_of_zero_le y0
  obtain ⟨Z, rfl⟩ := Int.eq_ofNat_of_zero_le z0
  exact linkageFull_walk Y Z (by omega) (by omega) W
end Go.Proofs.Yteakbhfegbghoaa.Law
