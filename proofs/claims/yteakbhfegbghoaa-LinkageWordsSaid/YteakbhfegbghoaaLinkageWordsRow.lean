/- LinkageWords for any arguments. -/
import Derived.Test.YteakbhfegbghoaaLLinkageWords
import Derived.Test.YteakbhfegbghoaaOpenG
import Derived.Below
namespace Go.Proofs.Yteakbhfegbghoaa.Law
open Go Go.RowKit Go.ChangeMaps Go.ChangeShapes Go.WideShapes Go.Proofs.Yteakbhfegbghoaa.Kit Go.Proofs.Yteakbhfegbghoaa.Open
set_option linter.unusedSimpArgs false
set_option linter.unusedVariables false
set_option maxRecDepth 100000 in
theorem linkageWords_row {H : Type} {enc : TypeId × Value → H} (W : World) {base : Nat}
    (v0 : Value) (d0 : DataW H) (p0 : List MemPlace) (k0 : Value.okWide Try.prog W .any base 5 v0) (h0 : DataW.Trod enc Try.prog W 0 (fun _ => true) true 5 v0 d0 p0) (l0 : ∀ x ∈ p0, x.block < W.heap.size)
    (v1 : Value) (d1 : DataW H) (p1 : List MemPlace) (k1 : Value.okWide Try.prog W .any base 5 v1) (h1 : DataW.Trod enc Try.prog W 0 (fun _ => true) true 5 v1 d1 p1) (l1 : ∀ x ∈ p1, x.block < W.heap.size)
    (v2 : Value) (d2 : DataW H) (p2 : List MemPlace) (k2 : Value.okWide Try.prog W .any base 52 v2) (h2 : DataW.Trod enc Try.prog W 0 (fun _ => true) true 52 v2 d2 p2) (l2 : ∀ x ∈ p2, x.block < W.heap.size)
    : Calls Try.prog 5 #[v0, v1, v2] W fun e W' => e = .returned (.bool true) ∧ Below W.heap.size W W' := by
  obtain ⟨y, rfl, rfl, rfl, hwf⟩ := open_int Try.underlying5 k0 h0
  obtain ⟨z, rfl, rfl, rfl, hwz⟩ := open_int Try.underlying5 k1 h1
  obtain ⟨u, rfl, rfl, rfl, hwu⟩ := open_int Try.underlying52 k2 h2
  obtain ⟨y0, y1⟩ := wf_u8 hwf
  obtain ⟨z0, z1⟩ := wf_u8 hwz
  obtain ⟨u0, u1⟩ := wf_u64 hwu
  obtain ⟨Y, rfl⟩ := Int.eq_ofNat_of_zero_le y0
  obtain ⟨Z, rfl⟩ := Int.eq_ofNat_of_zero_le z0
  exact linkageWords_walk Y Z u (by omega) (by omega) u0 u1 W
end Go.Proofs.Yteakbhfegbghoaa.Law
