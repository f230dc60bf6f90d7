/- ReferRings for any arguments. -/
import Derived.Test.YtakhidieomalhaaLReferRings
import Derived.Test.YtakhidieomalhaaOpenG
namespace Go.Proofs.Ytakhidieomalhaa.Law
open Go Go.RowKit Go.ChangeMaps Go.ChangeShapes Go.WideShapes Go.Proofs.Ytakhidieomalhaa.Kit Go.Proofs.Ytakhidieomalhaa.Str Go.Proofs.Ytakhidieomalhaa.Refer Go.Proofs.Ytakhidieomalhaa.Open
set_option linter.unusedSimpArgs false
set_option linter.unusedVariables false
theorem referRings_row {H : Type} {enc : TypeId × Value → H} (W : World) {base : Nat}
    (v0 : Value) (d0 : DataW H) (p0 : List MemPlace) (k0 : Value.okWide Try.prog W .any base 9 v0) (h0 : DataW.Trod enc Try.prog W 0 (fun _ => true) true 9 v0 d0 p0) (l0 : ∀ x ∈ p0, x.block < W.heap.size)
    (v1 : Value) (d1 : DataW H) (p1 : List MemPlace) (k1 : Value.okWide Try.prog W .any base 5 v1) (h1 : DataW.Trod enc Try.prog W 0 (fun _ => true) true 5 v1 d1 p1) (l1 : ∀ x ∈ p1, x.block < W.heap.size)
    (v2 : Value) (d2 : DataW H) (p2 : List MemPlace) (k2 : Value.okWide Try.prog W .any base 5 v2) (h2 : DataW.Trod enc Try.prog W 0 (fun _ => true) true 5 v2 d2 p2) (l2 : ∀ x ∈ p2, x.block < W.heap.size)
    : Calls Try.prog 4 #[v0, v1, v2] W fun e W' => e = .returned (.bool true) ∧ Below W.heap.size W W' := by
  obtain ⟨s, rfl, _, _, hs⟩ := open_string Try.underlying9 k0 h0
  obtain ⟨y, rfl, rfl, rfl, hwf⟩ := open_int Try.underlying5 k1 h1
  obtain ⟨z, rfl, rfl, rfl, hwz⟩ := open_int Try.underlying5 k2 h2
  obtain ⟨y0, y1⟩ := wf_u8 hwf
  obtain ⟨z0, z1⟩ := wf_u8 hwz
  obtain ⟨Y, rfl⟩ := Int.eq_ofNat_of_zero_le y0
  obtain ⟨Z, rfl⟩ := Int.eq_ofNat_of_zero_le z0
  have e : s.data.toList.length = s.size := Array.length_toList
  exact referRings_walk s.data.toList (by rw [e]; exact hs) Y Z (by omega) (by omega) W
end Go.Proofs.Ytakhidieomalhaa.Law
