/- AreaPlays: how its arguments come in open. -/
import Derived.Test.YtapefbmbaofbbaaLAreaPlays
import Derived.Test.YtapefbmbaofbbaaOpenT
namespace Go.Proofs.Ytapefbmbaofbbaa.Law
open Go Go.RowKit Go.ChangeShapes Go.WideShapes Go.Deep Go.Proofs.Ytapefbmbaofbbaa.Kit Go.Proofs.Ytapefbmbaofbbaa.Area Go.Proofs.Ytapefbmbaofbbaa.Open
set_option linter.unusedSimpArgs false
set_option linter.unusedVariables false
theorem deed_ints (H : Type) : Ints H Try.prog 47 [.i64, .i64, .i64, .u64] := by
  have hi : Ints H Try.prog 3 [.i64] := Ints.int Try.underlying3 (by kernel_rfl)
  have hu : Ints H Try.prog 41 [.u64] := Ints.int Try.underlying41 (by kernel_rfl)
  refine Ints.struct Try.underlying47 (by kernel_rfl) fun j k hk => ?_
  match j, hk with
  | 0, hk => exact ⟨0, _, [.i64], rfl, hi, by decide, by decide, hk⟩
  | 1, hk => exact ⟨1, _, [.i64], rfl, hi, by decide, by decide, hk⟩
  | 2, hk => exact ⟨2, _, [.i64], rfl, hi, by decide, by decide, hk⟩
  | 3, hk => exact ⟨3, _, [.u64], rfl, hu, by decide, by decide, hk⟩
theorem areaPlays_row {H : Type} {enc : TypeId × Value → H} (W : World) {base : Nat}
    (v0 : Value) (d0 : DataW H) (p0 : List MemPlace) (k0 : Value.okWide Try.prog W .any base 3 v0) (h0 : DataW.Trod enc Try.prog W 0 (fun _ => true) true 3 v0 d0 p0) (l0 : ∀ x ∈ p0, x.block < W.heap.size)
    (v1 : Value) (d1 : DataW H) (p1 : List MemPlace) (k1 : Value.okWide Try.prog W .any base 44 v1) (h1 : DataW.Trod enc Try.prog W 0 (fun _ => true) true 44 v1 d1 p1) (l1 : ∀ x ∈ p1, x.block < W.heap.size)
    : Calls Try.prog 6 #[v0, v1] W fun e W' => e = .returned (.bool true) ∧ Below W.heap.size W W' := by
  obtain ⟨y, rfl, rfl, rfl, hwf⟩ := open_int Try.underlying3 k0 h0
  obtain ⟨n, a, c, g, rfl, hc, hw, _⟩ := open_stuples Try.underlying44 (deed_ints H) (by decide) k1 h1
  refine areaPlays_walk y a n c g W (fun h0 => ?_)
  obtain ⟨b, o, rfl, hb, hcell⟩ := hc h0
  refine ⟨b, o, rfl, hb, fun i hi => ⟨fun j hj => ?_, hcell i 3 .u64 hi rfl⟩⟩
  rcases (show j = 0 ∨ j = 1 ∨ j = 2 by omega) with rfl | rfl | rfl
  · exact hcell i 0 .i64 hi rfl
  · exact hcell i 1 .i64 hi rfl
  · exact hcell i 2 .i64 hi rfl
end Go.Proofs.Ytapefbmbaofbbaa.Law
