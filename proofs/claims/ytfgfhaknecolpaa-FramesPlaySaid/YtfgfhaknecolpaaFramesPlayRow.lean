/- FramesPlay: how its argument comes in open. -/
import Derived.Test.YtfgfhaknecolpaaLFramesPlay
namespace Go.Proofs.Ytfgfhaknecolpaa.Law
open Go Go.RowKit Go.ChangeShapes Go.WideShapes Go.Deep Go.Proofs.Ytfgfhaknecolpaa.Kit Go.Proofs.Ytfgfhaknecolpaa.Wd Go.Proofs.Ytfgfhaknecolpaa.Frames Go.Proofs.Ytfgfhaknecolpaa.Point Go.Proofs.Ytfgfhaknecolpaa.Open
set_option linter.unusedSimpArgs false
set_option linter.unusedVariables false
theorem deed_ints (H : Type) : Ints H Try.prog 33 [.i64, .i64, .i64, .i64, .i64, .i64, .i64, .u64] := by
  have hi : Ints H Try.prog 3 [.i64] := Ints.int Try.underlying3 (by kernel_rfl)
  have hu : Ints H Try.prog 31 [.u64] := Ints.int Try.underlying31 (by kernel_rfl)
  refine Ints.struct Try.underlying33 (by kernel_rfl) fun j k hk => ?_
  match j, hk with
  | 0, hk => exact ⟨0, _, [.i64], rfl, hi, by decide, by decide, hk⟩
  | 1, hk => exact ⟨1, _, [.i64], rfl, hi, by decide, by decide, hk⟩
  | 2, hk => exact ⟨2, _, [.i64], rfl, hi, by decide, by decide, hk⟩
  | 3, hk => exact ⟨3, _, [.i64, .i64, .i64, .i64], rfl, pt_ints H, by decide, by decide, hk⟩
  | 4, hk => exact ⟨3, _, [.i64, .i64, .i64, .i64], rfl, pt_ints H, by decide, by decide, hk⟩
  | 5, hk => exact ⟨3, _, [.i64, .i64, .i64, .i64], rfl, pt_ints H, by decide, by decide, hk⟩
  | 6, hk => exact ⟨3, _, [.i64, .i64, .i64, .i64], rfl, pt_ints H, by decide, by decide, hk⟩
  | 7, hk => exact ⟨4, _, [.u64], rfl, hu, by decide, by decide, hk⟩
theorem framesPlay_row {H : Type} {enc : TypeId × Value → H} (W : World) {base : Nat}
    (v0 : Value) (d0 : DataW H) (p0 : List MemPlace) (k0 : Value.okWide Try.prog W .any base 22 v0) (h0 : DataW.Trod enc Try.prog W 0 (fun _ => true) true 22 v0 d0 p0) (l0 : ∀ x ∈ p0, x.block < W.heap.size)
    : Calls Try.prog 3 #[v0] W fun e W' => e = .returned (.bool true) ∧ Below W.heap.size W W' := by
  obtain ⟨n, a, c, g, rfl, hc, hw, _⟩ := open_stuples Try.underlying22 (deed_ints H) (by decide) k0 h0
  refine framesPlay_walk a n c g (fun i hi => wf_u64 (hw i 7 .u64 hi rfl)) W (fun h0 => ?_)
  obtain ⟨b, o, rfl, hb, hcell⟩ := hc h0
  refine ⟨b, o, rfl, hb, fun i hi => ⟨fun j hj => ?_, hcell i 7 .u64 hi rfl⟩⟩
  rcases (show j = 0 ∨ j = 1 ∨ j = 2 ∨ j = 3 ∨ j = 4 ∨ j = 5 ∨ j = 6 by omega) with rfl | rfl | rfl | rfl | rfl | rfl | rfl
  · exact hcell i 0 .i64 hi rfl
  · exact hcell i 1 .i64 hi rfl
  · exact hcell i 2 .i64 hi rfl
  · exact hcell i 3 .i64 hi rfl
  · exact hcell i 4 .i64 hi rfl
  · exact hcell i 5 .i64 hi rfl
  · exact hcell i 6 .i64 hi rfl
end Go.Proofs.Ytfgfhaknecolpaa.Law
