/- CodeFields: how its arguments come in open. -/
import Derived.Test.YtlacegnhfgnlgaaDoorLCodeFields
import Derived.Test.YtlacegnhfgnlgaaDoorOpen
namespace Go.Proofs.YtlacegnhfgnlgaaDoor.Law
open Go Go.RowKit Go.ChangeShapes Go.WideShapes Go.Proofs.YtlacegnhfgnlgaaDoor.Kit Go.Proofs.YtlacegnhfgnlgaaDoor.Code
set_option linter.unusedSimpArgs false
set_option linter.unusedVariables false
theorem open_inst {H : Type} {enc : TypeId × Value → H} {W : World} {base b0 : Nat} {r : Reach} {sp : Nat → Bool} {held : Bool} {v : Value} {d : DataW H} {p : List MemPlace}
    (k : Value.okWide Tryd.prog W r b0 23 v) (h : DataW.Trod enc Tryd.prog W base sp held 23 v d p) : ∃ a b c g, v = inst a b c g := by
  obtain ⟨v0, v1, v2, v3, y0, y1, y2, y3, n, rfl, _, _, h0, h1, h2, h3⟩ := Joins.open_agg4 Tryd.underlying23 (by kernel_rfl) (by kernel_rfl) k h
  obtain ⟨a, e0, _, w0⟩ := DataW.trod_int Tryd.underlying3 h0
  obtain ⟨b, e1, _, w1⟩ := DataW.trod_int Tryd.underlying3 h1
  obtain ⟨c, e2, _, w2⟩ := DataW.trod_int Tryd.underlying3 h2
  obtain ⟨g, e3, _, w3⟩ := DataW.trod_int Tryd.underlying3 h3
  simp at e0 e1 e2 e3
  subst e0 e1 e2 e3
  exact ⟨a, b, c, g, rfl⟩
theorem codeFields_row {H : Type} {enc : TypeId × Value → H} (W : World) {base : Nat} (hT : Tab W)
    (v0 : Value) (d0 : DataW H) (p0 : List MemPlace) (k0 : Value.okWide Tryd.prog W .any base 23 v0) (h0 : DataW.Trod enc Tryd.prog W 0 (fun _ => true) true 23 v0 d0 p0)
    (v1 : Value) (d1 : DataW H) (p1 : List MemPlace) (k1 : Value.okWide Tryd.prog W .any base 23 v1) (h1 : DataW.Trod enc Tryd.prog W 0 (fun _ => true) true 23 v1 d1 p1)
    : Calls Tryd.prog 3 #[v0, v1] W fun e W' => e = .returned (.bool true) ∧ Below W.heap.size W W' := by
  obtain ⟨a, b, c, d, rfl⟩ := open_inst k0 h0
  obtain ⟨a', b', c', d', rfl⟩ := open_inst k1 h1
  exact codeFields_walk a b c d a' b' c' d' W hT
end Go.Proofs.YtlacegnhfgnlgaaDoor.Law
