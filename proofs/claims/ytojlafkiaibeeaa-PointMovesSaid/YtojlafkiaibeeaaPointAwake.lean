/- The document's example of layer 2 holds. -/
import Derived.Test.YtojlafkiaibeeaaPoint
import Derived.Test.YtojlafkiaibeeaaOpen
namespace Go.Proofs.Ytojlafkiaibeeaa.Law
open Go Go.RowKit Go.Proofs.Ytojlafkiaibeeaa.Wd Go.Proofs.Ytojlafkiaibeeaa.Word Go.Proofs.Ytojlafkiaibeeaa.Kit Go.Proofs.Ytojlafkiaibeeaa.Point
set_option linter.unusedSimpArgs false
set_option linter.unusedVariables false
theorem awake2_any (w : World) : Calls Try.prog 25 #[] w fun e w' => e = .returned (.bool true) ∧ New w w' := by
  have k1 : packN 1 2 0 3 = 20971523 := by decide
  have he := fun (a b c d a' b' c' d' : Int) w => eql_pt a b c d a' b' c' d' w
  have k2 : ptEq ((getN 20971523 0 12 : Nat) : Int) ((getN 20971523 12 3 : Nat) : Int) ((getN 20971523 15 3 : Nat) : Int) ((getN 20971523 18 18 : Nat) : Int) 1 2 0 3 = true := by decide
  have k3 : mayB 0 0 0 0 = true := by decide
  go_enter Try.func25, Try.ntmps25
  go_wp2_with fail
  refine (pack_yes 1 2 0 3 (by decide) _).mono ?_
  rintro e w1 ⟨rfl, hn1⟩
  obtain ⟨hc1, hf1⟩ := New.cells hn1
  have hs1 := New.size hn1
  try simp only [World.size_alloc, size_drewN, size_drew, size_setCell] at hc1 hf1 hs1
  try have hz1_w : w.heap.size < w1.heap.size := by omega
  rw [k1]
  go_wp2_with fail
  refine (unpack_any 20971523 (by omega) _).mono ?_
  rintro e w2 ⟨rfl, hn2⟩
  obtain ⟨hc2, hf2⟩ := New.cells hn2
  have hs2 := New.size hn2
  try simp only [World.size_alloc, size_drewN, size_drew, size_setCell] at hc2 hf2 hs2
  try have hz2_w : w.heap.size < w2.heap.size := by omega
  go_wp2_with fail
  refine (may_any 0 0 0 0 _).mono ?_
  rintro e w3 ⟨rfl, hn3⟩
  obtain ⟨hc3, hf3⟩ := New.cells hn3
  have hs3 := New.size hn3
  try simp only [World.size_alloc, size_drewN, size_drew, size_setCell] at hc3 hf3 hs3
  try have hz3_w : w.heap.size < w3.heap.size := by omega
  rw [k3]
  go_wp2
  go_ret
  refine ⟨rfl, ?_⟩
  (repeat (first | exact New.refl _ | (refine New.step ?_ (by assumption)) | apply New.alloc | apply New.drewN | apply New.drew))
/-- A pointer as an argument. -/
theorem open_pt {H : Type} {enc : TypeId × Value → H} {W : World} {base b0 : Nat} {r : Reach} {sp : Nat → Bool} {held : Bool} {v : Value} {d : DataW H} {p : List MemPlace}
    (k : Value.okWide Try.prog W r b0 47 v) (h : DataW.Trod enc Try.prog W base sp held 47 v d p) : ∃ a b c g, v = pt a b c g ∧ (Lit.int .i64 a).wf = true ∧ (Lit.int .i64 b).wf = true ∧ (Lit.int .i64 c).wf = true ∧ (Lit.int .i64 g).wf = true := by
  obtain ⟨v0, v1, v2, v3, y0, y1, y2, y3, n, rfl, _, _, h0, h1, h2, h3⟩ := Joins.open_agg4 Try.underlying47 (by kernel_rfl) (by kernel_rfl) k h
  obtain ⟨a, e0, _, w0⟩ := DataW.trod_int Try.underlying3 h0
  obtain ⟨b, e1, _, w1⟩ := DataW.trod_int Try.underlying3 h1
  obtain ⟨c, e2, _, w2⟩ := DataW.trod_int Try.underlying3 h2
  obtain ⟨g, e3, _, w3⟩ := DataW.trod_int Try.underlying3 h3
  simp at e0 e1 e2 e3
  subst e0 e1 e2 e3
  exact ⟨a, b, c, g, rfl, w0, w1, w2, w3⟩
end Go.Proofs.Ytojlafkiaibeeaa.Law
