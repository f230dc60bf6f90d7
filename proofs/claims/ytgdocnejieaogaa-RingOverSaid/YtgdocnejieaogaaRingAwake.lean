/- The document's example of layer 4 holds; the reference's Call. -/
import Derived.Test.YtgdocnejieaogaaRing
import Derived.Test.YtgdocnejieaogaaOpen
namespace Go.Proofs.Ytgdocnejieaogaa.Law
open Go Go.RowKit Go.Proofs.Ytgdocnejieaogaa.Kit Go.Proofs.Ytgdocnejieaogaa.Ring
set_option linter.unusedSimpArgs false
set_option linter.unusedVariables false
theorem awake_any (w : World) : Calls Try.prog 10 #[] w fun e w' => e = .returned (.bool true) ∧ New w w' := by
  have k1 : callE 1 3 5 1 true 4 0 = (3, 0) := by decide
  have k2 : mayB 1 3 5 1 = true := by decide
  have k3 : readE 1 3 5 1 true 3 = 0 := by decide
  have k4 : writeE 1 3 5 1 true 2 = 10 := by decide
  have k5 : cutZ 4 = 4 := by decide
  have k6 : cutZ 2 = 2 := by decide
  go_enter Try.func10, Try.ntmps10
  go_wp2_with fail
  refine (call_any 1 3 5 1 false false true 4 0 _).mono ?_
  rintro e w1 ⟨rfl, hn1⟩
  obtain ⟨hc1, hf1⟩ := New.cells hn1
  have hs1 := New.size hn1
  try simp only [World.size_alloc, size_drewN, size_drew, size_setCell] at hc1 hf1 hs1
  try have hz1_w : w.heap.size < w1.heap.size := by omega
  rw [k1]
  go_wp2_with fail
  refine (may_any 1 3 5 1 _).mono ?_
  rintro e w2 ⟨rfl, hn2⟩
  obtain ⟨hc2, hf2⟩ := New.cells hn2
  have hs2 := New.size hn2
  try simp only [World.size_alloc, size_drewN, size_drew, size_setCell] at hc2 hf2 hs2
  try have hz2_w : w.heap.size < w2.heap.size := by omega
  rw [k2]
  go_wp2_with fail
  refine (read_any 1 3 5 1 true false false 3 _).mono ?_
  rintro e w3 ⟨rfl, hn3⟩
  obtain ⟨hc3, hf3⟩ := New.cells hn3
  have hs3 := New.size hn3
  try simp only [World.size_alloc, size_drewN, size_drew, size_setCell] at hc3 hf3 hs3
  try have hz3_w : w.heap.size < w3.heap.size := by omega
  rw [k3]
  go_wp2_with fail
  refine (write_any 1 3 5 1 false true false 2 _).mono ?_
  rintro e w4 ⟨rfl, hn4⟩
  obtain ⟨hc4, hf4⟩ := New.cells hn4
  have hs4 := New.size hn4
  try simp only [World.size_alloc, size_drewN, size_drew, size_setCell] at hc4 hf4 hs4
  try have hz4_w : w.heap.size < w4.heap.size := by omega
  rw [k4]
  go_wp2_with fail
  refine (return_any 4 2 _).mono ?_
  rintro e w' ⟨rfl, rfl⟩
  rw [k5, k6]
  go_wp2
  go_ret
  refine ⟨rfl, ?_⟩
  (repeat (first | exact New.refl _ | (refine New.step ?_ (by assumption)) | apply New.alloc | apply New.drewN | apply New.drew))
theorem refMay_any (a b c g : Int) (w : World) : Calls Try.prog 17 #[br a b c g] w fun e w' => e = .returned (.bool (mayB a b c g)) ∧ New w w' := by
  go_enter Try.func17, Try.ntmps17
  go_wp2
  all_goals
    go_ret
    refine ⟨ret_bool (Bool.eq_iff_iff.2 ?_), ?_⟩
    · rw [mayB_iff]; simp; try omega
    · (repeat (first | exact New.refl _ | (refine New.step ?_ (by assumption)) | apply New.alloc | apply New.drewN | apply New.drew))
/-- Brackets as an argument. -/
theorem open_br {H : Type} {enc : TypeId × Value → H} {W : World} {base b0 : Nat} {r : Reach} {sp : Nat → Bool} {held : Bool} {v : Value} {d : DataW H} {p : List MemPlace}
    (k : Value.okWide Try.prog W r b0 23 v) (h : DataW.Trod enc Try.prog W base sp held 23 v d p) : ∃ a b c g, v = br a b c g ∧ (Lit.int .i64 a).wf = true ∧ (Lit.int .i64 b).wf = true ∧ (Lit.int .i64 c).wf = true ∧ (Lit.int .i64 g).wf = true := by
  obtain ⟨v0, v1, v2, v3, y0, y1, y2, y3, n, rfl, _, _, h0, h1, h2, h3⟩ := Joins.open_agg4 Try.underlying23 (by kernel_rfl) (by kernel_rfl) k h
  obtain ⟨a, e0, _, w0⟩ := DataW.trod_int Try.underlying3 h0
  obtain ⟨b, e1, _, w1⟩ := DataW.trod_int Try.underlying3 h1
  obtain ⟨c, e2, _, w2⟩ := DataW.trod_int Try.underlying3 h2
  obtain ⟨g, e3, _, w3⟩ := DataW.trod_int Try.underlying3 h3
  simp at e0 e1 e2 e3
  subst e0 e1 e2 e3
  exact ⟨a, b, c, g, rfl, w0, w1, w2, w3⟩
/-- Flags as an argument. -/
theorem open_fl {H : Type} {enc : TypeId × Value → H} {W : World} {base b0 : Nat} {r : Reach} {sp : Nat → Bool} {held : Bool} {v : Value} {d : DataW H} {p : List MemPlace}
    (k : Value.okWide Try.prog W r b0 25 v) (h : DataW.Trod enc Try.prog W base sp held 25 v d p) : ∃ a b c, v = fl a b c := by
  obtain ⟨v0, v1, v2, y0, y1, y2, n, rfl, _, _, h0, h1, h2⟩ := Joins.open_agg3 Try.underlying25 (by kernel_rfl) (by kernel_rfl) k h
  obtain ⟨a, e0, _⟩ := DataW.trod_bool Try.underlying4 h0
  obtain ⟨b, e1, _⟩ := DataW.trod_bool Try.underlying4 h1
  obtain ⟨c, e2, _⟩ := DataW.trod_bool Try.underlying4 h2
  simp at e0 e1 e2
  subst e0 e1 e2
  exact ⟨a, b, c, rfl⟩
end Go.Proofs.Ytgdocnejieaogaa.Law
