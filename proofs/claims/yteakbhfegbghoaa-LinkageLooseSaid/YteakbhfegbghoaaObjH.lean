/- The contracts of May, Words. -/
import Derived.Test.YteakbhfegbghoaaObjG
namespace Go.Proofs.Yteakbhfegbghoaa.Obj
open Go Go.RowKit Go.Maps Go.Proofs.Yteakbhfegbghoaa.Kit Go.Proofs.Yteakbhfegbghoaa.Str Go.Proofs.Yteakbhfegbghoaa.Names Go.Proofs.Yteakbhfegbghoaa.Let
open Go.Proofs.Yteakbhfegbghoaa.Letters (wv WsAt word_info)
set_option linter.unusedSimpArgs false
set_option linter.unusedVariables false
/-- An object's box: what its cells say in any later world. -/
theorem box_ob {w : World} {v : Value} {O : Ob} (h : ObAt w v O) : ∃ a b c d, v = .agg #[a, b, c, d] ∧ ∀ X, New (w.alloc (.cells #[a, b, c, d] 29)) X → X.cell? ⟨w.heap.size, 0, none⟩ = some a ∧ X.cell? ⟨w.heap.size, 1, none⟩ = some b ∧ X.cell? ⟨w.heap.size, 2, none⟩ = some c ∧ X.cell? ⟨w.heap.size, 3, none⟩ = some d := by
  obtain ⟨a, b, c, d, e, _⟩ := h
  refine ⟨a, b, c, d, e, fun X hX => ?_⟩
  have := (Blk.new w 29 #[a, b, c, d]).new_ hX
  refine ⟨?_, ?_, ?_, ?_⟩ <;> rw [this.cell] <;> rfl
set_option maxRecDepth 100000 in
set_option maxHeartbeats 4000000 in
theorem mayO_any (w : World) (v : Value) (O : Ob) (h : ObAt w v O) (hL : Lens O) :
    Calls Try.prog 32 #[v] w fun e w' => e = .returned (.bool (mayB O)) ∧ New w w' := by
  obtain ⟨a, b, c, d, rfl, hcells⟩ := box_ob h
  obtain ⟨w1, hw1⟩ : ∃ w1, w1 = w.alloc (.cells #[a, b, c, d] 29) := ⟨_, rfl⟩
  have hW1 : New w w1 := by rw [hw1]; exact (New.refl w).alloc _
  rw [← hw1] at hcells
  have HB := hid hcells
  have HO := hid (fun X (hX : New w1 X) => h.new_ (hW1.step hX))
  have HW := hid hW1
  have hw1' := hid hw1
  have HL := hid hL
  clear hw1 hW1 hcells h hL
  have hf := fun X (hX : New w1 X) => fits_any X _ O (HO.out X hX) HL.out
  cases hb : fitsB O with
  | false =>
    rw [hb] at hf
    have HF := hid (show mayB O = false from by unfold mayB; rw [hb]; rfl)
    replace hf := hid hf
    clear hb
    go_enter Try.func32, Try.ntmps32
    go_wp2_with fail
    rw [← hw1'.out]
    refine (hf.out _ (New.refl _)).mono ?_
    rintro e w2 ⟨rfl, n2⟩
    go_wp2_with fail
    go_ret
    exact ⟨ret_bool HF.out.symm, HW.out.step n2⟩
  | true =>
    have hmd := fun X (hX : New w1 X) => made_any X _ O (HO.out X hX) ((fits_iff O).1 hb)
    have hm : mayB O = decide ((encO O).length ≤ 1024) := by unfold mayB; rw [hb]; rfl
    rw [hb] at hf
    obtain ⟨N, hN⟩ : ∃ N, N = (encO O).length := ⟨_, rfl⟩
    have HM := hid hm
    have HN := hid hN
    rw [← hN] at hmd
    replace hf := hid hf
    replace hmd := hid hmd
    clear hb hm hN
    go_enter Try.func32, Try.ntmps32
    go_wp2_with fail
    rw [← hw1'.out]
    refine (hf.out _ (New.refl _)).mono ?_
    rintro e w2 ⟨rfl, n2⟩
    obtain ⟨e0, e1, e2, e3⟩ := HB.out _ n2
    have N2 := hid n2
    clear n2
    go_wp2_with fail
    refine (hmd.out _ N2.out).mono ?_
    rintro e w3 ⟨x, rfl, hs, n3⟩
    obtain ⟨ax, cx, rfl⟩ := hs.val
    have N3 := hid n3
    clear hs n3
    go_wp2_with fail
    go_ret
    refine ⟨ret_bool ?_, (HW.out.step N2.out).step N3.out⟩
    rw [HM.out, ← HN.out, Bool.eq_iff_iff]
    simp only [decide_eq_true_eq]
    omega
/-- What Words leaves. -/
def WordsPost (w : World) (O : Ob) (e : Ending) (w' : World) : Prop :=
  (mayB O = true ∧ ∃ v', e = .returned (.tuple #[v', .int .i64 0]) ∧ LsAt 1 uw w' v' (encO O) ∧ New w w') ∨ (mayB O = false ∧ e = .returned (.tuple #[.slice none 0 0, .int .i64 12]) ∧ New w w')
end Go.Proofs.Yteakbhfegbghoaa.Obj
