/- The contracts of May, Words. -/
import Derived.Test.YtnoahdobgndmnaaObjG
namespace Go.Proofs.Ytnoahdobgndmnaa.Obj
open Go Go.RowKit Go.Maps Go.Proofs.Ytnoahdobgndmnaa.Kit Go.Proofs.Ytnoahdobgndmnaa.Str Go.Proofs.Ytnoahdobgndmnaa.Names Go.Proofs.Ytnoahdobgndmnaa.Let
open Go.Proofs.Ytnoahdobgndmnaa.Letters (wv WsAt word_info)
set_option linter.unusedSimpArgs false
set_option linter.unusedVariables false
/-- An object's box: what its cells say in any later world. -/
theorem box_ob {w : World} {v : Value} {O : Ob} (h : ObAt w v O) : ∃ a b c d, v = .agg #[a, b, c, d] ∧ ∀ X, New (w.alloc (.cells #[a, b, c, d] 27)) X → X.cell? ⟨w.heap.size, 0, none⟩ = some a ∧ X.cell? ⟨w.heap.size, 1, none⟩ = some b ∧ X.cell? ⟨w.heap.size, 2, none⟩ = some c ∧ X.cell? ⟨w.heap.size, 3, none⟩ = some d := by
  obtain ⟨a, b, c, d, e, _⟩ := h
  refine ⟨a, b, c, d, e, fun X hX => ?_⟩
  have := (Blk.new w 27 #[a, b, c, d]).new_ hX
  refine ⟨?_, ?_, ?_, ?_⟩ <;> rw [this.cell] <;> rfl
set_option maxRecDepth 100000 in
set_option maxHeartbeats 4000000 in
theorem mayO_any (w : World) (v : Value) (O : Ob) (h : ObAt w v O) (hL : Lens O) :
    Calls Try.prog 16 #[v] w fun e w' => e = .returned (.bool (mayB O)) ∧ New w w' := by
  obtain ⟨a, b, c, d, rfl, hcells⟩ := box_ob h
  obtain ⟨w1, hw1⟩ : ∃ w1, w1 = w.alloc (.cells #[a, b, c, d] 27) := ⟨_, rfl⟩
  have hW1 : New w w1 := by rw [hw1]; exact (New.refl w).alloc _
  rw [← hw1] at hcells
  have HB := hid hcells
  have HO := hid (fun X (hX : New w1 X) => h.new_ (hW1.step hX))
  have HW := hid hW1
  have hw1' := hid hw1
  have HL := hid hL
  clear hw1 hW1 hcells h hL
  have hf := fun X (hX : New w1 X) => fits_any X _ O (HO.out X hX) HL.out
  cases hb : fitsB O with
  | false =>
    rw [hb] at hf
    have HF := hid (show mayB O = false from by unfold mayB; rw [hb]; rfl)
    replace hf := hid hf
    clear hb
    go_enter Try.func16, Try.ntmps16
    go_wp2_with fail
    rw [← hw1'.out]
    refine (hf.out _ (New.refl _)).mono ?_
    rintro e w2 ⟨rfl, n2⟩
    go_wp2_with fail
    go_ret
    exact ⟨ret_bool HF.out.symm, HW.out.step n2⟩
  | true =>
    have hmd := fun X (hX : New w1 X) => made_any X _ O (HO.out X hX) ((fits_iff O).1 hb)
    have hm : mayB O = decide ((encO O).length ≤ 1024) := by unfold mayB; rw [hb]; rfl
    rw [hb] at hf
    obtain ⟨N, hN⟩ : ∃ N, N = (encO O).length := ⟨_, rfl⟩
    have HM := hid hm
    have HN := hid hN
    rw [← hN] at hmd
    replace hf := hid hf
    replace hmd := hid hmd
    clear hb hm hN
    go_enter Try.func16, Try.ntmps16
    go_wp2_with fail
    rw [← hw1'.out]
    refine (hf.out _ (New.refl _)).mono ?_
    rintro e w2 ⟨rfl, n2⟩
    obtain ⟨e0, e1, e2, e3⟩ := HB.out _ n2
    have N2 := hid n2
    clear n2
    go_wp2_with fail
    refine (hmd.out _ N2.out).mono ?_
    rintro e w3 ⟨x, rfl, hs, n3⟩
    obtain ⟨ax, cx, rfl⟩ := hs.val
    have N3 := hid n3
    clear hs n3
    go_wp2_with fail
    go_ret
    refine ⟨ret_bool ?_, (HW.out.step N2.out).step N3.out⟩
    rw [HM.out, ← HN.out, Bool.eq_iff_iff]
    simp only [decide_eq_true_eq]
    omega
/-- What Words leaves. -/
def WordsPost (w : World) (O : Ob) (e : Ending) (w' : World) : Prop :=
  (mayB O = true ∧ ∃ v', e = .returned (.tuple #[v', .int .i64 0]) ∧ LsAt 1 uw w' v' (encO O) ∧ New w w') ∨ (mayB O = false ∧ e = .returned (.tuple #[.slice none 0 0, .int .i64 12]) ∧ New w w')
set_option maxRecDepth 100000 in
set_option maxHeartbeats 4000000 in
theorem wordsO_any (w : World) (v : Value) (O : Ob) (h : ObAt w v O) (hL : Lens O) :
    Calls Try.prog 14 #[v] w (WordsPost w O) := by
  obtain ⟨a, b, c, d, rfl, hcells⟩ := box_ob h
  obtain ⟨w1, hw1⟩ : ∃ w1, w1 = w.alloc (.cells #[a, b, c, d] 27) := ⟨_, rfl⟩
  have hW1 : New w w1 := by rw [hw1]; exact (New.refl w).alloc _
  rw [← hw1] at hcells
  have HB := hid hcells
  have HO := hid (fun X (hX : New w1 X) => h.new_ (hW1.step hX))
  have HW := hid hW1
  have hw1' := hid hw1
  have HL := hid hL
  clear hw1 hW1 hcells h hL
  have hf := fun X (hX : New w1 X) => mayO_any X _ O (HO.out X hX) HL.out
  cases hb : mayB O with
  | false =>
    rw [hb] at hf
    have HF := hid hb
    replace hf := hid hf
    clear hb
    go_enter Try.func14, Try.ntmps14
    go_wp2_with fail
    rw [← hw1'.out]
    refine (hf.out _ (New.refl _)).mono ?_
    rintro e w2 ⟨rfl, n2⟩
    go_wp2_with fail
    go_ret2
    exact .inr ⟨HF.out, rfl, HW.out.step n2⟩
  | true =>
    have hmd := fun X (hX : New w1 X) => made_any X _ O (HO.out X hX) ((fits_iff O).1 (by unfold mayB at hb; rw [Bool.and_eq_true] at hb; exact hb.1))
    rw [hb] at hf
    have HM := hid hb
    replace hf := hid hf
    replace hmd := hid hmd
    clear hb
    go_enter Try.func14, Try.ntmps14
    go_wp2_with fail
    rw [← hw1'.out]
    refine (hf.out _ (New.refl _)).mono ?_
    rintro e w2 ⟨rfl, n2⟩
    obtain ⟨e0, e1, e2, e3⟩ := HB.out _ n2
    have N2 := hid n2
    clear n2
    go_wp2_with fail
    refine (hmd.out _ N2.out).mono ?_
    rintro e w3 ⟨x, rfl, hs, n3⟩
    have N3 := hid (And.intro hs n3)
    clear hs n3
    go_wp2_with fail
    go_ret2
    exact .inl ⟨HM.out, _, rfl, LsAt.of_sl uw_len N3.out.1, (HW.out.step N2.out).step N3.out.2⟩
end Go.Proofs.Ytnoahdobgndmnaa.Obj
