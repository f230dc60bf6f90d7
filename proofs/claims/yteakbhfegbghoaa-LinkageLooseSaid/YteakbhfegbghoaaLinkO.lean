/- Package linkage: Open: its refusals. -/
import Derived.Test.YteakbhfegbghoaaLinkE
import Derived.Test.YteakbhfegbghoaaObjH
namespace Go.Proofs.Yteakbhfegbghoaa.Link
open Go Go.RowKit Go.ChangeMaps Go.Proofs.Yteakbhfegbghoaa.Kit Go.Proofs.Yteakbhfegbghoaa.Area Go.Proofs.Yteakbhfegbghoaa.Wd
open Go.Proofs.Yteakbhfegbghoaa.Obj (Ob ObAt Lens uw ul mayO_any)
set_option linter.unusedSimpArgs false
set_option linter.unusedVariables false
section
variable {w0 w w' : World} {X b : Nat} {A : Nat → Nat} {ms : Nat → Ms} {M M' : List (Key × Sec)} {T : Nat → Prop}
theorem upd_self (ms : Nat → Ms) (r : Nat) : upd ms r (ms r) = ms := by
  funext s
  unfold upd
  by_cases e : s = r
  · rw [if_pos e, e]
  · rw [if_neg e]
theorem ob_static {a v c d : Value} {O : Ob} (h : ObAt w (.agg #[a, v, c, d]) O) : LsAt 1 uw w v O.static := by
  obtain ⟨a', b', c', d', e, h1, h2, h3, h4⟩ := h
  have e1 := congrArg Array.toList (Value.agg.inj e)
  simp at e1
  obtain ⟨rfl, rfl, rfl, rfl⟩ := e1
  exact h2
theorem ob_links {a v c d : Value} {O : Ob} (h : ObAt w (.agg #[a, v, c, d]) O) : LsAt 3 ul w d O.links := by
  obtain ⟨a', b', c', d', e, h1, h2, h3, h4⟩ := h
  have e1 := congrArg Array.toList (Value.agg.inj e)
  simp at e1
  obtain ⟨rfl, rfl, rfl, rfl⟩ := e1
  exact h4
theorem ob_val {v : Value} {O : Ob} (h : ObAt w v O) : ∃ a b c d, v = .agg #[a, b, c, d] := by
  obtain ⟨a', b', c', d', e, _⟩ := h
  exact ⟨_, _, _, _, e⟩
theorem Open_arg (r s : Int) (va vb vc vd : Value) (h : r < 0 ∨ 8 ≤ r ∨ s < 1 ∨ 63 < s) :
    Calls Try.prog 10 #[ptr X, .int .i64 r, .int .i64 s, .agg #[va, vb, vc, vd]] w fun e w' => e = .returned (.tuple #[.int .i64 0, .int .i64 1]) ∧ New w w' := by
  by_cases c1 : r < 0
  · clear h
    go_enter Try.func10, Try.ntmps10
    go_wp2
    go_ret2
    exact ⟨rfl, by (repeat (first | exact New.refl _ | (refine New.step ?_ (by assumption)) | apply New.alloc | apply New.drewN | apply New.drew))⟩
  by_cases c2 : 8 ≤ r
  · clear h
    go_enter Try.func10, Try.ntmps10
    go_wp2
    go_ret2
    exact ⟨rfl, by (repeat (first | exact New.refl _ | (refine New.step ?_ (by assumption)) | apply New.alloc | apply New.drewN | apply New.drew))⟩
  by_cases c3 : s < 1
  · clear h
    go_enter Try.func10, Try.ntmps10
    go_wp2
    go_ret2
    exact ⟨rfl, by (repeat (first | exact New.refl _ | (refine New.step ?_ (by assumption)) | apply New.alloc | apply New.drewN | apply New.drew))⟩
  · have c4 : 63 < s := by omega
    clear h
    go_enter Try.func10, Try.ntmps10
    go_wp2
    go_ret2
    exact ⟨rfl, by (repeat (first | exact New.refl _ | (refine New.step ?_ (by assumption)) | apply New.alloc | apply New.drewN | apply New.drew))⟩
theorem OpenM_there (h : LkO w0 w X b A ms M T) {r s : Nat} (hr : r < 8) (hs0 : 1 ≤ s) (hs : s ≤ 63) (hk : okK ((r : Int), (s : Int))) (va vb vc vd : Value) {B s1 l1 : Nat} (hg : get? M ((r : Int), (s : Int)) = some (B, s1, l1)) :
    Calls Try.prog 10 #[ptr X, .int .i64 (r : Int), .int .i64 (s : Int), .agg #[va, vb, vc, vd]] w fun e w' => e = .returned (.tuple #[.int .i64 (B : Int), .int .i64 0]) ∧ New w w' := by
  have c1 : ¬ (r : Int) < 0 := by omega
  have c2 : ¬ (8 : Int) ≤ (r : Int) := by omega
  have c3 : ¬ (s : Int) < 1 := by omega
  have c4 : ¬ (63 : Int) < (s : Int) := by omega
  have H := hid (fun W (hW : New w W) => get_some (h.new_ hW) (r : Int) (s : Int) hk _ hg)
  clear h hk hg
  go_enter Try.func10, Try.ntmps10
  go_wp2_with fail
  refine (H.out _ (by (repeat (first | exact New.refl _ | (refine New.step ?_ (by assumption)) | apply New.alloc | apply New.drewN | apply New.drew)))).mono ?_
  rintro e w1 ⟨rfl, hn⟩
  have hn1 := hid (New.step ((New.refl w).alloc _) hn)
  clear hn
  go_wp2
  go_ret2
  exact ⟨rfl, hn1.out.alloc _⟩
theorem OpenM_not (h : LkO w0 w X b A ms M T) {r s : Nat} (hr : r < 8) (hs0 : 1 ≤ s) (hs : s ≤ 63) (hk : okK ((r : Int), (s : Int))) (va vb vc vd : Value) (O : Ob) (hO : ObAt w (.agg #[va, vb, vc, vd]) O) (hL : Lens O) (hm : Obj.mayB O = false) (hg : get? M ((r : Int), (s : Int)) = none) :
    Calls Try.prog 10 #[ptr X, .int .i64 (r : Int), .int .i64 (s : Int), .agg #[va, vb, vc, vd]] w fun e w' => e = .returned (.tuple #[.int .i64 0, .int .i64 12]) ∧ New w w' := by
  have c1 : ¬ (r : Int) < 0 := by omega
  have c2 : ¬ (8 : Int) ≤ (r : Int) := by omega
  have c3 : ¬ (s : Int) < 1 := by omega
  have c4 : ¬ (63 : Int) < (s : Int) := by omega
  have H := hid (fun W (hW : New w W) => get_none (h.new_ hW) (r : Int) (s : Int) hk hg)
  have HM := hid (fun W (hW : New w W) => by have := mayO_any W _ O (hO.new_ hW) hL; rw [hm] at this; exact this)
  clear h hk hg hO hL hm
  go_enter Try.func10, Try.ntmps10
  go_wp2_with fail
  refine (H.out _ (by (repeat (first | exact New.refl _ | (refine New.step ?_ (by assumption)) | apply New.alloc | apply New.drewN | apply New.drew)))).mono ?_
  rintro e w1 ⟨rfl, hn⟩
  have hb1 := (Blk.new w 29 _).new_ hn
  have hn1 := hid (New.step ((New.refl w).alloc _) hn)
  have hz : w.heap.size < w1.heap.size := hb1.lt
  have hc := fun i => hb1.cell i
  clear hn hb1
  go_wp2_with fail
  refine (HM.out _ (hn1.out.alloc _)).mono ?_
  rintro e w2 ⟨rfl, n2⟩
  have hn2 := hid n2
  clear n2
  go_wp2
  go_ret2
  exact ⟨rfl, (hn1.out.alloc _).step hn2.out⟩
end
end Go.Proofs.Yteakbhfegbghoaa.Link
