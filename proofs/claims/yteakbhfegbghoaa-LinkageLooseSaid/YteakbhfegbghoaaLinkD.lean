/- Package linkage: Snap, Unsnap, Close: their contracts over the map and the areas. -/
import Derived.Test.YteakbhfegbghoaaLinkC
namespace Go.Proofs.Yteakbhfegbghoaa.Link
open Go Go.RowKit Go.ChangeMaps Go.Proofs.Yteakbhfegbghoaa.Kit Go.Proofs.Yteakbhfegbghoaa.Area Go.Proofs.Yteakbhfegbghoaa.Wd
open Go.Proofs.Yteakbhfegbghoaa.Point (pt packN pack_yes mayB unpack_any may_any raise_any)
set_option linter.unusedSimpArgs false
set_option linter.unusedVariables false
section
variable {w0 w w' : World} {X b : Nat} {A : Nat → Nat} {ms : Nat → Ms} {M M' : List (Key × Sec)} {T : Nat → Prop}
theorem Snap_err (r s i x a1 a2 a3 a4 : Int) (hx : x ≠ 0) (H : ∀ W, New w W → Calls Try.prog 38 #[ptr X, .int .i64 r, .int .i64 s, .int .i64 i] W fun e w' => e = .returned (.tuple #[secZ, .int .i64 0, .int .i64 x]) ∧ New W w') :
    Calls Try.prog 13 #[ptr X, .int .i64 r, .int .i64 s, .int .i64 i, pt a1 a2 a3 a4] w fun e w' => e = .returned (.int .i64 x) ∧ New w w' := by
  have HH := hid H
  clear H
  go_enter Try.func13, Try.ntmps13
  go_wp2_with fail
  refine (HH.out _ (by (repeat (first | exact New.refl _ | (refine New.step ?_ (by assumption)) | apply New.alloc | apply New.drewN | apply New.drew)))).mono ?_
  rintro e w1 ⟨rfl, hn⟩
  have hn1 := hid (New.step ((New.refl w).alloc _) hn)
  clear hn
  go_wp2
  go_ret
  exact ⟨rfl, hn1.out.alloc _⟩
theorem Snap_arg (r s i k a1 a2 a3 a4 : Int) {B s1 l1 : Nat} (hp : mayB a1 a2 a3 a4 = false ∨ a3 ≠ 0) (H : ∀ W, New w W → Calls Try.prog 38 #[ptr X, .int .i64 r, .int .i64 s, .int .i64 i] W fun e w' => e = .returned (.tuple #[ev (B, s1, l1), .int .i64 k, .int .i64 0]) ∧ New W w') :
    Calls Try.prog 13 #[ptr X, .int .i64 r, .int .i64 s, .int .i64 i, pt a1 a2 a3 a4] w fun e w' => e = .returned (.int .i64 1) ∧ New w w' := by
  have HH := hid H
  have hm := fun W => may_any a1 a2 a3 a4 W
  clear H
  cases hb : mayB a1 a2 a3 a4 with
  | false =>
    rw [hb] at hm
    have HM := hid hm
    clear hm hb hp
    go_enter Try.func13, Try.ntmps13
    go_wp2_with fail
    refine (HH.out _ (by (repeat (first | exact New.refl _ | (refine New.step ?_ (by assumption)) | apply New.alloc | apply New.drewN | apply New.drew)))).mono ?_
    rintro e w1 ⟨rfl, hn⟩
    have hb1 := (Blk.new w 43 _).new_ hn
    have hc1 := fun o => (hb1.alloc o).cell
    have hn1 := hid (New.step ((New.refl w).alloc _) hn)
    have hz : w.heap.size < w1.heap.size := hb1.lt
    have hc := fun i => hb1.cell i
    clear hn hb1 hc1
    go_wp2_with fail
    refine (HM.out _).mono ?_
    rintro e w2 ⟨rfl, n2⟩
    have hn2 := hid n2
    clear n2
    go_wp2
    go_ret
    exact ⟨rfl, (hn1.out.alloc _).step hn2.out⟩
  | true =>
    rw [hb] at hm
    have HM := hid hm
    have ha3 : ¬ a3 = 0 := hp.elim (fun h => by rw [hb] at h; cases h) id
    clear hm hb hp
    go_enter Try.func13, Try.ntmps13
    go_wp2_with fail
    refine (HH.out _ (by (repeat (first | exact New.refl _ | (refine New.step ?_ (by assumption)) | apply New.alloc | apply New.drewN | apply New.drew)))).mono ?_
    rintro e w1 ⟨rfl, hn⟩
    have hb1 := (Blk.new w 43 _).new_ hn
    have hn1 := hid (New.step ((New.refl w).alloc _) hn)
    have hz : w.heap.size < w1.heap.size := hb1.lt
    have hc := fun i => hb1.cell i
    have HB1 := hid hb1
    clear hn hb1
    go_wp2_with fail
    refine (HM.out _).mono ?_
    rintro e w2 ⟨rfl, n2⟩
    have hn2 := hid n2
    have hb2 := (HB1.out.alloc _).new_ n2
    have hc2 := fun i => hb2.cell i
    clear n2 hb2 hc hz
    go_wp2
    go_ret
    exact ⟨rfl, (hn1.out.alloc _).step hn2.out⟩
theorem raise_nat (b r : Nat) (hr : r < 8) : mxZ (b : Int) (mnZ (mxZ (r : Int) 0) 7) = ((max b r : Nat) : Int) := by
  unfold mxZ mnZ
  omega
theorem SnapM_ok (h : LkO w0 w X b A ms M T) {r : Nat} (hr : r < 8) (s : Int) (n k a1 a2 a4 : Nat) (hk : okK ((r : Int), s)) {B s1 l1 : Nat} (hg : get? M ((r : Int), s) = some (B, s1, l1)) (hi : n < l1) (hs1 : s1 ≤ 1000) (hl1 : l1 ≤ 1000) (hkv : k = 1 + s1 + n)
    (hp : mayB a1 a2 (0 : Nat) a4 = true) (hp2 : mayB a1 (max a2 r : Nat) (0 : Nat) a4 = true) :
    Calls Try.prog 13 #[ptr X, .int .i64 (r : Int), .int .i64 s, .int .i64 (n : Int), pt a1 a2 0 a4] w fun e w' => e = .returned (.int .i64 0) ∧ LkO w0 w' X b A (upd ms r (writeM (ms r) (B : Int) (k : Int) (cutW (packN a1 (max a2 r) 0 a4 : Nat)))) M T ∧ Same (fun k => T k ∨ k = b) w w' := by
  have H := hid (fun W (hW : New w W) => link_ok (h.new_ hW) (r : Int) s n k hk hg hi hs1 hl1 hkv)
  have HL := hid h
  have HM := hid (fun W => by have := may_any (a1 : Int) a2 (0 : Nat) a4 W; rw [hp] at this; exact this)
  have HR := hid (fun W => by have := raise_any (a1 : Int) a2 (0 : Nat) a4 (r : Int) W; rw [raise_nat a2 r hr] at this; exact this)
  have HP := hid (fun W => pack_yes a1 (max a2 r) 0 a4 hp2 W)
  clear h hk hg hi hkv hp hp2
  generalize packN a1 (max a2 r) 0 a4 = x at *
  generalize max a2 r = a5 at *
  go_enter Try.func13, Try.ntmps13
  go_wp2_with fail
  refine (H.out _ (by (repeat (first | exact New.refl _ | (refine New.step ?_ (by assumption)) | apply New.alloc | apply New.drewN | apply New.drew)))).mono ?_
  rintro e w1 ⟨rfl, hn⟩
  have hb1 := (Blk.new w 43 _).new_ hn
  have hn1 := hid (New.step ((New.refl w).alloc _) hn)
  have hz : w.heap.size < w1.heap.size := hb1.lt
  have hc := fun i => hb1.cell i
  have HB1 := hid hb1
  clear hn hb1
  go_wp2_with fail
  refine (HM.out _).mono ?_
  rintro e w2 ⟨rfl, n2⟩
  have hb2 := (HB1.out.alloc (.cells #[.int .i64 (B : Int), .int .i64 (s1 : Int), .int .i64 (l1 : Int)] 87)).new_ n2
  have hB2 := (Blk.new w1 87 #[.int .i64 (B : Int), .int .i64 (s1 : Int), .int .i64 (l1 : Int)]).new_ n2
  have hn2 := hid ((hn1.out.alloc (.cells #[.int .i64 (B : Int), .int .i64 (s1 : Int), .int .i64 (l1 : Int)] 87)).step n2)
  have hc2 := fun i => hb2.cell i
  have HB2 := hid hB2
  obtain ⟨G, hG⟩ : ∃ G, G = w1.heap.size := ⟨_, rfl⟩
  rw [← hG] at HB2 ⊢
  clear n2 hb2 hB2 hc hz hG
  go_wp2_with fail
  refine (HR.out _).mono ?_
  rintro e w3 ⟨rfl, n3⟩
  have hn3 := hid n3
  clear n3
  go_wp2_with fail
  refine (HP.out _).mono ?_
  rintro e w4 ⟨rfl, n4⟩
  have hn4 := hid (hn2.out.step (hn3.out.step n4))
  have hB4 := (HB2.out.new_ hn3.out).new_ n4
  have hcB := fun i => hB4.cell i
  clear n4 hB4 hc2
  have HW := hid (put_any (HL.out.new_ hn4.out) hr (B : Int) (k : Int) (x : Int))
  go_wp2_with fail
  refine HW.out.mono ?_
  rintro e w5 ⟨rfl, h5, s5⟩
  have H5 := hid (And.intro h5 s5)
  clear h5 s5 hcB
  go_wp2
  go_ret
  exact ⟨rfl, H5.out.1, HL.out.after hn4.out H5.out.2 (fun k hk => hk)⟩
theorem Unsnap_err (r s i x : Int) (hx : x ≠ 0) (H : ∀ W, New w W → Calls Try.prog 14 #[ptr X, .int .i64 r, .int .i64 s, .int .i64 i] W fun e w' => e = .returned (.tuple #[pt 0 0 0 0, .int .i64 x]) ∧ New W w') :
    Calls Try.prog 26 #[ptr X, .int .i64 r, .int .i64 s, .int .i64 i] w fun e w' => e = .returned (.tuple #[.bool false, .int .i64 x]) ∧ New w w' := by
  have HH := hid H
  clear H
  go_enter Try.func26, Try.ntmps26
  go_wp2_with fail
  refine (HH.out _ (by (repeat (first | exact New.refl _ | (refine New.step ?_ (by assumption)) | apply New.alloc | apply New.drewN | apply New.drew)))).mono ?_
  rintro e w1 ⟨rfl, hn⟩
  have hn1 := hid hn
  clear hn
  go_wp2
  go_ret2
  exact ⟨rfl, hn1.out.alloc _⟩
theorem Unsnap_no (r s i a1 a2 a3 a4 : Int) (h3 : ¬ a3 = 0) (H : ∀ W, New w W → Calls Try.prog 14 #[ptr X, .int .i64 r, .int .i64 s, .int .i64 i] W fun e w' => e = .returned (.tuple #[pt a1 a2 a3 a4, .int .i64 0]) ∧ New W w') :
    Calls Try.prog 26 #[ptr X, .int .i64 r, .int .i64 s, .int .i64 i] w fun e w' => e = .returned (.tuple #[.bool false, .int .i64 0]) ∧ New w w' := by
  have HH := hid H
  clear H
  go_enter Try.func26, Try.ntmps26
  go_wp2_with fail
  refine (HH.out _ (by (repeat (first | exact New.refl _ | (refine New.step ?_ (by assumption)) | apply New.alloc | apply New.drewN | apply New.drew)))).mono ?_
  rintro e w1 ⟨rfl, hn⟩
  have hn1 := hid hn
  clear hn
  go_wp2
  go_ret2
  exact ⟨rfl, hn1.out.alloc _⟩
theorem UnsnapM_yes (h : LkO w0 w X b A ms M T) {r : Nat} (hr : r < 8) (s n k : Nat) (hk : okK ((r : Int), (s : Int))) {B s1 l1 : Nat} (hg : get? M ((r : Int), (s : Int)) = some (B, s1, l1)) (hi : n < l1) (hs1 : s1 ≤ 1000) (hl1 : l1 ≤ 1000) (hkv : k = 1 + s1 + n)
    (hp : mayB s r 1 n = true) {a1 a2 a4 : Int} (HL : ∀ W, New w W → Calls Try.prog 14 #[ptr X, .int .i64 (r : Int), .int .i64 (s : Int), .int .i64 (n : Int)] W fun e w' => e = .returned (.tuple #[pt a1 a2 0 a4, .int .i64 0]) ∧ New W w') :
    Calls Try.prog 26 #[ptr X, .int .i64 (r : Int), .int .i64 (s : Int), .int .i64 (n : Int)] w fun e w' => e = .returned (.tuple #[.bool true, .int .i64 0]) ∧ LkO w0 w' X b A (upd ms r (writeM (ms r) (B : Int) (k : Int) (cutW (packN s r 1 n : Nat)))) M T ∧ Same (fun k => T k ∨ k = b) w w' := by
  have H := hid (fun W (hW : New w W) => link_ok (h.new_ hW) (r : Int) (s : Int) n k hk hg hi hs1 hl1 hkv)
  have HO := hid h
  have HH := hid HL
  have HF := hid (fun W => fault_any r s n hp W)
  clear h hk hg hi hkv hp HL
  generalize packN s r 1 n = x at *
  go_enter Try.func26, Try.ntmps26
  go_wp2_with fail
  refine (HH.out _ (by (repeat (first | exact New.refl _ | (refine New.step ?_ (by assumption)) | apply New.alloc | apply New.drewN | apply New.drew)))).mono ?_
  rintro e w1 ⟨rfl, hn⟩
  have hn1 := hid hn
  clear hn
  go_wp2_with fail
  refine (H.out _ (hn1.out.alloc _)).mono ?_
  rintro e w2 ⟨rfl, n2⟩
  have hn2 := hid ((hn1.out.alloc _).step n2)
  clear n2
  go_wp2_with fail
  have hn4 := hn2.out.alloc (.cells #[.int .i64 (B : Int), .int .i64 (s1 : Int), .int .i64 (l1 : Int)] 87)
  have hB4 := Blk.new w2 87 #[.int .i64 (B : Int), .int .i64 (s1 : Int), .int .i64 (l1 : Int)]
  obtain ⟨w4, hw4⟩ : ∃ w4, w4 = w2.alloc (.cells #[.int .i64 (B : Int), .int .i64 (s1 : Int), .int .i64 (l1 : Int)] 87) := ⟨_, rfl⟩
  obtain ⟨G, hG⟩ : ∃ G, G = w2.heap.size := ⟨_, rfl⟩
  rw [← hw4, ← hG] at hB4 ⊢
  rw [← hw4] at hn4
  have cB : w4.cell? ⟨G, 0, none⟩ = some (.int .i64 (B : Int)) := hB4.cell 0
  have HB4 := hid hB4
  have HN4 := hid hn4
  have HW4 := hid (And.intro hw4 hG)
  clear hB4 hn4 hw4 hG
  have hl4 := (HO.out.new_ hn2.out).box (.cells #[.int .i64 (B : Int), .int .i64 (s1 : Int), .int .i64 (l1 : Int)] 87)
  rw [← HW4.out.1, ← HW4.out.2] at hl4
  have HPut := hid (fun W (hW : New w4 W) => put_any (hl4.new_ hW) hr (B : Int) (k : Int) (x : Int))
  clear hl4
  go_region_held3 (fun w' => w'.cell? ⟨G, 0, none⟩ = some (.int .i64 (B : Int))) (first | exact cB | exact hS6 | exact hS5) (first
    | (go_at_call 35; (with_reducible refine (HF.out _).mono ?_); rintro e w5 ⟨rfl, n5⟩; have hS5 := (HB4.out.drew.new_ n5).cell 0)
    | (go_at_call 34; (with_reducible refine (HPut.out _ ((New.refl w4).drew.step n5)).mono ?_); rintro e w6 ⟨rfl, h6, s6⟩; have hS6 := Blk.cell (Blk.of_block (HB4.out.drew.new_ n5) (s6.2 G (.inl (.inr rfl)))) 0))
  have H6 := hid (And.intro h6 (And.intro s6 n5))
  clear h6 s6 n5 hS5 hS6 cB
  go_wp2
  go_ret2
  exact ⟨rfl, H6.out.1.less (fun k hk => .inl hk), HO.out.after ((HN4.out.drew).step H6.out.2.2) H6.out.2.1 (fun k hk => hk.elim (fun h => .inl (.inl h)) .inr)⟩
end
end Go.Proofs.Yteakbhfegbghoaa.Link
