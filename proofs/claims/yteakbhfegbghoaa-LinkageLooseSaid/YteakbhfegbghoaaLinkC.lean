/- Package linkage: Has, Used, Link, Own, SetOwn: their contracts over the map and the areas. -/
import Derived.Test.YteakbhfegbghoaaLinkQ
import Derived.Test.YteakbhfegbghoaaPtPack
import Derived.Deep.RegionHeld3
import Derived.BigQuiet
namespace Go.Proofs.Yteakbhfegbghoaa.Link
open Go Go.RowKit Go.ChangeMaps Go.Proofs.Yteakbhfegbghoaa.Kit Go.Proofs.Yteakbhfegbghoaa.Area Go.Proofs.Yteakbhfegbghoaa.Wd
open Go.Proofs.Yteakbhfegbghoaa.Point (pt packN pack_yes mayB unpack_any)
set_option linter.unusedSimpArgs false
set_option linter.unusedVariables false
abbrev secZ : Value := .agg #[.int .i64 0, .int .i64 0, .int .i64 0]
section
variable {w0 w w' : World} {X b : Nat} {A : Nat → Nat} {ms : Nat → Ms} {M M' : List (Key × Sec)} {T : Nat → Prop}
theorem hasM_any (h : LkO w0 w X b A ms M T) (r s : Int) (hk : okK (r, s)) :
    Calls Try.prog 29 #[ptr X, .int .i64 r, .int .i64 s] w fun e w' => e = .returned (.bool (get? M (r, s)).isSome) ∧ New w w' := by
  cases hg : get? M (r, s) with
  | none =>
    have H := hid (get_none h r s hk hg)
    clear h hk hg
    go_enter Try.func29, Try.ntmps29
    go_wp2_with fail
    refine H.out.mono ?_
    rintro e w1 ⟨rfl, hn⟩
    have hn1 := hid hn
    clear hn
    go_wp2
    go_ret
    exact ⟨rfl, hn1.out.alloc _⟩
  | some v =>
    have H := hid (get_some h r s hk v hg)
    clear h hk hg
    go_enter Try.func29, Try.ntmps29
    go_wp2_with fail
    refine H.out.mono ?_
    rintro e w1 ⟨rfl, hn⟩
    have hn1 := hid hn
    clear hn
    go_wp2
    go_ret
    exact ⟨rfl, hn1.out.alloc _⟩
theorem usedM_any (h : LkO w0 w X b A ms M T) {r : Nat} (hr : r < 8) :
    Calls Try.prog 12 #[ptr X, .int .i64 (r : Int)] w fun e w' => e = .returned (.int .i64 (usedM (ms r) : Int)) ∧ New w w' := by
  have hc := h.cellA hr
  have i0 : (0 : Int) ≤ (r : Int) := by omega
  have i1 : (r : Int) < 8 := by omega
  have i2 : ¬ (r : Int) < 0 := by omega
  have i3 : ¬ (8 : Int) ≤ (r : Int) := by omega
  have H := hid (usedL h hr)
  clear h
  go_enter Try.func12, Try.ntmps12
  go_wp2_with fail
  refine H.out.mono ?_
  rintro e w1 ⟨rfl, hn⟩
  have hn1 := hid hn
  clear hn
  go_wp2
  go_ret
  exact ⟨rfl, hn1.out⟩
theorem used_out (X : Nat) (r : Int) (hr : r < 0 ∨ 8 ≤ r) (w : World) :
    Calls Try.prog 12 #[ptr X, .int .i64 r] w fun e w' => e = .returned (.int .i64 0) ∧ w' = w := by
  by_cases h0 : r < 0
  · clear hr
    go_enter Try.func12, Try.ntmps12
    go_wp2
    go_ret
    exact ⟨rfl, rfl⟩
  · have h1 : 8 ≤ r := by omega
    clear hr
    go_enter Try.func12, Try.ntmps12
    go_wp2
    go_ret
    exact ⟨rfl, rfl⟩
/-- An error of link is an error of Link. -/
theorem Link_err (r s i x : Int) (hx : x ≠ 0) (H : ∀ W, New w W → Calls Try.prog 38 #[ptr X, .int .i64 r, .int .i64 s, .int .i64 i] W fun e w' => e = .returned (.tuple #[secZ, .int .i64 0, .int .i64 x]) ∧ New W w') :
    Calls Try.prog 14 #[ptr X, .int .i64 r, .int .i64 s, .int .i64 i] w fun e w' => e = .returned (.tuple #[pt 0 0 0 0, .int .i64 x]) ∧ New w w' := by
  have HH := hid H
  clear H
  go_enter Try.func14, Try.ntmps14
  go_wp2_with fail
  refine (HH.out _ (by (repeat (first | exact New.refl _ | (refine New.step ?_ (by assumption)) | apply New.alloc | apply New.drewN | apply New.drew)))).mono ?_
  rintro e w1 ⟨rfl, hn⟩
  have hc := boxed hn
  have hf := fun i => ((Blk.new w 43 _).new_ hn).frozen i
  have hs := hn.size
  rw [World.size_alloc] at hs
  have hz : w.heap.size < w1.heap.size := by omega
  have hn1 := New.step ((New.refl w).alloc _) hn
  clear hn
  go_wp2
  refine bodyPost_ret (v := .tuple #[pt 0 0 0 0, .int .i64 x]) (by simp [results, Try.results14, go_sem, hz, hc, hf, size_setCell, World.cell?_setCell_other]) rfl ?_
  refine ⟨rfl, ?_⟩
  repeat (first | exact hn1 | (refine New.alloc ?_ _) | (refine New.setCell ?_ (by first | exact Nat.le_refl _ | (simp; omega)) _) | (refine New.drew ?_))
theorem Own_err (r s i x : Int) (hx : x ≠ 0) (H : ∀ W, New w W → Calls Try.prog 44 #[ptr X, .int .i64 r, .int .i64 s, .int .i64 i] W fun e w' => e = .returned (.tuple #[secZ, .int .i64 0, .int .i64 x]) ∧ New W w') :
    Calls Try.prog 17 #[ptr X, .int .i64 r, .int .i64 s, .int .i64 i] w fun e w' => e = .returned (.tuple #[.int .u64 0, .int .i64 x]) ∧ New w w' := by
  have HH := hid H
  clear H
  go_enter Try.func17, Try.ntmps17
  go_wp2_with fail
  refine (HH.out _ (by (repeat (first | exact New.refl _ | (refine New.step ?_ (by assumption)) | apply New.alloc | apply New.drewN | apply New.drew)))).mono ?_
  rintro e w1 ⟨rfl, hn⟩
  have hn1 := hid hn
  clear hn
  go_wp2
  go_ret2
  exact ⟨rfl, hn1.out.alloc _⟩
theorem SetOwn_err (r s i x y : Int) (hx : x ≠ 0) (H : ∀ W, New w W → Calls Try.prog 44 #[ptr X, .int .i64 r, .int .i64 s, .int .i64 i] W fun e w' => e = .returned (.tuple #[secZ, .int .i64 0, .int .i64 x]) ∧ New W w') :
    Calls Try.prog 16 #[ptr X, .int .i64 r, .int .i64 s, .int .i64 i, .int .u64 y] w fun e w' => e = .returned (.int .i64 x) ∧ New w w' := by
  have HH := hid H
  clear H
  go_enter Try.func16, Try.ntmps16
  go_wp2_with fail
  refine (HH.out _ (by (repeat (first | exact New.refl _ | (refine New.step ?_ (by assumption)) | apply New.alloc | apply New.drewN | apply New.drew)))).mono ?_
  rintro e w1 ⟨rfl, hn⟩
  have hn1 := hid hn
  clear hn
  go_wp2
  go_ret
  exact ⟨rfl, hn1.out.alloc _⟩
theorem LinkM_ok (h : LkO w0 w X b A ms M T) {r : Nat} (hr : r < 8) (s : Int) (n k x : Nat) (hk : okK ((r : Int), s)) {B s1 l1 : Nat} (hg : get? M ((r : Int), s) = some (B, s1, l1)) (hi : n < l1) (hs1 : s1 ≤ 1000) (hl1 : l1 ≤ 1000) (hkv : k = 1 + s1 + n)
    (hE : readEM (ms r) (B : Int) (k : Int) = 0) (hW : readWM (ms r) (B : Int) (k : Int) = (x : Int)) (hx : x < 18446744073709551616) :
    Calls Try.prog 14 #[ptr X, .int .i64 (r : Int), .int .i64 s, .int .i64 (n : Int)] w fun e w' => e = .returned (.tuple #[pt ((getN x 0 12 : Nat) : Int) ((getN x 12 3 : Nat) : Int) ((getN x 15 3 : Nat) : Int) ((getN x 18 18 : Nat) : Int), .int .i64 0]) ∧ New w w' := by
  have H := hid (fun W (hW : New w W) => link_ok (h.new_ hW) (r : Int) s n k hk hg hi hs1 hl1 hkv)
  have HR := hid (fun W (hW : New w W) => by have := readL (h.new_ hW) hr (B : Int) (k : Int); rw [hE, ‹readWM _ _ _ = _›] at this; exact this)
  have HU := hid (fun W => unpack_any x hx W)
  have HA := hid (h.cellA hr)
  have i0 : (0 : Int) ≤ (r : Int) := by omega
  have i1 : (r : Int) < 8 := by omega
  clear h hk hg hi hkv hE hW hx
  generalize ((getN x 0 12 : Nat) : Int) = p1 at *
  generalize ((getN x 12 3 : Nat) : Int) = p2 at *
  generalize ((getN x 15 3 : Nat) : Int) = p3 at *
  generalize ((getN x 18 18 : Nat) : Int) = p4 at *
  go_enter Try.func14, Try.ntmps14
  go_wp2_with fail
  refine (H.out _ (by (repeat (first | exact New.refl _ | (refine New.step ?_ (by assumption)) | apply New.alloc | apply New.drewN | apply New.drew)))).mono ?_
  rintro e w1 ⟨rfl, hn⟩
  have hn1 := New.step ((New.refl w).alloc _) hn
  have hn4 := hn1.alloc (.cells #[.int .i64 (B : Int), .int .i64 (s1 : Int), .int .i64 (l1 : Int)] 87)
  have hB4 := Blk.new w1 87 #[.int .i64 (B : Int), .int .i64 (s1 : Int), .int .i64 (l1 : Int)]
  have hb1 := (Blk.new w 43 _).new_ hn
  have hb4 := hb1.alloc (.cells #[.int .i64 (B : Int), .int .i64 (s1 : Int), .int .i64 (l1 : Int)] 87)
  have HN := hid (And.intro hn4 (And.intro hB4 hb4))
  clear hn hn1 hn4 hB4 hb1 hb4
  go_wp2_with fail
  obtain ⟨w4, hw4⟩ : ∃ w4, w4 = w1.alloc (.cells #[.int .i64 (B : Int), .int .i64 (s1 : Int), .int .i64 (l1 : Int)] 87) := ⟨_, rfl⟩
  obtain ⟨G, hG⟩ : ∃ G, G = w1.heap.size := ⟨_, rfl⟩
  rw [← hw4, ← hG] at HN ⊢
  clear hw4 hG
  have cA : w4.cell? ⟨X, r, none⟩ = some (ptr (A r)) := HN.out.1.cellK HA.out
  have cB : w4.cell? ⟨G, 0, none⟩ = some (.int .i64 (B : Int)) := HN.out.2.1.cell 0
  have HR4 := hid (fun W (hW : New w4 W) => HR.out W (HN.out.1.step hW))
  refine wp_region_quiet (C := fun w' => New w4 w') (by kernel_rfl) (by kernel_rfl) (New.refl w4).drew ?_
  simp only [List.toList_toArray]
  repeat (first
    | go_big_quiet_skip
    | (go_big_quiet_want
       apply Exists.intro
       refine ⟨fun w' hw' => ?_, ?_⟩
       · have cA_ := hw'.cellK cA; have cB_ := hw'.cellK cB; go_simp; first | (with_reducible rfl) | (go_at_call 42; with_reducible exact ((HR4.out _ hw').mono (fun e w2 h => ⟨h.1, hw'.step h.2⟩)))
       go_big_quiet_on
       try simp only [Act.put, List.setIfInBounds_toArray, List.set_cons_zero, List.set_cons_succ]))
  refine wpQuiet_nil ?_
  intro wQ hwQ
  have hbQ := hid (HN.out.2.2.new_ hwQ)
  have hnQ := hid (HN.out.1.step hwQ)
  clear hwQ cA cB
  go_wp2_with fail
  refine (HU.out _).mono ?_
  rintro e w6 ⟨rfl, n6⟩
  have hb6 := hbQ.out.new_ n6
  have hc := fun i => hb6.cell i
  have hf := fun i => hb6.frozen i
  have hz : w.heap.size < w6.heap.size := hb6.lt
  have hn1 := hnQ.out.step n6
  clear hb6 n6
  go_wp2
  refine bodyPost_ret (v := .tuple #[pt p1 p2 p3 p4, .int .i64 0]) (by simp [results, Try.results14, go_sem, hz, hc, hf, size_setCell, World.cell?_setCell_other]) rfl ?_
  refine ⟨rfl, ?_⟩
  repeat (first | exact hn1 | (refine New.alloc ?_ _) | (refine New.setCell ?_ (by first | exact Nat.le_refl _ | (simp; omega)) _) | (refine New.drew ?_))
theorem OwnM_ok (h : LkO w0 w X b A ms M T) {r : Nat} (hr : r < 8) (s : Int) (n k x : Nat) (hk : okK ((r : Int), s)) {B s1 l1 : Nat} (hg : get? M ((r : Int), s) = some (B, s1, l1)) (hi : n < s1) (hs1 : s1 ≤ 1000) (hl1 : l1 ≤ 1000) (hkv : k = 1 + n)
    (hE : readEM (ms r) (B : Int) (k : Int) = 0) (hW : readWM (ms r) (B : Int) (k : Int) = (x : Int)) :
    Calls Try.prog 17 #[ptr X, .int .i64 (r : Int), .int .i64 s, .int .i64 (n : Int)] w fun e w' => e = .returned (.tuple #[.int .u64 (x : Int), .int .i64 0]) ∧ New w w' := by
  have H := hid (fun W (hW : New w W) => own_ok (h.new_ hW) (r : Int) s n k hk hg hi hs1 hl1 hkv)
  have HR := hid (fun W (hW : New w W) => by have := readL (h.new_ hW) hr (B : Int) (k : Int); rw [hE, ‹readWM _ _ _ = _›] at this; exact this)
  have HA := hid (h.cellA hr)
  have i0 : (0 : Int) ≤ (r : Int) := by omega
  have i1 : (r : Int) < 8 := by omega
  clear h hk hg hi hkv hE hW
  go_enter Try.func17, Try.ntmps17
  go_wp2_with fail
  refine (H.out _ (by (repeat (first | exact New.refl _ | (refine New.step ?_ (by assumption)) | apply New.alloc | apply New.drewN | apply New.drew)))).mono ?_
  rintro e w1 ⟨rfl, hn1⟩
  have hn4 := hn1.alloc (.cells #[.int .i64 (B : Int), .int .i64 (s1 : Int), .int .i64 (l1 : Int)] 87)
  have hB4 := Blk.new w1 87 #[.int .i64 (B : Int), .int .i64 (s1 : Int), .int .i64 (l1 : Int)]
  have HN := hid (And.intro hn4 hB4)
  clear hn1 hn4 hB4
  go_wp2_with fail
  obtain ⟨w4, hw4⟩ : ∃ w4, w4 = w1.alloc (.cells #[.int .i64 (B : Int), .int .i64 (s1 : Int), .int .i64 (l1 : Int)] 87) := ⟨_, rfl⟩
  obtain ⟨G, hG⟩ : ∃ G, G = w1.heap.size := ⟨_, rfl⟩
  rw [← hw4, ← hG] at HN ⊢
  clear hw4 hG
  have cA : w4.cell? ⟨X, r, none⟩ = some (ptr (A r)) := HN.out.1.cellK HA.out
  have cB : w4.cell? ⟨G, 0, none⟩ = some (.int .i64 (B : Int)) := HN.out.2.cell 0
  have HR4 := hid (fun W (hW : New w4 W) => HR.out W (HN.out.1.step hW))
  refine wp_region_quiet (C := fun w' => New w4 w') (by kernel_rfl) (by kernel_rfl) (New.refl w4).drew ?_
  simp only [List.toList_toArray]
  repeat (first
    | go_big_quiet_skip
    | (go_big_quiet_want
       apply Exists.intro
       refine ⟨fun w' hw' => ?_, ?_⟩
       · have cA_ := hw'.cellK cA; have cB_ := hw'.cellK cB; go_simp; first | (with_reducible rfl) | (go_at_call 42; with_reducible exact ((HR4.out _ hw').mono (fun e w2 h => ⟨h.1, hw'.step h.2⟩)))
       go_big_quiet_on
       try simp only [Act.put, List.setIfInBounds_toArray, List.set_cons_zero, List.set_cons_succ]))
  refine wpQuiet_nil ?_
  intro wQ hwQ
  have hnQ := hid (HN.out.1.step hwQ)
  clear hwQ cA cB
  go_wp2
  go_ret2
  exact ⟨rfl, hnQ.out⟩
theorem SetOwnM_ok (h : LkO w0 w X b A ms M T) {r : Nat} (hr : r < 8) (s y : Int) (n k : Nat) (hk : okK ((r : Int), s)) {B s1 l1 : Nat} (hg : get? M ((r : Int), s) = some (B, s1, l1)) (hi : n < s1) (hs1 : s1 ≤ 1000) (hl1 : l1 ≤ 1000) (hkv : k = 1 + n)
    (hE : readEM (ms r) (B : Int) (k : Int) = 0) :
    Calls Try.prog 16 #[ptr X, .int .i64 (r : Int), .int .i64 s, .int .i64 (n : Int), .int .u64 y] w fun e w' => e = .returned (.int .i64 0) ∧ LkO w0 w' X b A (upd ms r (writeM (ms r) (B : Int) (k : Int) (cutW y))) M T ∧ Same (fun k => T k ∨ k = b) w w' := by
  have H := hid (own_ok h (r : Int) s n k hk hg hi hs1 hl1 hkv)
  have HL := hid h
  have HE := hid hE
  have i0 : (0 : Int) ≤ (r : Int) := by omega
  have i1 : (r : Int) < 8 := by omega
  clear h hk hg hi hkv hE
  go_enter Try.func16, Try.ntmps16
  go_wp2_with fail
  refine H.out.mono ?_
  rintro e w1 ⟨rfl, hn1⟩
  have HN := hid hn1
  have hl1' := HL.out.new_ hn1
  clear hn1
  go_wp2_with fail
  have hl4 := hl1'.box (.cells #[.int .i64 (B : Int), .int .i64 (s1 : Int), .int .i64 (l1 : Int)] 87)
  have hB4 := Blk.new w1 87 #[.int .i64 (B : Int), .int .i64 (s1 : Int), .int .i64 (l1 : Int)]
  have hn4 := HN.out.alloc (.cells #[.int .i64 (B : Int), .int .i64 (s1 : Int), .int .i64 (l1 : Int)] 87)
  obtain ⟨w4, hw4⟩ : ∃ w4, w4 = w1.alloc (.cells #[.int .i64 (B : Int), .int .i64 (s1 : Int), .int .i64 (l1 : Int)] 87) := ⟨_, rfl⟩
  obtain ⟨G, hG⟩ : ∃ G, G = w1.heap.size := ⟨_, rfl⟩
  rw [← hw4, ← hG] at hl4 hB4 ⊢
  rw [← hw4] at hn4
  have hW4 := hid (writeL (hl4.new_ (New.refl w4).drew) hr (B : Int) (k : Int) y)
  have cA : w4.cell? ⟨X, r, none⟩ = some (ptr (A r)) := hl4.cellA hr
  have cB : w4.cell? ⟨G, 0, none⟩ = some (.int .i64 (B : Int)) := hB4.cell 0
  have HB4 := hid hB4
  have HN4 := hid hn4
  clear hl1' hl4 hB4 hn4 hw4 hG
  rw [HE.out] at hW4
  go_region_held3 (fun w' => w'.cell? ⟨X, r, none⟩ = some (ptr (A r)) ∧ w'.cell? ⟨G, 0, none⟩ = some (.int .i64 (B : Int))) (first | exact ⟨cA, cB⟩ | exact hS5) (first | (go_at_call 45; (with_reducible refine hW4.out.mono ?_); rintro e w5 ⟨rfl, h5, s5⟩; have hS5 := And.intro (h5.cellA hr) (Blk.cell (Blk.of_block HB4.out (s5.2 G (.inl (.inr rfl)))) 0)))
  go_wp2
  go_ret
  exact ⟨rfl, h5.less (fun k hk => .inl hk), HL.out.after HN4.out.drew s5 (fun k hk => hk.elim (fun h => .inl (.inl h)) .inr)⟩
end
end Go.Proofs.Yteakbhfegbghoaa.Link
