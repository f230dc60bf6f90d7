/- The walk of ObjectKnown. -/
import Derived.Test.YtnoahdobgndmnaaKn
import Derived.Test.YtnoahdobgndmnaaReg
import Derived.Test.YtnoahdobgndmnaaObjO
import Derived.BigQuiet
import Derived.Deep.RegionHeld3
import Derived.Deep.CutRange
namespace Go.Proofs.Ytnoahdobgndmnaa.Law
open Go Go.RowKit Go.ChangeShapes Go.WideShapes Go.Proofs.Ytnoahdobgndmnaa.Kit Go.Proofs.Ytnoahdobgndmnaa.Str Go.Proofs.Ytnoahdobgndmnaa.Obj Go.Proofs.Ytnoahdobgndmnaa.Open Go.Proofs.Ytnoahdobgndmnaa.Wd
open Go.Proofs.Ytnoahdobgndmnaa.Letters (wv)
set_option linter.unusedSimpArgs false
set_option linter.unusedVariables false
set_option maxRecDepth 100000 in
set_option maxHeartbeats 8000000 in
theorem objectKnown_walk (w : World) :
    Calls Try.prog 4 #[] w fun e w' => e = .returned (.bool true) ∧ New w w' := by
  have hz := zero_obj
  go_enter Try.func4, Try.ntmps4
  go_wp2_with fail
  refine (awake_any w).mono ?_
  rintro e w1 ⟨rfl, n1⟩
  have N1 := hid n1
  clear n1
  go_upto_region 4 with fail
  obtain ⟨w2, hw2⟩ : ∃ w2, w2 = ((((w1.alloc (.cells #[.int .u64 5, .int .u64 6] 37)).alloc (.cells #[.int .u64 7] 37)).alloc (.cells #[st [103, 111], .int .i64 1] 41)).alloc (.cells #[st [97], st [98], .int .i64 3] 43)).alloc (.cells #[.slice (some ⟨w1.heap.size, 0, none⟩) 2 2, .slice (some ⟨w1.heap.size + 1, 0, none⟩) 1 1, .slice (some ⟨w1.heap.size + 1 + 1, 0, none⟩) 1 1, .slice (some ⟨w1.heap.size + 1 + 1 + 1, 0, none⟩) 1 1] 27) := ⟨_, rfl⟩
  obtain ⟨p0, hp0⟩ : ∃ p0, p0 = w1.heap.size := ⟨_, rfl⟩
  obtain ⟨p4, hp4⟩ : ∃ p4, p4 = w1.heap.size + 1 + 1 + 1 + 1 := ⟨_, rfl⟩
  have n2 : New w1 w2 := by rw [hw2]; exact (((((New.refl w1).alloc _).alloc _).alloc _).alloc _).alloc _
  have ho2 : ObAt w2 (.agg #[.slice (some ⟨w1.heap.size, 0, none⟩) 2 2, .slice (some ⟨w1.heap.size + 1, 0, none⟩) 1 1, .slice (some ⟨w1.heap.size + 1 + 1, 0, none⟩) 1 1, .slice (some ⟨w1.heap.size + 1 + 1 + 1, 0, none⟩) 1 1]) kO := by
    rw [hw2]
    refine ⟨_, _, _, _, rfl, ?_, ?_, ?_, ?_⟩
    · exact (kls (f := uw) [5, 6] (Blk.at (cs := #[.int .u64 5, .int .u64 6]) rfl) uw_len rfl (by decide)).new_ ((((New.refl _).alloc _).alloc _).alloc _ |>.alloc _)
    · exact (kls (f := uw) [7] (Blk.at (cs := #[.int .u64 7]) (by simp only [World.size_alloc])) uw_len rfl (by decide)).new_ (((New.refl _).alloc _).alloc _ |>.alloc _)
    · exact (kls (f := ud) [([103, 111], 1)] (Blk.at (cs := #[st [103, 111], .int .i64 1]) (by simp only [World.size_alloc])) ud_len rfl (by decide)).new_ ((New.refl _).alloc _ |>.alloc _)
    · exact (kls (f := ul) [([97], [98], 3)] (Blk.at (cs := #[st [97], st [98], .int .i64 3]) (by simp only [World.size_alloc])) ul_len rfl (by decide)).new_ ((New.refl _).alloc _)
  have hb2 : Blk w2 (w1.heap.size + 1 + 1 + 1 + 1) 27 #[.slice (some ⟨w1.heap.size, 0, none⟩) 2 2, .slice (some ⟨w1.heap.size + 1, 0, none⟩) 1 1, .slice (some ⟨w1.heap.size + 1 + 1, 0, none⟩) 1 1, .slice (some ⟨w1.heap.size + 1 + 1 + 1, 0, none⟩) 1 1] := by
    rw [hw2]
    exact Blk.at (by simp only [World.size_alloc])
  rw [← hw2]
  obtain ⟨b0, b1, b2, b3⟩ := blk4 hb2
  have H2 := hid (And.intro ho2 n2)
  clear ho2 n2 hb2 hw2 hp0 hp4
  go_wp2_with fail
  refine (wordsO_any w2 _ kO H2.out.1 kO_lens).mono ?_
  rintro e w3 (⟨_, v3, rfl, hl3, n3⟩ | ⟨hmn, _⟩)
  · rw [kO_enc] at hl3
    obtain ⟨a3, c3, rfl, hc3, hcm3, hcell3⟩ := id hl3
    obtain ⟨g3, o3, rfl, hg3, _⟩ := hcell3 (by decide)
    have hkl : kW.length = 16 := by decide
    rw [hkl] at hl3 hc3 ⊢
    clear b0 b1 b2 b3 hcell3
    obtain ⟨w4, hw4⟩ : ∃ w4, w4 = w3.alloc (.cells #[.int .u64 5, .int .u64 6, .int .u64 7, .int .u64 2, .int .u64 13853523968, .int .u64 1, .int .u64 1, .int .u64 13019119616, .int .u64 1, .int .u64 13153337344, .int .u64 3, .int .u64 2, .int .u64 1, .int .u64 1, .int .u64 1, .int .u64 45812815077] 37) := ⟨_, rfl⟩
    have n4 : New w3 w4 := by rw [hw4]; exact (New.refl _).alloc _
    have hl4 : LsAt 1 uw w4 (.slice (some ⟨w3.heap.size, 0, none⟩) 16 16) kW := by
      rw [hw4]
      exact kls (f := uw) kW (Blk.at rfl) uw_len rfl (by decide)
    have H4 := hid (And.intro (hl3.new_ n4) (And.intro hl4 ((N1.out.step H2.out.2).step (n3.step n4))))
    clear hl3 hl4 n3 n4
    go_upto_region 6 with fail
    rw [← hw4]
    clear hw4
    go_wp2_with fail
    refine (sameW w4 _ _ kW kW H4.out.1 H4.out.2.1 (by decide) (by decide)).mono ?_
    rintro e w5 ⟨rfl, k5, rfl⟩
    rw [decide_eq_true (rfl : kW = kW)]
    go_upto_region 8 with fail
    obtain ⟨wq, hwq⟩ : ∃ wq, wq = w4.drewN k5 := ⟨_, rfl⟩
    have hn4q : New w4 wq := by rw [hwq]; exact (New.refl _).drewN _
    have H4q := hid hn4q
    rw [← hwq]
    clear hwq hn4q
    obtain ⟨ti, hti, hzz⟩ := Option.map_eq_some_iff.1 link_info
    simp only [Prod.mk.injEq] at hzz
    have HTL := hid (And.intro hti hzz)
    clear hti hzz
    generalize Value.slice (some ⟨w1.heap.size, 0, none⟩) 2 2 = s17
    generalize Value.slice (some ⟨w1.heap.size + 1, 0, none⟩) 1 1 = s18
    generalize Value.slice (some ⟨w1.heap.size + 1 + 1, 0, none⟩) 1 1 = s20
    generalize Value.slice (some ⟨w1.heap.size + 1 + 1 + 1, 0, none⟩) 1 1 = s22
    generalize Value.agg #[s17, s18, s20, s22] = s23
    generalize Value.slice (some ⟨w3.heap.size, 0, none⟩) 16 16 = s4
    generalize Value.tuple #[.slice (some ⟨g3, o3, none⟩) 16 c3, .int .i64 0] = s24
    generalize Value.agg #[.string ⟨#[103, 111]⟩, .int .i64 1] = s19
    generalize Value.agg #[.string ⟨#[97]⟩, .string ⟨#[98]⟩, .int .i64 3] = s21
    generalize Value.pointer (some ⟨w1.heap.size + 1 + 1 + 1 + 1, 0, none⟩) = q1
    refine wp_region_inv (fun listed a wx => listed.size = 31 ∧ New wq wx ∧ ∃ U : Nat → Value, a = { tmps := #[.bool false, q1, .slice (some ⟨g3, o3, none⟩) 16 c3, .int .i64 0, s4, U 30, undef, undef, undef, undef, undef, undef, undef, undef, undef, .bool true, .bool false, s17, s18, s19, s20, s21, s22, s23, s24, s23, s24, .slice (some ⟨g3, o3, none⟩) 16 c3, .int .i64 0, s4, .int .i64 0, .bool false, .bool false, .slice (some ⟨g3, o3, none⟩) 16 c3, s4, .bool true, .bool false, .bool false, U 0, U 1, U 2, U 3, U 4, U 5, U 6, U 7, U 8, U 9, U 10, U 11, U 12, U 13, U 14, U 15, U 16, U 17, U 18, U 19, U 20, U 21, U 22, U 23, U 24, U 25, U 26, U 27, U 28, U 29, undef, undef, undef, undef, undef, undef, undef, undef, undef, undef, undef, undef, undef, undef, undef, undef, undef, undef, undef, undef, undef, undef, undef, undef, undef, undef, undef, undef, undef, undef, undef, undef, undef, undef, undef, undef, undef, undef, undef, undef, undef, undef, undef, undef, undef, undef, undef, undef, undef, undef], defers := [] } ∧ ∀ i, i < 31 → listed.getD i false = true → Rv i (U i) wx) (by kernel_rfl) ⟨by rw [Array.size_replicate]; rfl, (New.refl wq).drew, fun _ => undef, by first | rfl | simp, fun i hi hl => ?_⟩ ?_ ?_
    · exfalso
      have h31 : i < 31 := hi
      simp [Array.getD_eq_getD_getElem?, h31] at hl
    · rintro listed a wx i o ⟨hsz, hn, U, rfl, hR⟩ hr ho
      have HSZ : Hid (∀ i, (listed.setIfInBounds i true).size = 31) := fun i => by rw [Array.size_setIfInBounds]; exact hsz
      clear hsz
      have HR := hid hR
      have HN := hid hn
      clear hn
      have hi : i < 31 := (Array.getElem?_eq_some_iff.1 ho).1
      clear ho
      rcases (show i = 0 ∨ i = 1 ∨ i = 2 ∨ i = 3 ∨ i = 4 ∨ i = 5 ∨ i = 6 ∨ i = 7 ∨ i = 8 ∨ i = 9 ∨ i = 10 ∨ i = 11 ∨ i = 12 ∨ i = 13 ∨ i = 14 ∨ i = 15 ∨ i = 16 ∨ i = 17 ∨ i = 18 ∨ i = 19 ∨ i = 20 ∨ i = 21 ∨ i = 22 ∨ i = 23 ∨ i = 24 ∨ i = 25 ∨ i = 26 ∨ i = 27 ∨ i = 28 ∨ i = 29 ∨ i = 30 by omega) with rfl | rfl | rfl | rfl | rfl | rfl | rfl | rfl | rfl | rfl | rfl | rfl | rfl | rfl | rfl | rfl | rfl | rfl | rfl | rfl | rfl | rfl | rfl | rfl | rfl | rfl | rfl | rfl | rfl | rfl | rfl
      · refine wpOp_step rfl (fun K' hK => ?_)
        have hmk : ∀ X : World, (Instr.makeSlice 22 (.int .i64 513) (.int .i64 513)).run Try.prog X = .ok (.slice (some ⟨X.heap.size, 0, none⟩) 513 513) (X.alloc (.cells (zarr 513 (.int .u64 0)) 37)) := fun X => kmake_w 513 (by decide) X
        clear hR
        go_simp
        exact hK _ _ ⟨HSZ.out _, HN.out.alloc _, fun d => if d = 0 then (.slice (some ⟨wx.heap.size, 0, none⟩) 513 513) else U d, by first | rfl | simp, keepR HR.out ((New.refl wx).alloc _) (kls_w (Blk.at rfl) (by decide))⟩
      · refine wpOp_step rfl (fun K' hK => ?_)
        have h0 := hR 0 (by decide) (kdep (k := 0) hr rfl rfl rfl)
        obtain ⟨a0, c0, e0, _⟩ := id (show LsAt 1 uw wx (U 0) (List.replicate 513 0) from h0)
        have E0 : U 0 = .slice a0 513 c0 := e0
        have hh0 : LsAt 1 uw wx (.slice a0 513 c0) (List.replicate 513 0) := by rw [← E0]; exact h0
        have HH0 := hid hh0
        clear hR h0 hh0 e0
        go_simp
        exact hK _ _ ⟨HSZ.out _, HN.out, fun d => if d = 1 then (.agg #[.slice a0 513 c0, .slice none 0 0, .slice none 0 0, .slice none 0 0]) else U d, by simp [E0], keepR HR.out (New.refl wx) ⟨_, rfl, ⟨_, _, _, _, rfl, HH0.out, LsAt.nil, LsAt.nil, LsAt.nil⟩⟩⟩
      · refine wpOp_step rfl (fun K' hK => ?_)
        have hmk : ∀ X : World, (Instr.makeSlice 22 (.int .i64 65) (.int .i64 65)).run Try.prog X = .ok (.slice (some ⟨X.heap.size, 0, none⟩) 65 65) (X.alloc (.cells (zarr 65 (.int .u64 0)) 37)) := fun X => kmake_w 65 (by decide) X
        clear hR
        go_simp
        exact hK _ _ ⟨HSZ.out _, HN.out.alloc _, fun d => if d = 2 then (.slice (some ⟨wx.heap.size, 0, none⟩) 65 65) else U d, by first | rfl | simp, keepR HR.out ((New.refl wx).alloc _) (kls_w (Blk.at rfl) (by decide))⟩
      · refine wpOp_step rfl (fun K' hK => ?_)
        have h2 := hR 2 (by decide) (kdep (k := 0) hr rfl rfl rfl)
        obtain ⟨a2, c2, e2, _⟩ := id (show LsAt 1 uw wx (U 2) (List.replicate 65 0) from h2)
        have E2 : U 2 = .slice a2 65 c2 := e2
        have hh2 : LsAt 1 uw wx (.slice a2 65 c2) (List.replicate 65 0) := by rw [← E2]; exact h2
        have HH2 := hid hh2
        clear hR h2 hh2 e2
        go_simp
        exact hK _ _ ⟨HSZ.out _, HN.out, fun d => if d = 3 then (.agg #[.slice none 0 0, .slice a2 65 c2, .slice none 0 0, .slice none 0 0]) else U d, by simp [E2], keepR HR.out (New.refl wx) ⟨_, rfl, ⟨_, _, _, _, rfl, LsAt.nil, HH2.out, LsAt.nil, LsAt.nil⟩⟩⟩
      · refine wpOp_step rfl (fun K' hK => ?_)
        clear hR 
        go_simp
        exact hK _ _ ⟨HSZ.out _, HN.out.alloc _, fun d => if d = 4 then (.slice (some ⟨wx.heap.size, 0, none⟩) 1 1) else U d, by first | rfl | simp [], keepR HR.out ((New.refl wx).alloc _) (kls (f := uw) [68719476736] (Blk.at (cs := #[.int .u64 68719476736]) rfl) uw_len rfl (by decide))⟩
      · refine wpOp_step rfl (fun K' hK => ?_)
        have h4 := hR 4 (by decide) (kdep (k := 0) hr rfl rfl rfl)
        obtain ⟨a4, c4, e4, _⟩ := id (show LsAt 1 uw wx (U 4) [68719476736] from h4)
        have E4 : U 4 = .slice a4 1 c4 := e4
        have hh4 : LsAt 1 uw wx (.slice a4 1 c4) [68719476736] := by rw [← E4]; exact h4
        have HH4 := hid hh4
        clear hR h4 hh4 e4
        go_simp
        exact hK _ _ ⟨HSZ.out _, HN.out, fun d => if d = 5 then (.agg #[.slice a4 1 c4, .slice none 0 0, .slice none 0 0, .slice none 0 0]) else U d, by simp [E4], keepR HR.out (New.refl wx) ⟨_, rfl, ⟨_, _, _, _, rfl, HH4.out, LsAt.nil, LsAt.nil, LsAt.nil⟩⟩⟩
      · refine wpOp_step rfl (fun K' hK => ?_)
        clear hR
        go_simp
        exact hK _ _ ⟨HSZ.out _, HN.out, fun d => if d = 6 then (.agg #[st [97], .int .i64 0]) else U d, by first | rfl | simp, keepR HR.out (New.refl wx) (show Rv 6 _ wx from rfl)⟩
      · refine wpOp_step rfl (fun K' hK => ?_)
        have h6 := hR 6 (by decide) (kdep (k := 0) hr rfl rfl rfl)
        have E6 : U 6 = _ := h6
        clear hR h6
        go_simp
        exact hK _ _ ⟨HSZ.out _, HN.out.alloc _, fun d => if d = 7 then (.slice (some ⟨wx.heap.size, 0, none⟩) 1 1) else U d, by first | rfl | simp [E6], keepR HR.out ((New.refl wx).alloc _) (kls (f := ud) [([97], 0)] (Blk.at (cs := #[st [97], .int .i64 0]) rfl) ud_len rfl (by decide))⟩
      · refine wpOp_step rfl (fun K' hK => ?_)
        have h7 := hR 7 (by decide) (kdep (k := 0) hr rfl rfl rfl)
        obtain ⟨a7, c7, e7, _⟩ := id (show LsAt 2 ud wx (U 7) [([97], 0)] from h7)
        have E7 : U 7 = .slice a7 1 c7 := e7
        have hh7 : LsAt 2 ud wx (.slice a7 1 c7) [([97], 0)] := by rw [← E7]; exact h7
        have HH7 := hid hh7
        clear hR h7 hh7 e7
        go_simp
        exact hK _ _ ⟨HSZ.out _, HN.out, fun d => if d = 8 then (.agg #[.slice none 0 0, .slice none 0 0, .slice a7 1 c7, .slice none 0 0]) else U d, by simp [E7], keepR HR.out (New.refl wx) ⟨_, rfl, ⟨_, _, _, _, rfl, LsAt.nil, LsAt.nil, HH7.out, LsAt.nil⟩⟩⟩
      · refine wpOp_step rfl (fun K' hK => ?_)
        have hmk : ∀ X : World, (Instr.makeSlice 22 (.int .i64 1) (.int .i64 1)).run Try.prog X = .ok (.slice (some ⟨X.heap.size, 0, none⟩) 1 1) (X.alloc (.cells (zarr 1 (.int .u64 0)) 37)) := fun X => kmake_w 1 (by decide) X
        clear hR
        go_simp
        exact hK _ _ ⟨HSZ.out _, HN.out.alloc _, fun d => if d = 9 then (.slice (some ⟨wx.heap.size, 0, none⟩) 1 1) else U d, by first | rfl | simp, keepR HR.out ((New.refl wx).alloc _) (kls_w (Blk.at rfl) (by decide))⟩
      · refine wpOp_step rfl (fun K' hK => ?_)
        clear hR
        go_simp
        exact hK _ _ ⟨HSZ.out _, HN.out, fun d => if d = 10 then (.agg #[st [97], .int .i64 0]) else U d, by first | rfl | simp, keepR HR.out (New.refl wx) (show Rv 10 _ wx from rfl)⟩
      · refine wpOp_step rfl (fun K' hK => ?_)
        clear hR
        go_simp
        exact hK _ _ ⟨HSZ.out _, HN.out, fun d => if d = 11 then (.agg #[st [97], .int .i64 0]) else U d, by first | rfl | simp, keepR HR.out (New.refl wx) (show Rv 11 _ wx from rfl)⟩
      · refine wpOp_step rfl (fun K' hK => ?_)
        have h10 := hR 10 (by decide) (kdep (k := 0) hr rfl rfl rfl)
        have h11 := hR 11 (by decide) (kdep (k := 1) hr rfl rfl rfl)
        have E10 : U 10 = _ := h10
        have E11 : U 11 = _ := h11
        clear hR h10 h11
        go_simp
        exact hK _ _ ⟨HSZ.out _, HN.out.alloc _, fun d => if d = 12 then (.slice (some ⟨wx.heap.size, 0, none⟩) 2 2) else U d, by first | rfl | simp [E10, E11], keepR HR.out ((New.refl wx).alloc _) (kls (f := ud) [([97], 0), ([97], 0)] (Blk.at (cs := #[st [97], .int .i64 0, st [97], .int .i64 0]) rfl) ud_len rfl (by decide))⟩
      · refine wpOp_step rfl (fun K' hK => ?_)
        have h9 := hR 9 (by decide) (kdep (k := 0) hr rfl rfl rfl)
        have h12 := hR 12 (by decide) (kdep (k := 1) hr rfl rfl rfl)
        obtain ⟨a9, c9, e9, _⟩ := id (show LsAt 1 uw wx (U 9) [0] from h9)
        have E9 : U 9 = .slice a9 1 c9 := e9
        have hh9 : LsAt 1 uw wx (.slice a9 1 c9) [0] := by rw [← E9]; exact h9
        have HH9 := hid hh9
        obtain ⟨a12, c12, e12, _⟩ := id (show LsAt 2 ud wx (U 12) [([97], 0), ([97], 0)] from h12)
        have E12 : U 12 = .slice a12 2 c12 := e12
        have hh12 : LsAt 2 ud wx (.slice a12 2 c12) [([97], 0), ([97], 0)] := by rw [← E12]; exact h12
        have HH12 := hid hh12
        clear hR h9 hh9 e9 h12 hh12 e12
        go_simp
        exact hK _ _ ⟨HSZ.out _, HN.out, fun d => if d = 13 then (.agg #[.slice a9 1 c9, .slice none 0 0, .slice a12 2 c12, .slice none 0 0]) else U d, by simp [E9, E12], keepR HR.out (New.refl wx) ⟨_, rfl, ⟨_, _, _, _, rfl, HH9.out, LsAt.nil, HH12.out, LsAt.nil⟩⟩⟩
      · refine wpOp_step rfl (fun K' hK => ?_)
        have hmk : ∀ X : World, (Instr.makeSlice 22 (.int .i64 1) (.int .i64 1)).run Try.prog X = .ok (.slice (some ⟨X.heap.size, 0, none⟩) 1 1) (X.alloc (.cells (zarr 1 (.int .u64 0)) 37)) := fun X => kmake_w 1 (by decide) X
        clear hR
        go_simp
        exact hK _ _ ⟨HSZ.out _, HN.out.alloc _, fun d => if d = 14 then (.slice (some ⟨wx.heap.size, 0, none⟩) 1 1) else U d, by first | rfl | simp, keepR HR.out ((New.refl wx).alloc _) (kls_w (Blk.at rfl) (by decide))⟩
      · refine wpOp_step rfl (fun K' hK => ?_)
        clear hR
        go_simp
        exact hK _ _ ⟨HSZ.out _, HN.out, fun d => if d = 15 then (.agg #[st [], .int .i64 0]) else U d, by first | rfl | simp, keepR HR.out (New.refl wx) (show Rv 15 _ wx from rfl)⟩
      · refine wpOp_step rfl (fun K' hK => ?_)
        have h15 := hR 15 (by decide) (kdep (k := 0) hr rfl rfl rfl)
        have E15 : U 15 = _ := h15
        clear hR h15
        go_simp
        exact hK _ _ ⟨HSZ.out _, HN.out.alloc _, fun d => if d = 16 then (.slice (some ⟨wx.heap.size, 0, none⟩) 1 1) else U d, by first | rfl | simp [E15], keepR HR.out ((New.refl wx).alloc _) (kls (f := ud) [([], 0)] (Blk.at (cs := #[st [], .int .i64 0]) rfl) ud_len rfl (by decide))⟩
      · refine wpOp_step rfl (fun K' hK => ?_)
        have h14 := hR 14 (by decide) (kdep (k := 0) hr rfl rfl rfl)
        have h16 := hR 16 (by decide) (kdep (k := 1) hr rfl rfl rfl)
        obtain ⟨a14, c14, e14, _⟩ := id (show LsAt 1 uw wx (U 14) [0] from h14)
        have E14 : U 14 = .slice a14 1 c14 := e14
        have hh14 : LsAt 1 uw wx (.slice a14 1 c14) [0] := by rw [← E14]; exact h14
        have HH14 := hid hh14
        obtain ⟨a16, c16, e16, _⟩ := id (show LsAt 2 ud wx (U 16) [([], 0)] from h16)
        have E16 : U 16 = .slice a16 1 c16 := e16
        have hh16 : LsAt 2 ud wx (.slice a16 1 c16) [([], 0)] := by rw [← E16]; exact h16
        have HH16 := hid hh16
        clear hR h14 hh14 e14 h16 hh16 e16
        go_simp
        exact hK _ _ ⟨HSZ.out _, HN.out, fun d => if d = 17 then (.agg #[.slice a14 1 c14, .slice none 0 0, .slice a16 1 c16, .slice none 0 0]) else U d, by simp [E14, E16], keepR HR.out (New.refl wx) ⟨_, rfl, ⟨_, _, _, _, rfl, HH14.out, LsAt.nil, HH16.out, LsAt.nil⟩⟩⟩
      · refine wpOp_step rfl (fun K' hK => ?_)
        clear hR
        go_simp
        exact hK _ _ ⟨HSZ.out _, HN.out, fun d => if d = 18 then (.agg #[st [], st [], .int .i64 0]) else U d, by first | rfl | simp, keepR HR.out (New.refl wx) (show Rv 18 _ wx from rfl)⟩
      · refine wpOp_step rfl (fun K' hK => ?_)
        have h18 := hR 18 (by decide) (kdep (k := 0) hr rfl rfl rfl)
        have E18 : U 18 = _ := h18
        clear hR h18
        go_simp
        exact hK _ _ ⟨HSZ.out _, HN.out.alloc _, fun d => if d = 19 then (.slice (some ⟨wx.heap.size, 0, none⟩) 1 1) else U d, by first | rfl | simp [E18], keepR HR.out ((New.refl wx).alloc _) (kls (f := ul) [([], [], 0)] (Blk.at (cs := #[st [], st [], .int .i64 0]) rfl) ul_len rfl (by decide))⟩
      · refine wpOp_step rfl (fun K' hK => ?_)
        have h19 := hR 19 (by decide) (kdep (k := 0) hr rfl rfl rfl)
        obtain ⟨a19, c19, e19, _⟩ := id (show LsAt 3 ul wx (U 19) [([], [], 0)] from h19)
        have E19 : U 19 = .slice a19 1 c19 := e19
        have hh19 : LsAt 3 ul wx (.slice a19 1 c19) [([], [], 0)] := by rw [← E19]; exact h19
        have HH19 := hid hh19
        clear hR h19 hh19 e19
        go_simp
        exact hK _ _ ⟨HSZ.out _, HN.out, fun d => if d = 20 then (.agg #[.slice none 0 0, .slice none 0 0, .slice none 0 0, .slice a19 1 c19]) else U d, by simp [E19], keepR HR.out (New.refl wx) ⟨_, rfl, ⟨_, _, _, _, rfl, LsAt.nil, LsAt.nil, LsAt.nil, HH19.out⟩⟩⟩
      · refine wpOp_step rfl (fun K' hK => ?_)
        clear hR
        go_simp
        exact hK _ _ ⟨HSZ.out _, HN.out, fun d => if d = 21 then (.agg #[st [], st [97], .int .i64 (-1)]) else U d, by first | rfl | simp, keepR HR.out (New.refl wx) (show Rv 21 _ wx from rfl)⟩
      · refine wpOp_step rfl (fun K' hK => ?_)
        have h21 := hR 21 (by decide) (kdep (k := 0) hr rfl rfl rfl)
        have E21 : U 21 = _ := h21
        clear hR h21
        go_simp
        exact hK _ _ ⟨HSZ.out _, HN.out.alloc _, fun d => if d = 22 then (.slice (some ⟨wx.heap.size, 0, none⟩) 1 1) else U d, by first | rfl | simp [E21], keepR HR.out ((New.refl wx).alloc _) (kls (f := ul) [([], [97], -1)] (Blk.at (cs := #[st [], st [97], .int .i64 (-1)]) rfl) ul_len rfl (by decide))⟩
      · refine wpOp_step rfl (fun K' hK => ?_)
        have h22 := hR 22 (by decide) (kdep (k := 0) hr rfl rfl rfl)
        obtain ⟨a22, c22, e22, _⟩ := id (show LsAt 3 ul wx (U 22) [([], [97], -1)] from h22)
        have E22 : U 22 = .slice a22 1 c22 := e22
        have hh22 : LsAt 3 ul wx (.slice a22 1 c22) [([], [97], -1)] := by rw [← E22]; exact h22
        have HH22 := hid hh22
        clear hR h22 hh22 e22
        go_simp
        exact hK _ _ ⟨HSZ.out _, HN.out, fun d => if d = 23 then (.agg #[.slice none 0 0, .slice none 0 0, .slice none 0 0, .slice a22 1 c22]) else U d, by simp [E22], keepR HR.out (New.refl wx) ⟨_, rfl, ⟨_, _, _, _, rfl, LsAt.nil, LsAt.nil, LsAt.nil, HH22.out⟩⟩⟩
      · refine wpOp_step rfl (fun K' hK => ?_)
        clear hR
        go_simp
        exact hK _ _ ⟨HSZ.out _, HN.out, fun d => if d = 24 then (.agg #[st [], st [97], .int .i64 262144]) else U d, by first | rfl | simp, keepR HR.out (New.refl wx) (show Rv 24 _ wx from rfl)⟩
      · refine wpOp_step rfl (fun K' hK => ?_)
        have h24 := hR 24 (by decide) (kdep (k := 0) hr rfl rfl rfl)
        have E24 : U 24 = _ := h24
        clear hR h24
        go_simp
        exact hK _ _ ⟨HSZ.out _, HN.out.alloc _, fun d => if d = 25 then (.slice (some ⟨wx.heap.size, 0, none⟩) 1 1) else U d, by first | rfl | simp [E24], keepR HR.out ((New.refl wx).alloc _) (kls (f := ul) [([], [97], 262144)] (Blk.at (cs := #[st [], st [97], .int .i64 262144]) rfl) ul_len rfl (by decide))⟩
      · refine wpOp_step rfl (fun K' hK => ?_)
        have h25 := hR 25 (by decide) (kdep (k := 0) hr rfl rfl rfl)
        obtain ⟨a25, c25, e25, _⟩ := id (show LsAt 3 ul wx (U 25) [([], [97], 262144)] from h25)
        have E25 : U 25 = .slice a25 1 c25 := e25
        have hh25 : LsAt 3 ul wx (.slice a25 1 c25) [([], [97], 262144)] := by rw [← E25]; exact h25
        have HH25 := hid hh25
        clear hR h25 hh25 e25
        go_simp
        exact hK _ _ ⟨HSZ.out _, HN.out, fun d => if d = 26 then (.agg #[.slice none 0 0, .slice none 0 0, .slice none 0 0, .slice a25 1 c25]) else U d, by simp [E25], keepR HR.out (New.refl wx) ⟨_, rfl, ⟨_, _, _, _, rfl, LsAt.nil, LsAt.nil, LsAt.nil, HH25.out⟩⟩⟩
      · refine wpOp_step rfl (fun K' hK => ?_)
        obtain ⟨wn, hmk, how, hgr⟩ := run_makeSlice_full (P := Try.prog) wx 0 25 43 ti _ 3 Try.underlying25 HTL.out.1 HTL.out.2.1 HTL.out.2.2.1 .i64 .i64 33 (by decide) (by rw [HTL.out.2.2.2]; decide) (by unfold maxLen; decide) (Nat.zero_le _)
        have hmk' : (Instr.makeSlice 25 (.int .i64 33) (.int .i64 33)).run Try.prog wx = .ok (.slice (some ⟨wx.heap.size, 0, none⟩) 33 33) wn := hmk
        have hnw : New wx wn := New.grown (New.refl wx) hgr (fun k hk => by cases hk)
        have hls : LsAt 3 ul wn (.slice (some ⟨wx.heap.size, 0, none⟩) 33 33) z33 := LsAt.of_sl (xs := z33) ul_len (by have := Sl.of_owns how; rw [made33] at this; exact this)
        have HH := hid (And.intro hnw hls)
        clear hR hmk how hgr hnw hls
        go_simp
        exact hK _ _ ⟨HSZ.out _, HN.out.step HH.out.1, fun d => if d = 27 then (.slice (some ⟨wx.heap.size, 0, none⟩) 33 33) else U d, by first | rfl | simp, keepR HR.out HH.out.1 HH.out.2⟩
      · refine wpOp_step rfl (fun K' hK => ?_)
        have h27 := hR 27 (by decide) (kdep (k := 0) hr rfl rfl rfl)
        obtain ⟨a27, c27, e27, _⟩ := id (show LsAt 3 ul wx (U 27) z33 from h27)
        have E27 : U 27 = .slice a27 33 c27 := e27
        have hh27 : LsAt 3 ul wx (.slice a27 33 c27) z33 := by rw [← E27]; exact h27
        have HH27 := hid hh27
        clear hR h27 hh27 e27
        go_simp
        exact hK _ _ ⟨HSZ.out _, HN.out, fun d => if d = 28 then (.agg #[.slice none 0 0, .slice none 0 0, .slice none 0 0, .slice a27 33 c27]) else U d, by simp [E27], keepR HR.out (New.refl wx) ⟨_, rfl, ⟨_, _, _, _, rfl, LsAt.nil, LsAt.nil, LsAt.nil, HH27.out⟩⟩⟩
      · refine wpOp_step rfl (fun K' hK => ?_)
        have h1 := hR 1 (by decide) (kdep (k := 0) hr rfl rfl rfl)
        have h3 := hR 3 (by decide) (kdep (k := 1) hr rfl rfl rfl)
        have h5 := hR 5 (by decide) (kdep (k := 2) hr rfl rfl rfl)
        have h8 := hR 8 (by decide) (kdep (k := 3) hr rfl rfl rfl)
        have h13 := hR 13 (by decide) (kdep (k := 4) hr rfl rfl rfl)
        have h17 := hR 17 (by decide) (kdep (k := 5) hr rfl rfl rfl)
        have h20 := hR 20 (by decide) (kdep (k := 6) hr rfl rfl rfl)
        have h23 := hR 23 (by decide) (kdep (k := 7) hr rfl rfl rfl)
        have h26 := hR 26 (by decide) (kdep (k := 8) hr rfl rfl rfl)
        have h28 := hR 28 (by decide) (kdep (k := 9) hr rfl rfl rfl)
        obtain ⟨O0, hb0, ho0⟩ := h1
        obtain ⟨x0, n0, y0, xx0, nn0, yy0, xxx0, nnn0, yyy0, xxxx0, nnnn0, yyyy0, E1⟩ := ObAt.form ho0
        obtain ⟨O1, hb1, ho1⟩ := h3
        obtain ⟨x1, n1, y1, xx1, nn1, yy1, xxx1, nnn1, yyy1, xxxx1, nnnn1, yyyy1, E3⟩ := ObAt.form ho1
        obtain ⟨O2, hb2, ho2⟩ := h5
        obtain ⟨x2, n2, y2, xx2, nn2, yy2, xxx2, nnn2, yyy2, xxxx2, nnnn2, yyyy2, E5⟩ := ObAt.form ho2
        obtain ⟨O3, hb3, ho3⟩ := h8
        obtain ⟨x3, n3, y3, xx3, nn3, yy3, xxx3, nnn3, yyy3, xxxx3, nnnn3, yyyy3, E8⟩ := ObAt.form ho3
        obtain ⟨O4, hb4, ho4⟩ := h13
        obtain ⟨x4, n4, y4, xx4, nn4, yy4, xxx4, nnn4, yyy4, xxxx4, nnnn4, yyyy4, E13⟩ := ObAt.form ho4
        obtain ⟨O5, hb5, ho5⟩ := h17
        obtain ⟨x5, n5, y5, xx5, nn5, yy5, xxx5, nnn5, yyy5, xxxx5, nnnn5, yyyy5, E17⟩ := ObAt.form ho5
        obtain ⟨O6, hb6, ho6⟩ := h20
        obtain ⟨x6, n6, y6, xx6, nn6, yy6, xxx6, nnn6, yyy6, xxxx6, nnnn6, yyyy6, E20⟩ := ObAt.form ho6
        obtain ⟨O7, hb7, ho7⟩ := h23
        obtain ⟨x7, n7, y7, xx7, nn7, yy7, xxx7, nnn7, yyy7, xxxx7, nnnn7, yyyy7, E23⟩ := ObAt.form ho7
        obtain ⟨O8, hb8, ho8⟩ := h26
        obtain ⟨x8, n8, y8, xx8, nn8, yy8, xxx8, nnn8, yyy8, xxxx8, nnnn8, yyyy8, E26⟩ := ObAt.form ho8
        obtain ⟨O9, hb9, ho9⟩ := h28
        obtain ⟨x9, n9, y9, xx9, nn9, yy9, xxx9, nnn9, yyy9, xxxx9, nnnn9, yyyy9, E28⟩ := ObAt.form ho9
        have HO := hid (And.intro (And.intro hb0 (show ObAt wx (.agg #[.slice x0 n0 y0, .slice xx0 nn0 yy0, .slice xxx0 nnn0 yyy0, .slice xxxx0 nnnn0 yyyy0]) O0 from by rw [← E1]; exact ho0)) (And.intro (And.intro hb1 (show ObAt wx (.agg #[.slice x1 n1 y1, .slice xx1 nn1 yy1, .slice xxx1 nnn1 yyy1, .slice xxxx1 nnnn1 yyyy1]) O1 from by rw [← E3]; exact ho1)) (And.intro (And.intro hb2 (show ObAt wx (.agg #[.slice x2 n2 y2, .slice xx2 nn2 yy2, .slice xxx2 nnn2 yyy2, .slice xxxx2 nnnn2 yyyy2]) O2 from by rw [← E5]; exact ho2)) (And.intro (And.intro hb3 (show ObAt wx (.agg #[.slice x3 n3 y3, .slice xx3 nn3 yy3, .slice xxx3 nnn3 yyy3, .slice xxxx3 nnnn3 yyyy3]) O3 from by rw [← E8]; exact ho3)) (And.intro (And.intro hb4 (show ObAt wx (.agg #[.slice x4 n4 y4, .slice xx4 nn4 yy4, .slice xxx4 nnn4 yyy4, .slice xxxx4 nnnn4 yyyy4]) O4 from by rw [← E13]; exact ho4)) (And.intro (And.intro hb5 (show ObAt wx (.agg #[.slice x5 n5 y5, .slice xx5 nn5 yy5, .slice xxx5 nnn5 yyy5, .slice xxxx5 nnnn5 yyyy5]) O5 from by rw [← E17]; exact ho5)) (And.intro (And.intro hb6 (show ObAt wx (.agg #[.slice x6 n6 y6, .slice xx6 nn6 yy6, .slice xxx6 nnn6 yyy6, .slice xxxx6 nnnn6 yyyy6]) O6 from by rw [← E20]; exact ho6)) (And.intro (And.intro hb7 (show ObAt wx (.agg #[.slice x7 n7 y7, .slice xx7 nn7 yy7, .slice xxx7 nnn7 yyy7, .slice xxxx7 nnnn7 yyyy7]) O7 from by rw [← E23]; exact ho7)) (And.intro (And.intro hb8 (show ObAt wx (.agg #[.slice x8 n8 y8, .slice xx8 nn8 yy8, .slice xxx8 nnn8 yyy8, .slice xxxx8 nnnn8 yyyy8]) O8 from by rw [← E26]; exact ho8)) (And.intro (And.intro hb9 (show ObAt wx (.agg #[.slice x9 n9 y9, .slice xx9 nn9 yy9, .slice xxx9 nnn9 yyy9, .slice xxxx9 nnnn9 yyyy9]) O9 from by rw [← E28]; exact ho9)) (trivial)))))))))))
        clear hR hb0 ho0 hb1 ho1 hb2 ho2 hb3 ho3 hb4 ho4 hb5 ho5 hb6 ho6 hb7 ho7 hb8 ho8 hb9 ho9
        go_simp
        have hbk : Blk (wx.alloc (.cells #[.slice x0 n0 y0, .slice xx0 nn0 yy0, .slice xxx0 nnn0 yyy0, .slice xxxx0 nnnn0 yyyy0, .slice x1 n1 y1, .slice xx1 nn1 yy1, .slice xxx1 nnn1 yyy1, .slice xxxx1 nnnn1 yyyy1, .slice x2 n2 y2, .slice xx2 nn2 yy2, .slice xxx2 nnn2 yyy2, .slice xxxx2 nnnn2 yyyy2, .slice x3 n3 y3, .slice xx3 nn3 yy3, .slice xxx3 nnn3 yyy3, .slice xxxx3 nnnn3 yyyy3, .slice x4 n4 y4, .slice xx4 nn4 yy4, .slice xxx4 nnn4 yyy4, .slice xxxx4 nnnn4 yyyy4, .slice x5 n5 y5, .slice xx5 nn5 yy5, .slice xxx5 nnn5 yyy5, .slice xxxx5 nnnn5 yyyy5, .slice x6 n6 y6, .slice xx6 nn6 yy6, .slice xxx6 nnn6 yyy6, .slice xxxx6 nnnn6 yyyy6, .slice x7 n7 y7, .slice xx7 nn7 yy7, .slice xxx7 nnn7 yyy7, .slice xxxx7 nnnn7 yyyy7, .slice x8 n8 y8, .slice xx8 nn8 yy8, .slice xxx8 nnn8 yyy8, .slice xxxx8 nnnn8 yyyy8, .slice x9 n9 y9, .slice xx9 nn9 yy9, .slice xxx9 nnn9 yyy9, .slice xxxx9 nnnn9 yyyy9] 27)) wx.heap.size 27 #[.slice x0 n0 y0, .slice xx0 nn0 yy0, .slice xxx0 nnn0 yyy0, .slice xxxx0 nnnn0 yyyy0, .slice x1 n1 y1, .slice xx1 nn1 yy1, .slice xxx1 nnn1 yyy1, .slice xxxx1 nnnn1 yyyy1, .slice x2 n2 y2, .slice xx2 nn2 yy2, .slice xxx2 nnn2 yyy2, .slice xxxx2 nnnn2 yyyy2, .slice x3 n3 y3, .slice xx3 nn3 yy3, .slice xxx3 nnn3 yyy3, .slice xxxx3 nnnn3 yyyy3, .slice x4 n4 y4, .slice xx4 nn4 yy4, .slice xxx4 nnn4 yyy4, .slice xxxx4 nnnn4 yyyy4, .slice x5 n5 y5, .slice xx5 nn5 yy5, .slice xxx5 nnn5 yyy5, .slice xxxx5 nnnn5 yyyy5, .slice x6 n6 y6, .slice xx6 nn6 yy6, .slice xxx6 nnn6 yyy6, .slice xxxx6 nnnn6 yyyy6, .slice x7 n7 y7, .slice xx7 nn7 yy7, .slice xxx7 nnn7 yyy7, .slice xxxx7 nnnn7 yyyy7, .slice x8 n8 y8, .slice xx8 nn8 yy8, .slice xxx8 nnn8 yyy8, .slice xxxx8 nnnn8 yyyy8, .slice x9 n9 y9, .slice xx9 nn9 yy9, .slice xxx9 nnn9 yyy9, .slice xxxx9 nnnn9 yyyy9] := Blk.new _ _ _
        have hnw := (New.refl wx).alloc (.cells #[.slice x0 n0 y0, .slice xx0 nn0 yy0, .slice xxx0 nnn0 yyy0, .slice xxxx0 nnnn0 yyyy0, .slice x1 n1 y1, .slice xx1 nn1 yy1, .slice xxx1 nnn1 yyy1, .slice xxxx1 nnnn1 yyyy1, .slice x2 n2 y2, .slice xx2 nn2 yy2, .slice xxx2 nnn2 yyy2, .slice xxxx2 nnnn2 yyyy2, .slice x3 n3 y3, .slice xx3 nn3 yy3, .slice xxx3 nnn3 yyy3, .slice xxxx3 nnnn3 yyyy3, .slice x4 n4 y4, .slice xx4 nn4 yy4, .slice xxx4 nnn4 yyy4, .slice xxxx4 nnnn4 yyyy4, .slice x5 n5 y5, .slice xx5 nn5 yy5, .slice xxx5 nnn5 yyy5, .slice xxxx5 nnnn5 yyyy5, .slice x6 n6 y6, .slice xx6 nn6 yy6, .slice xxx6 nnn6 yyy6, .slice xxxx6 nnnn6 yyyy6, .slice x7 n7 y7, .slice xx7 nn7 yy7, .slice xxx7 nnn7 yyy7, .slice xxxx7 nnnn7 yyyy7, .slice x8 n8 y8, .slice xx8 nn8 yy8, .slice xxx8 nnn8 yyy8, .slice xxxx8 nnnn8 yyyy8, .slice x9 n9 y9, .slice xx9 nn9 yy9, .slice xxx9 nnn9 yyy9, .slice xxxx9 nnnn9 yyyy9] 27)
        have hbads : BadsAt (.slice (some ⟨wx.heap.size, 0, none⟩) 10 10) (wx.alloc (.cells #[.slice x0 n0 y0, .slice xx0 nn0 yy0, .slice xxx0 nnn0 yyy0, .slice xxxx0 nnnn0 yyyy0, .slice x1 n1 y1, .slice xx1 nn1 yy1, .slice xxx1 nnn1 yyy1, .slice xxxx1 nnnn1 yyyy1, .slice x2 n2 y2, .slice xx2 nn2 yy2, .slice xxx2 nnn2 yyy2, .slice xxxx2 nnnn2 yyyy2, .slice x3 n3 y3, .slice xx3 nn3 yy3, .slice xxx3 nnn3 yyy3, .slice xxxx3 nnnn3 yyyy3, .slice x4 n4 y4, .slice xx4 nn4 yy4, .slice xxx4 nnn4 yyy4, .slice xxxx4 nnnn4 yyyy4, .slice x5 n5 y5, .slice xx5 nn5 yy5, .slice xxx5 nnn5 yyy5, .slice xxxx5 nnnn5 yyyy5, .slice x6 n6 y6, .slice xx6 nn6 yy6, .slice xxx6 nnn6 yyy6, .slice xxxx6 nnnn6 yyyy6, .slice x7 n7 y7, .slice xx7 nn7 yy7, .slice xxx7 nnn7 yyy7, .slice xxxx7 nnnn7 yyyy7, .slice x8 n8 y8, .slice xx8 nn8 yy8, .slice xxx8 nnn8 yyy8, .slice xxxx8 nnnn8 yyyy8, .slice x9 n9 y9, .slice xx9 nn9 yy9, .slice xxx9 nnn9 yyy9, .slice xxxx9 nnnn9 yyyy9] 27)) := by
          refine ⟨wx.heap.size, rfl, hbk.lt, fun j O hj => ?_⟩
          have hj10 : j < 10 := (List.getElem?_eq_some_iff.1 hj).1
          rcases (show j = 0 ∨ j = 1 ∨ j = 2 ∨ j = 3 ∨ j = 4 ∨ j = 5 ∨ j = 6 ∨ j = 7 ∨ j = 8 ∨ j = 9 by omega) with rfl | rfl | rfl | rfl | rfl | rfl | rfl | rfl | rfl | rfl
          · have := HO.out.1.1
            rw [hj] at this
            cases this
            exact ⟨_, _, _, _, HO.out.1.2.new_ hnw, by rw [hbk.cell]; rfl, by rw [hbk.cell]; rfl, by rw [hbk.cell]; rfl, by rw [hbk.cell]; rfl⟩
          · have := HO.out.2.1.1
            rw [hj] at this
            cases this
            exact ⟨_, _, _, _, HO.out.2.1.2.new_ hnw, by rw [hbk.cell]; rfl, by rw [hbk.cell]; rfl, by rw [hbk.cell]; rfl, by rw [hbk.cell]; rfl⟩
          · have := HO.out.2.2.1.1
            rw [hj] at this
            cases this
            exact ⟨_, _, _, _, HO.out.2.2.1.2.new_ hnw, by rw [hbk.cell]; rfl, by rw [hbk.cell]; rfl, by rw [hbk.cell]; rfl, by rw [hbk.cell]; rfl⟩
          · have := HO.out.2.2.2.1.1
            rw [hj] at this
            cases this
            exact ⟨_, _, _, _, HO.out.2.2.2.1.2.new_ hnw, by rw [hbk.cell]; rfl, by rw [hbk.cell]; rfl, by rw [hbk.cell]; rfl, by rw [hbk.cell]; rfl⟩
          · have := HO.out.2.2.2.2.1.1
            rw [hj] at this
            cases this
            exact ⟨_, _, _, _, HO.out.2.2.2.2.1.2.new_ hnw, by rw [hbk.cell]; rfl, by rw [hbk.cell]; rfl, by rw [hbk.cell]; rfl, by rw [hbk.cell]; rfl⟩
          · have := HO.out.2.2.2.2.2.1.1
            rw [hj] at this
            cases this
            exact ⟨_, _, _, _, HO.out.2.2.2.2.2.1.2.new_ hnw, by rw [hbk.cell]; rfl, by rw [hbk.cell]; rfl, by rw [hbk.cell]; rfl, by rw [hbk.cell]; rfl⟩
          · have := HO.out.2.2.2.2.2.2.1.1
            rw [hj] at this
            cases this
            exact ⟨_, _, _, _, HO.out.2.2.2.2.2.2.1.2.new_ hnw, by rw [hbk.cell]; rfl, by rw [hbk.cell]; rfl, by rw [hbk.cell]; rfl, by rw [hbk.cell]; rfl⟩
          · have := HO.out.2.2.2.2.2.2.2.1.1
            rw [hj] at this
            cases this
            exact ⟨_, _, _, _, HO.out.2.2.2.2.2.2.2.1.2.new_ hnw, by rw [hbk.cell]; rfl, by rw [hbk.cell]; rfl, by rw [hbk.cell]; rfl, by rw [hbk.cell]; rfl⟩
          · have := HO.out.2.2.2.2.2.2.2.2.1.1
            rw [hj] at this
            cases this
            exact ⟨_, _, _, _, HO.out.2.2.2.2.2.2.2.2.1.2.new_ hnw, by rw [hbk.cell]; rfl, by rw [hbk.cell]; rfl, by rw [hbk.cell]; rfl, by rw [hbk.cell]; rfl⟩
          · have := HO.out.2.2.2.2.2.2.2.2.2.1.1
            rw [hj] at this
            cases this
            exact ⟨_, _, _, _, HO.out.2.2.2.2.2.2.2.2.2.1.2.new_ hnw, by rw [hbk.cell]; rfl, by rw [hbk.cell]; rfl, by rw [hbk.cell]; rfl, by rw [hbk.cell]; rfl⟩
        exact hK _ _ ⟨HSZ.out _, HN.out.step hnw, fun d => if d = 29 then (.slice (some ⟨wx.heap.size, 0, none⟩) 10 10) else U d, by simp [E1, E3, E5, E8, E13, E17, E20, E23, E26, E28], keepR HR.out hnw hbads⟩
      · refine wpOp_step rfl (fun K' hK => ?_)
        have h29 := hR 29 (by decide) (kdep (k := 0) hr rfl rfl rfl)
        obtain ⟨gb, Eb, _⟩ := id (show BadsAt (U 29) wx from h29)
        have HB := hid h29
        clear hR h29
        go_simp
        exact hK _ _ ⟨HSZ.out _, HN.out, fun d => if d = 30 then (U 29) else U d, by simp [Eb], keepR HR.out (New.refl wx) (show Rv 30 _ wx from HB.out)⟩
    · rintro listed a wx hr ⟨hsz, hn, U, rfl, hR⟩
      have hall := all_listed (kchk (by kernel_rfl)) hr 30 (by decide)
      have hbs := hR 30 (by decide) (by rw [Array.getD_eq_getD_getElem?, Array.getElem?_eq_getElem (by omega)] at hall ⊢; exact hall)
      obtain ⟨gb, Eb, _⟩ := id (show BadsAt (U 30) wx from hbs)
      rw [Eb] at hbs ⊢
      have HB := hid (And.intro (show BadsAt (.slice (some ⟨gb, 0, none⟩) 10 10) wx from hbs) hn)
      clear hR hbs hn hall hr hsz Eb
      generalize U 0 = r0
      go_wp2_with fail
      go_loopw [6] (fun i wr => ∃ k : Nat, k ≤ 10 ∧ i = .int .i64 (k : Int) ∧ New wx wr) (fun i _ => 10 - (intOf i).toNat)
      case atStart => exact ⟨0, Nat.zero_le _, rfl, New.refl _⟩
      case round =>
        obtain ⟨k, hk, rfl, hnr⟩ := hrel
        by_cases hkn : k < 10
        · have w2' : IntKind.i64.wrap ((k : Int) + 1) = k + 1 := by rw [IntKind.wrap_i64]; omega
          obtain ⟨O, hO⟩ : ∃ O, bads[k]? = some O := ⟨_, List.getElem?_eq_getElem (show k < bads.length from hkn)⟩
          obtain ⟨g', Eg, _, hcells⟩ := HB.out.1.new_ hnr
          obtain ⟨a, b, c, d, ho, d0, d1, d2, d3⟩ := hcells k O hO
          cases Eg
          have hmay := bads_may O (List.mem_of_getElem? hO)
          have hlen := bads_lens O (List.mem_of_getElem? hO)
          have hW := fun X (hX : New wr X) => wordsO_any X _ O (ho.new_ hX) hlen
          have hM := fun X (hX : New wr X) => mayO_any X _ O (ho.new_ hX) hlen
          rw [hmay] at hM
          have HW := hid (And.intro hW (And.intro hM (And.intro hmay hnr)))
          have HC := hid (fun X (hX : New wr X) => And.intro (hX.cellK d0) (And.intro (hX.cellK d1) (And.intro (hX.cellK d2) (hX.cellK d3))))
          obtain ⟨x1, m1, y1, x2, m2, y2, x3, m3, y3, x4, m4, y4, hform⟩ := ObAt.form ho
          injection hform with hform
          injection hform with hform
          injection hform with f1 hform
          injection hform with f2 hform
          injection hform with f3 hform
          injection hform with f4 hform
          subst f1 f2 f3 f4
          have j0 : (0 : Int) ≤ (k : Int) := by omega
          have j1 : (k : Int) < 10 := by omega
          clear hW hM hmay hlen ho hO hcells hnr hform
          go_wp2_with fail
          refine (HW.out.1 _ (New.refl _)).mono ?_
          rintro e w6 (⟨hm, _⟩ | ⟨_, rfl, n6⟩)
          · rw [HW.out.2.2.1] at hm
            cases hm
          · clear d0 d1 d2 d3
            obtain ⟨d0, d1, d2, d3⟩ := HC.out _ n6
            have N6 := hid n6
            clear n6
            go_wp2_with fail
            refine (HW.out.2.1 _ N6.out).mono ?_
            rintro e w7 ⟨rfl, n7⟩
            have N7 := hid n7
            clear n7
            go_wp2_with fail
            exact ⟨⟨k + 1, by omega, by go_num, HW.out.2.2.2.step (N6.out.step N7.out)⟩, by simp [intOf]; omega⟩
        · obtain rfl : k = 10 := by omega
          have HR := hid hnr
          clear hnr
          have hm512 : ∀ X : World, (Instr.makeSlice 22 (.int .i64 512) (.int .i64 512)).run Try.prog X = .ok (.slice (some ⟨X.heap.size, 0, none⟩) 512 512) (X.alloc (.cells (zarr 512 (.int .u64 0)) 37)) := fun X => kmake_w 512 (by decide) X
          have hm64 : ∀ X : World, (Instr.makeSlice 22 (.int .i64 64) (.int .i64 64)).run Try.prog X = .ok (.slice (some ⟨X.heap.size, 0, none⟩) 64 64) (X.alloc (.cells (zarr 64 (.int .u64 0)) 37)) := fun X => kmake_w 64 (by decide) X
          have hBig := fun X v (h : ObAt X v bigO) => (wordsO_any X v bigO h bigO_lens).mono (fun e w' h => (show ∃ v', e = .returned (.tuple #[v', .int .i64 0]) ∧ New X w' from by
            rcases h with ⟨_, v', he, _, n⟩ | ⟨hm, _⟩
            · exact ⟨v', he, n⟩
            · exact absurd bigO_may (by rw [hm]; decide)))
          have HBig := hid hBig
          have HNR : Hid (∀ X, New wr X → wr.heap.size ≤ X.heap.size) := fun X h => h.size
          clear hBig
          go_upto_region 15 with fail
          go_region_held3 (fun w' => New wr w') (first | with_reducible exact New.drew (New.refl wr) | with_reducible exact New.drew (New.alloc (New.refl wr) _) | with_reducible exact New.drew (New.alloc (New.alloc (New.refl wr) _) _) | with_reducible exact New.alloc (New.refl wr) _ | with_reducible exact New.alloc (New.alloc (New.refl wr) _) _ | with_reducible exact hN5) (first
            | (go_at_call 14; (with_reducible refine (HBig.out _ _ (big_at1 wr)).mono ?_); rintro e w5 ⟨v5, rfl, n5⟩; have hN5 := New.step (New.drew (New.alloc (New.alloc (New.refl wr) _) _)) n5)
            | (go_at_call 14; (with_reducible refine (HBig.out _ _ (big_at2 wr)).mono ?_); rintro e w5 ⟨v5, rfl, n5⟩; have hN5 := New.step (New.drew (New.alloc (New.alloc (New.refl wr) _) _)) n5))
          all_goals
            have hN := (((H4.out.2.2.step H4q.out).step HB.out.2).step HR.out).step hN5
            have hl := H4.out.1.new_ (((H4q.out.step HB.out.2).step HR.out).step hN5)
            have HF := hid (And.intro hN hl)
            have k1 : ¬ c3 = 1 := by omega
            have k2 : (16 : Int) ≤ (c3 : Int) := by omega
            have k3 : (1 : Int) ≤ (c3 : Int) := by omega
            clear hN hl n5 hN5 hm512 hm64
            go_wp2_with fail
            refine (Read_any w5 _ [] LsAt.nil (fun x hx => by cases hx)).mono ?_
            rintro e w6 (⟨hr, _⟩ | ⟨_, rfl, n6⟩)
            · exact absurd hr nil_no
            · have N6 := hid (n6.alloc (.cells #[.slice none 0 0, .slice none 0 0, .slice none 0 0, .slice none 0 0] 27))
              clear n6
              go_wp2_with fail
              refine (Read_any _ _ (kW.drop 1) (ls_tail (HF.out.2.new_ N6.out)) (by decide)).mono ?_
              rintro e w7 (⟨hr, _⟩ | ⟨_, rfl, n7⟩)
              · exact absurd hr tail_no
              · have N7 := hid n7
                clear n7
                go_wp2_with fail
                go_ret
                exact ⟨rfl, ((HF.out.1.step N6.out).step N7.out).alloc _⟩
  · rw [kO_may] at hmn
    cases hmn
theorem objectKnown_row {H : Type} {enc : TypeId × Value → H} (W : World) {base : Nat}
    : Calls Try.prog 4 #[] W fun e W' => e = .returned (.bool true) ∧ Below W.heap.size W W' := by
  exact objectKnown_walk W
end Go.Proofs.Ytnoahdobgndmnaa.Law
