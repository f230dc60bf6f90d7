/- The walk of LinkageKnown (printed by wip/mklk.py). -/
import Derived.Test.YteakbhfegbghoaaLinkKn
import Derived.Below
namespace Go.Proofs.Yteakbhfegbghoaa.Law
open Go Go.RowKit Go.ChangeMaps Go.ChangeShapes Go.WideShapes Go.Proofs.Yteakbhfegbghoaa.Kit Go.Proofs.Yteakbhfegbghoaa.Area Go.Proofs.Yteakbhfegbghoaa.Wd Go.Proofs.Yteakbhfegbghoaa.Str Go.Proofs.Yteakbhfegbghoaa.Link
open Go.Proofs.Yteakbhfegbghoaa.Point (pt eql_pt)
set_option linter.unusedSimpArgs false
set_option linter.unusedVariables false
set_option maxRecDepth 100000 in
set_option maxHeartbeats 8000000 in
theorem linkageKnown_walk (w : World) : Calls Try.prog 7 #[] w fun e w' => e = .returned (.bool true) ∧ New w w' := by
  go_enter Try.func7, Try.ntmps7
  go_wp2_with fail
  refine (awake_any w).mono ?_
  rintro e w1 ⟨rfl, n1⟩
  have HN1 := hid n1
  clear n1
  go_wp2_with fail
  refine (newQ w1).mono ?_
  rintro e w2 ⟨rfl, h2⟩
  obtain ⟨X, hX⟩ : ∃ X, X = w1.heap.size + 1 := ⟨_, rfl⟩
  obtain ⟨b, hb⟩ : ∃ b, b = w1.heap.size := ⟨_, rfl⟩
  rw [← hX, ← hb] at h2
  rw [← hX]
  have H2 := hid h2
  clear h2 hX hb
  go_wp2_with fail
  have hl3 := ((H2.out.box (.cells #[.int .u64 7, .int .u64 8] 52)).box (.cells #[st [], st [97], .int .i64 0, st [], st [98], .int .i64 0] 38)).box (.cells #[.slice none 0 0, .slice (some ⟨w2.heap.size, 0, none⟩) 2 2, .slice none 0 0, .slice (some ⟨w2.heap.size + 1, 0, none⟩) 2 2] 29)
  have b1 := ((Blk.new w2 52 #[.int .u64 7, .int .u64 8]).alloc (.cells #[st [], st [97], .int .i64 0, st [], st [98], .int .i64 0] 38)).alloc (.cells #[.slice none 0 0, .slice (some ⟨w2.heap.size, 0, none⟩) 2 2, .slice none 0 0, .slice (some ⟨w2.heap.size + 1, 0, none⟩) 2 2] 29)
  have b2 := (Blk.new (w2.alloc (.cells #[.int .u64 7, .int .u64 8] 52)) 38 #[st [], st [97], .int .i64 0, st [], st [98], .int .i64 0]).alloc (.cells #[.slice none 0 0, .slice (some ⟨w2.heap.size, 0, none⟩) 2 2, .slice none 0 0, .slice (some ⟨w2.heap.size + 1, 0, none⟩) 2 2] 29)
  have b3 := Blk.new ((w2.alloc (.cells #[.int .u64 7, .int .u64 8] 52)).alloc (.cells #[st [], st [97], .int .i64 0, st [], st [98], .int .i64 0] 38)) 29 #[.slice none 0 0, .slice (some ⟨w2.heap.size, 0, none⟩) 2 2, .slice none 0 0, .slice (some ⟨w2.heap.size + 1, 0, none⟩) 2 2]
  rw [World.size_alloc] at b2
  rw [World.size_alloc, World.size_alloc] at b3
  simp only [World.size_alloc] at hl3
  obtain ⟨w3, hw3⟩ : ∃ w3, w3 = ((w2.alloc (.cells #[.int .u64 7, .int .u64 8] 52)).alloc (.cells #[st [], st [97], .int .i64 0, st [], st [98], .int .i64 0] 38)).alloc (.cells #[.slice none 0 0, .slice (some ⟨w2.heap.size, 0, none⟩) 2 2, .slice none 0 0, .slice (some ⟨w2.heap.size + 1, 0, none⟩) 2 2] 29) := ⟨_, rfl⟩
  rw [← hw3] at hl3 b1 b2 b3 ⊢
  obtain ⟨G2, hG2⟩ : ∃ G2, G2 = w2.heap.size + 1 + 1 := ⟨_, rfl⟩
  rw [← hG2] at hl3 b3 ⊢
  obtain ⟨GL, hGL⟩ : ∃ GL, GL = w2.heap.size + 1 := ⟨_, rfl⟩
  rw [← hGL] at hl3 b2 b3 ⊢
  obtain ⟨GS, hGS⟩ : ∃ GS, GS = w2.heap.size := ⟨_, rfl⟩
  rw [← hGS] at hl3 b1 b3 ⊢
  clear hw3 hG2 hGL hGS
  obtain ⟨T, hT⟩ : ∃ T : Nat → Prop, T = fun k => ((False ∨ k = GS) ∨ k = GL) ∨ k = G2 := ⟨_, rfl⟩
  rw [← hT] at hl3
  have HT := hid (show T GS ∧ T GL ∧ T G2 by rw [hT]; exact ⟨.inl (.inl (.inr rfl)), .inl (.inr rfl), .inr rfl⟩)
  have HK3 := hid (show KB w3 GS GL G2 from ⟨b1, b2, b3⟩)
  have H3 := hid hl3
  clear hl3 b1 b2 b3 hT
  have c0 : w3.cell? ⟨G2, 0, none⟩ = some (.slice none 0 0) := HK3.out.2.2.cell 0
  have c1 : w3.cell? ⟨G2, 1, none⟩ = some (.slice (some ⟨GS, 0, none⟩) 2 2) := HK3.out.2.2.cell 1
  have c2 : w3.cell? ⟨G2, 2, none⟩ = some (.slice none 0 0) := HK3.out.2.2.cell 2
  have c3 : w3.cell? ⟨G2, 3, none⟩ = some (.slice (some ⟨GL, 0, none⟩) 2 2) := HK3.out.2.2.cell 3
  have HC3 := hid (Open_arg (X := X) (w := w3) 8 1 (.slice none 0 0) (.slice (some ⟨GS, 0, none⟩) 2 2) (.slice none 0 0) (.slice (some ⟨GL, 0, none⟩) 2 2) (by omega))
  go_wp2_with fail
  refine HC3.out.mono ?_
  rintro e w4 ⟨rfl, n4⟩
  have H4 := hid (H3.out.new_ n4)
  have HK4 := hid (HK3.out.new_ n4)
  clear n4 HC3 c0 c1 c2 c3
  have c0 : w4.cell? ⟨G2, 0, none⟩ = some (.slice none 0 0) := HK4.out.2.2.cell 0
  have c1 : w4.cell? ⟨G2, 1, none⟩ = some (.slice (some ⟨GS, 0, none⟩) 2 2) := HK4.out.2.2.cell 1
  have c2 : w4.cell? ⟨G2, 2, none⟩ = some (.slice none 0 0) := HK4.out.2.2.cell 2
  have c3 : w4.cell? ⟨G2, 3, none⟩ = some (.slice (some ⟨GL, 0, none⟩) 2 2) := HK4.out.2.2.cell 3
  have HC4 := hid (Open_arg (X := X) (w := w4) 4 0 (.slice none 0 0) (.slice (some ⟨GS, 0, none⟩) 2 2) (.slice none 0 0) (.slice (some ⟨GL, 0, none⟩) 2 2) (by omega))
  go_wp2_with fail
  refine HC4.out.mono ?_
  rintro e w5 ⟨rfl, n5⟩
  have H5 := hid (H4.out.new_ n5)
  have HK5 := hid (HK4.out.new_ n5)
  clear n5 HC4 c0 c1 c2 c3
  go_wp2_with fail
  have hbx := Blk.new w5 38 #[st [], st [], .int .i64 0]
  have hlx := H5.out.new_ ((New.refl w5).alloc (.cells #[st [], st [], .int .i64 0] 38))
  have HC5 := hid (OpenQ_not hlx (r := 4) (s := 1) (by decide) (by decide) (by decide) _ _ _ _ oN (oN_at hbx) oN_lens oN_may rfl)
  clear hbx hlx
  refine HC5.out.mono ?_
  rintro e w6 ⟨rfl, n6⟩
  have nn6 := ((New.refl w5).alloc (.cells #[st [], st [], .int .i64 0] 38)).step n6
  have H6 := hid (H5.out.new_ nn6)
  have HK6 := hid (HK5.out.new_ nn6)
  clear n6 nn6 HC5
  have c0 : w6.cell? ⟨G2, 0, none⟩ = some (.slice none 0 0) := HK6.out.2.2.cell 0
  have c1 : w6.cell? ⟨G2, 1, none⟩ = some (.slice (some ⟨GS, 0, none⟩) 2 2) := HK6.out.2.2.cell 1
  have c2 : w6.cell? ⟨G2, 2, none⟩ = some (.slice none 0 0) := HK6.out.2.2.cell 2
  have c3 : w6.cell? ⟨G2, 3, none⟩ = some (.slice (some ⟨GL, 0, none⟩) 2 2) := HK6.out.2.2.cell 3
  have HC6 := hid (openK H6.out (r := 4) (s := 1) (B := 0) (by decide) (by decide) (by decide) HT.out HK6.out rfl (by decide) (free_nil _ _ _) (fun y hy => absurd hy (Nat.not_lt_zero _)))
  go_wp2_with fail
  refine HC6.out.mono ?_
  rintro e w7 ⟨rfl, h7, s7⟩
  have H7 := hid (show Lk w1 w7 X b [q1] T from h7)
  have HK7 := hid (HK6.out.same HT.out s7)
  clear h7 s7 HC6 c0 c1 c2 c3
  have c0 : w7.cell? ⟨G2, 0, none⟩ = some (.slice none 0 0) := HK7.out.2.2.cell 0
  have c1 : w7.cell? ⟨G2, 1, none⟩ = some (.slice (some ⟨GS, 0, none⟩) 2 2) := HK7.out.2.2.cell 1
  have c2 : w7.cell? ⟨G2, 2, none⟩ = some (.slice none 0 0) := HK7.out.2.2.cell 2
  have c3 : w7.cell? ⟨G2, 3, none⟩ = some (.slice (some ⟨GL, 0, none⟩) 2 2) := HK7.out.2.2.cell 3
  have HC7 := hid (openK H7.out (r := 4) (s := 2) (B := 5) (by decide) (by decide) (by decide) HT.out HK7.out rfl (by decide) free2 min2)
  go_wp2_with fail
  refine HC7.out.mono ?_
  rintro e w8 ⟨rfl, h8, s8⟩
  have H8 := hid (show Lk w1 w8 X b [q1, q2] T from h8)
  have HK8 := hid (HK7.out.same HT.out s8)
  clear h8 s8 HC7 c0 c1 c2 c3
  have c0 : w8.cell? ⟨G2, 0, none⟩ = some (.slice none 0 0) := HK8.out.2.2.cell 0
  have c1 : w8.cell? ⟨G2, 1, none⟩ = some (.slice (some ⟨GS, 0, none⟩) 2 2) := HK8.out.2.2.cell 1
  have c2 : w8.cell? ⟨G2, 2, none⟩ = some (.slice none 0 0) := HK8.out.2.2.cell 2
  have c3 : w8.cell? ⟨G2, 3, none⟩ = some (.slice (some ⟨GL, 0, none⟩) 2 2) := HK8.out.2.2.cell 3
  have HC8 := hid (openK H8.out (r := 5) (s := 1) (B := 0) (by decide) (by decide) (by decide) HT.out HK8.out rfl (by decide) free3 (fun y hy => absurd hy (Nat.not_lt_zero _)))
  go_wp2_with fail
  refine HC8.out.mono ?_
  rintro e w9 ⟨rfl, h9, s9⟩
  have H9 := hid (show Lk w1 w9 X b [q1, q2, q3] T from h9)
  have HK9 := hid (HK8.out.same HT.out s9)
  clear h9 s9 HC8 c0 c1 c2 c3
  have HC9 := hid (OpenQ_there H9.out (q := q2) (List.mem_cons_of_mem _ List.mem_cons_self) (.slice none 0 0) (.slice none 0 0) (.slice none 0 0) (.slice none 0 0))
  go_wp2_with fail
  refine HC9.out.mono ?_
  rintro e w10 ⟨rfl, n10⟩
  have H10 := hid (H9.out.new_ n10)
  have HK10 := hid (HK9.out.new_ n10)
  clear n10 HC9
  have HC10 := hid (SnapQ_ok H10.out (q := q1) List.mem_cons_self (n := 1) (by decide) 2 1 9 (by decide))
  go_wp2_with fail
  refine HC10.out.mono ?_
  rintro e w11 ⟨rfl, h11, s11⟩
  rw [k_snap] at h11
  have H11 := hid (show Lk w1 w11 X b [q1s, q2, q3] T from h11)
  have HK11 := hid (HK10.out.same HT.out (Same.less (T' := T) s11 (fun k hk => .inl hk)))
  clear h11 s11 HC10
  have HC11 := hid (SnapQ_bad H11.out (q := q1s) List.mem_cons_self 2 0 0 0 0 (.inr (by decide)))
  go_wp2_with fail
  refine HC11.out.mono ?_
  rintro e w12 ⟨rfl, n12⟩
  have H12 := hid (H11.out.new_ n12)
  have HK12 := hid (HK11.out.new_ n12)
  clear n12 HC11
  have HC12 := hid (SnapQ_arg H12.out (q := q1s) List.mem_cons_self (n := 0) (by decide) 0 0 2 0 (.inr (by decide)))
  go_wp2_with fail
  refine HC12.out.mono ?_
  rintro e w13 ⟨rfl, n13⟩
  have H13 := hid (H12.out.new_ n13)
  have HK13 := hid (HK12.out.new_ n13)
  clear n13 HC12
  have HC13 := hid (SnapQ_none H13.out 4 3 0 0 0 0 0 (okK_of (r := 4) (s := 3) (by decide) (by decide)) rfl)
  go_wp2_with fail
  refine HC13.out.mono ?_
  rintro e w14 ⟨rfl, n14⟩
  have H14 := hid (H13.out.new_ n14)
  have HK14 := hid (HK13.out.new_ n14)
  clear n14 HC13
  have HC14 := hid (LinkQ_ok H14.out (q := q1s) List.mem_cons_self (n := 1) (p := (2, 4, 0, 9)) rfl)
  go_wp2_with fail
  refine HC14.out.mono ?_
  rintro e w15 ⟨rfl, n15⟩
  have H15 := hid (H14.out.new_ n15)
  have HK15 := hid (HK14.out.new_ n15)
  clear n15 HC14
  go_wp2_with fail
  have hb15 := Blk.new w15 43 #[.int .i64 2, .int .i64 4, .int .i64 0, .int .i64 9]
  have hl15 := H15.out.box (.cells #[.int .i64 2, .int .i64 4, .int .i64 0, .int .i64 9] 43)
  have hk15 := HK15.out.new_ ((New.refl w15).alloc (.cells #[.int .i64 2, .int .i64 4, .int .i64 0, .int .i64 9] 43))
  obtain ⟨w16, hw16⟩ : ∃ W, W = w15.alloc (.cells #[.int .i64 2, .int .i64 4, .int .i64 0, .int .i64 9] 43) := ⟨_, rfl⟩
  obtain ⟨GP, hGP⟩ : ∃ GP, GP = w15.heap.size := ⟨_, rfl⟩
  rw [← hw16, ← hGP] at hb15 hl15 ⊢
  rw [← hw16] at hk15
  obtain ⟨T2, hT2⟩ : ∃ T2 : Nat → Prop, T2 = fun k => T k ∨ k = GP := ⟨_, rfl⟩
  rw [← hT2] at hl15
  have H16 := hid hl15
  have HK16 := hid hk15
  have HP16 := hid hb15
  have HT2 := hid (show T2 GS ∧ T2 GL ∧ T2 G2 by rw [hT2]; exact ⟨.inl HT.out.1, .inl HT.out.2.1, .inl HT.out.2.2⟩)
  have HTP := hid (show T2 GP by rw [hT2]; exact .inr rfl)
  clear hb15 hl15 hk15 hw16 hGP hT2
  have HC16 := hid (OwnQ_ok H16.out (q := q2) (List.mem_cons_of_mem _ List.mem_cons_self) (n := 1) (x := 8) rfl)
  refine HC16.out.mono ?_
  rintro e w17 ⟨rfl, n17⟩
  have H17 := hid (H16.out.new_ n17)
  have HK17 := hid (HK16.out.new_ n17)
  have HP17 := hid (HP16.out.new_ n17)
  clear n17 HC16
  have HC17 := hid (SetOwnQ_ok H17.out (q := q2) (List.mem_cons_of_mem _ List.mem_cons_self) (n := 1) (by decide) (y := 68719476739) (by decide) (by decide) (z := 3) (by decide))
  go_wp2_with fail
  refine HC17.out.mono ?_
  rintro e w18 ⟨rfl, h18, s18⟩
  rw [k_own] at h18
  have H18 := hid (show Lk w1 w18 X b [q1s, q2s, q3] T2 from h18)
  have HK18 := hid (HK17.out.same HT2.out (Same.less (T' := T2) s18 (fun k hk => .inl hk)))
  have HP18 := hid (Blk.of_block HP17.out ((Same.less (T' := T2) s18 (fun k hk => .inl hk)).2 GP HTP.out))
  clear h18 s18 HC17
  have HC18 := hid (OwnQ_ok H18.out (q := q2s) (List.mem_cons_of_mem _ List.mem_cons_self) (n := 1) (x := 3) rfl)
  go_wp2_with fail
  refine HC18.out.mono ?_
  rintro e w19 ⟨rfl, n19⟩
  have H19 := hid (H18.out.new_ n19)
  have HK19 := hid (HK18.out.new_ n19)
  have HP19 := hid (HP18.out.new_ n19)
  clear n19 HC18
  have HC19 := hid (OwnQ_ok H19.out (q := q3) (List.mem_cons_of_mem _ (List.mem_cons_of_mem _ List.mem_cons_self)) (n := 1) (x := 8) rfl)
  go_wp2_with fail
  refine HC19.out.mono ?_
  rintro e w20 ⟨rfl, n20⟩
  have H20 := hid (H19.out.new_ n20)
  have HK20 := hid (HK19.out.new_ n20)
  have HP20 := hid (HP19.out.new_ n20)
  clear n20 HC19
  have HC20 := hid (LooseQ H20.out (by decide) 4 2 k_cnt)
  go_wp2_with fail
  refine HC20.out.mono ?_
  rintro e w21 ⟨rfl, h21, s21⟩
  rw [k_loose] at h21
  have H21 := hid (show Lk w1 w21 X b [q1, q2s, q3] T2 from h21)
  have HK21 := hid (HK20.out.same HT2.out s21)
  have HP21 := hid (Blk.of_block HP20.out (s21.2 GP HTP.out))
  clear h21 s21 HC20
  have HC21 := hid (UnsnapQ_no H21.out (q := q1) List.mem_cons_self (n := 1) (p := (1, 4, 1, 1)) rfl (by decide))
  go_wp2_with fail
  refine HC21.out.mono ?_
  rintro e w22 ⟨rfl, n22⟩
  have H22 := hid (H21.out.new_ n22)
  have HK22 := hid (HK21.out.new_ n22)
  have HP22 := hid (HP21.out.new_ n22)
  clear n22 HC21
  have HC22 := hid (CloseQ_yes H22.out (q := q1) List.mem_cons_self)
  go_wp2_with fail
  refine HC22.out.mono ?_
  rintro e w23 ⟨rfl, h23, s23⟩
  rw [k_close] at h23
  have H23 := hid (show Lk w1 w23 X b [q2s, q3] T2 from h23)
  have HK23 := hid (HK22.out.same HT2.out s23)
  have HP23 := hid (Blk.of_block HP22.out (s23.2 GP HTP.out))
  clear h23 s23 HC22
  have HC23 := hid (CloseQ_no H23.out 4 1 (okK_of (r := 4) (s := 1) (by decide) (by decide)) rfl)
  go_wp2_with fail
  refine HC23.out.mono ?_
  rintro e w24 ⟨rfl, n24⟩
  have H24 := hid (H23.out.new_ n24)
  have HK24 := hid (HK23.out.new_ n24)
  have HP24 := hid (HP23.out.new_ n24)
  clear n24 HC23
  have c0 : w24.cell? ⟨G2, 0, none⟩ = some (.slice none 0 0) := HK24.out.2.2.cell 0
  have c1 : w24.cell? ⟨G2, 1, none⟩ = some (.slice (some ⟨GS, 0, none⟩) 2 2) := HK24.out.2.2.cell 1
  have c2 : w24.cell? ⟨G2, 2, none⟩ = some (.slice none 0 0) := HK24.out.2.2.cell 2
  have c3 : w24.cell? ⟨G2, 3, none⟩ = some (.slice (some ⟨GL, 0, none⟩) 2 2) := HK24.out.2.2.cell 3
  have HC24 := hid (openK H24.out (r := 4) (s := 3) (B := 0) (by decide) (by decide) (by decide) HT2.out HK24.out rfl (by decide) free4 (fun y hy => absurd hy (Nat.not_lt_zero _)))
  go_wp2_with fail
  refine HC24.out.mono ?_
  rintro e w25 ⟨rfl, h25, s25⟩
  have H25 := hid (show Lk w1 w25 X b [q2s, q3, q4] T2 from h25)
  have HK25 := hid (HK24.out.same HT2.out s25)
  have HP25 := hid (Blk.of_block HP24.out (s25.2 GP HTP.out))
  clear h25 s25 HC24 c0 c1 c2 c3
  have p0 : w25.cell? ⟨GP, 0, none⟩ = some (.int .i64 2) := HP25.out.cell 0
  have p1 : w25.cell? ⟨GP, 1, none⟩ = some (.int .i64 4) := HP25.out.cell 1
  have p2 : w25.cell? ⟨GP, 2, none⟩ = some (.int .i64 0) := HP25.out.cell 2
  have p3 : w25.cell? ⟨GP, 3, none⟩ = some (.int .i64 9) := HP25.out.cell 3
  have hq := fun W => eql_pt 2 4 0 9 2 4 0 9 W
  have HC25 := hid (usedQ H25.out (r := 4) (n := 10) (by decide) (by decide))
  go_wp2_with fail
  refine HC25.out.mono ?_
  rintro e w26 ⟨rfl, n26⟩
  have H26 := hid (H25.out.new_ n26)
  have HK26 := hid (HK25.out.new_ n26)
  have HP26 := hid (HP25.out.new_ n26)
  clear p0 p1 p2 p3 hq n26 HC25
  have HC26 := hid (usedQ H26.out (r := 5) (n := 5) (by decide) (by decide))
  go_wp2_with fail
  refine HC26.out.mono ?_
  rintro e w27 ⟨rfl, n27⟩
  have H27 := hid (H26.out.new_ n27)
  have HK27 := hid (HK26.out.new_ n27)
  have HP27 := hid (HP26.out.new_ n27)
  clear n27 HC26
  go_wp2_with fail
  refine (used_out X 9 (.inr (by decide)) _).mono ?_
  rintro e w28 ⟨rfl, hw28⟩
  subst hw28
  have HE := hid (hasQ H27.out 4 1 (okK_of (r := 4) (s := 1) (by decide) (by decide)) false rfl)
  go_wp2_with fail
  refine HE.out.mono ?_
  rintro e wz ⟨rfl, nz⟩
  have HZ := hid (HN1.out.step (H27.out.new.step nz))
  clear nz
  go_wp2
  go_ret
  exact ⟨rfl, HZ.out⟩
theorem linkageKnown_row {H : Type} {enc : TypeId × Value → H} (W : World) {base : Nat}
    : Calls Try.prog 7 #[] W fun e W' => e = .returned (.bool true) ∧ Below W.heap.size W W' := by
  exact linkageKnown_walk W
end Go.Proofs.Yteakbhfegbghoaa.Law
