/- The walk of LinkageFull. -/
import Derived.Test.YteakbhfegbghoaaLinkFull
namespace Go.Proofs.Yteakbhfegbghoaa.Law
open Go Go.RowKit Go.ChangeMaps Go.ChangeShapes Go.WideShapes Go.Proofs.Yteakbhfegbghoaa.Kit Go.Proofs.Yteakbhfegbghoaa.Area Go.Proofs.Yteakbhfegbghoaa.Wd Go.Proofs.Yteakbhfegbghoaa.Str Go.Proofs.Yteakbhfegbghoaa.Link
open Go.Proofs.Yteakbhfegbghoaa.Obj (Ob ObAt Lens)
set_option linter.unusedSimpArgs false
set_option linter.unusedVariables false
set_option maxRecDepth 100000 in
set_option maxHeartbeats 8000000 in
theorem linkageFull_walk (n d : Nat) (hn : n < 256) (hd : d < 256) (w : World) :
    Calls Try.prog 3 #[.int .u8 (n : Int), .int .u8 (d : Int)] w fun e w' => e = .returned (.bool true) ∧ New w w' := by
  have v1 : IntKind.i64.wrap (n : Int) = (n : Int) := by rw [IntKind.wrap_i64]; omega
  have v2 : IntKind.i64.wrap (d : Int) = (d : Int) := by rw [IntKind.wrap_i64]; omega
  obtain ⟨m, hm⟩ : ∃ m, m = n % 60 := ⟨_, rfl⟩
  have v3 : (n : Int).tmod 60 = (m : Int) := by rw [hm, Int.tmod_eq_emod_of_nonneg (by omega)]; rfl
  obtain ⟨K, hK⟩ : ∃ K, K = 1 + m := ⟨_, rfl⟩
  have hK60 : K ≤ 60 := by omega
  have hK1 : 1 ≤ K := by omega
  have v4 : IntKind.i64.wrap (1 + (m : Int)) = (K : Int) := by rw [IntKind.wrap_i64]; omega
  obtain ⟨K1, hK1'⟩ : ∃ K1, K1 = K + 1 := ⟨_, rfl⟩
  have v5 : IntKind.i64.wrap ((K : Int) + 1) = (K1 : Int) := by rw [IntKind.wrap_i64]; omega
  have HK1 := hid hK1'
  clear hm hK hK1'
  go_enter Try.func3, Try.ntmps3
  go_wp2_with fail
  refine (awake_any w).mono ?_
  rintro e w1 ⟨rfl, n1⟩
  have HN1 := hid n1
  clear n1
  go_wp2_with fail
  refine (newQ w1).mono ?_
  rintro e w2 ⟨rfl, h2⟩
  obtain ⟨X, hX⟩ : ∃ X, X = w1.heap.size + 1 := ⟨_, rfl⟩
  obtain ⟨b, hb⟩ : ∃ b, b = w1.heap.size := ⟨_, rfl⟩
  rw [← hX, ← hb] at h2
  rw [← hX]
  have H2 := hid h2
  clear h2 hX hb
  have hmk := fun W => kmake_w K (by omega) W
  have k0 : (0 : Int) ≤ (K : Int) := by omega
  go_wp2_with fail
  have hl3 := (H2.out.box (.cells (zarr K (.int .u64 0)) 52)).box (.cells #[.slice none 0 0, .slice (some ⟨w2.heap.size, 0, none⟩) K K, .slice none 0 0, .slice none 0 0] 29)
  have hB3 := (Blk.new w2 52 (zarr K (.int .u64 0))).alloc (.cells #[.slice none 0 0, .slice (some ⟨w2.heap.size, 0, none⟩) K K, .slice none 0 0, .slice none 0 0] 29)
  have hb3 := Blk.new (w2.alloc (.cells (zarr K (.int .u64 0)) 52)) 29 #[.slice none 0 0, .slice (some ⟨w2.heap.size, 0, none⟩) K K, .slice none 0 0, .slice none 0 0]
  rw [World.size_alloc] at hl3 hb3
  obtain ⟨w3, hw3⟩ : ∃ w3, w3 = (w2.alloc (.cells (zarr K (.int .u64 0)) 52)).alloc (.cells #[.slice none 0 0, .slice (some ⟨w2.heap.size, 0, none⟩) K K, .slice none 0 0, .slice none 0 0] 29) := ⟨_, rfl⟩
  rw [← hw3] at hl3 hB3 hb3 ⊢
  obtain ⟨G2, hG2⟩ : ∃ G2, G2 = w2.heap.size + 1 := ⟨_, rfl⟩
  rw [← hG2] at hl3 hb3 ⊢
  obtain ⟨G, hG⟩ : ∃ G, G = w2.heap.size := ⟨_, rfl⟩
  rw [← hG] at hl3 hB3 hb3 ⊢
  clear hw3 hG2 hG
  obtain ⟨T, hT⟩ : ∃ T : Nat → Prop, T = fun k => (False ∨ k = G) ∨ k = G2 := ⟨_, rfl⟩
  rw [← hT] at hl3
  have tG : T G := by rw [hT]; exact .inl (.inr rfl)
  have tG2 : T G2 := by rw [hT]; exact .inr rfl
  have HT := hid (And.intro tG tG2)
  have H3 := hid (And.intro hl3 (And.intro hB3 hb3))
  have HS : Hid (∀ W W', Blk W G 52 (zarr K (.int .u64 0)) ∧ Blk W G2 29 #[.slice none 0 0, .slice (some ⟨G, 0, none⟩) K K, .slice none 0 0, .slice none 0 0] → Same T W W' → Blk W' G 52 (zarr K (.int .u64 0)) ∧ Blk W' G2 29 #[.slice none 0 0, .slice (some ⟨G, 0, none⟩) K K, .slice none 0 0, .slice none 0 0]) :=
    fun W W' h hs => ⟨Blk.of_block h.1 (hs.2 _ tG), Blk.of_block h.2 (hs.2 _ tG2)⟩
  clear hl3 hB3 hb3 hT tG tG2 hmk
  go_loopw [8, 9, 10, 11] (fun many seg _ _ wx => ∃ M j : Nat, many = .int .i64 (M : Int) ∧ seg = .int .i64 (j : Int) ∧ 1 ≤ j ∧ j ≤ 64 ∧ (M + 1 = j ∨ M + 1 < j ∧ 256 < (M + 1) * K1) ∧ M * K1 ≤ 256 ∧ Lk w1 wx X b (secs K M) T ∧ Blk wx G 52 (zarr K (.int .u64 0)) ∧ Blk wx G2 29 #[.slice none 0 0, .slice (some ⟨G, 0, none⟩) K K, .slice none 0 0, .slice none 0 0]) (fun _ seg _ _ _ => 64 - (intOf seg).toNat)
  case atStart => exact ⟨0, 1, rfl, rfl, Nat.le_refl _, by decide, .inl rfl, (by rw [Nat.zero_mul]; exact Nat.zero_le _), H3.out⟩
  case round =>
    obtain ⟨M, j, rfl, rfl, hj1, hj64, hMj, hMP, hl, hB, hb⟩ := hrel
    have c0 : wr.cell? ⟨G2, 0, none⟩ = some (.slice none 0 0) := hb.cell 0
    have c1 : wr.cell? ⟨G2, 1, none⟩ = some (.slice (some ⟨G, 0, none⟩) K K) := hb.cell 1
    have c2 : wr.cell? ⟨G2, 2, none⟩ = some (.slice none 0 0) := hb.cell 2
    have c3 : wr.cell? ⟨G2, 3, none⟩ = some (.slice none 0 0) := hb.cell 3
    have hM64 : M ≤ 63 := by omega
    by_cases hj : j ≤ 63
    · have hj' : (j : Int) ≤ 63 := by omega
      obtain ⟨M1, hM1⟩ : ∃ M1, M1 = M + 1 := ⟨_, rfl⟩
      obtain ⟨P, hP⟩ : ∃ P, P = M1 * K1 := ⟨_, rfl⟩
      have hPle : P ≤ 64 * 61 := by rw [hP]; exact Nat.mul_le_mul (by omega) (by have := HK1.out; omega)
      rcases Nat.lt_or_ge 256 P with hfit | hfit
      rotate_left
      · as_aux_lemma => --[[ fit
        have hfitD : decide ((P : Int) ≤ 256) = true := decide_eq_true (by omega)
        have hMj2 : M1 = j := by
          rcases hMj with h | ⟨_, h⟩
          · omega
          · rw [← hM1, ← hP] at h; omega
        have hPP : P = M * K1 + (K + 1) := by rw [hP, hM1, Nat.add_mul, Nat.one_mul, HK1.out]
        have ho := openS hl (r := 4) (s := j) (B := M * K1) (by decide) hj1 hj hK60 HT.out.1 hB (secs_none (by omega)) (by omega) (by rw [HK1.out]; exact secs_free K M) (fun y hy => secs_not _ (fun i hi => nth_mem hi) (by rw [← HK1.out]; exact hy))
        have HO := hid ho
        have HX := hid (And.intro hB hb)
        have HE := hid (show secs K M ++ [newSc 4 j (M * K1) (oS K)] = secs K M1 by rw [hM1, secs_succ]; unfold nth; rw [← hM1, hMj2, HK1.out])
        have HM := hid (And.intro hM1 (And.intro hMj2 (show M1 * K1 ≤ 256 by rw [← hP]; exact hfit)))
        have u1 : IntKind.i64.wrap ((M : Int) + 1) = (M1 : Int) := by rw [IntKind.wrap_i64]; omega
        have u2 : IntKind.i64.wrap ((M1 : Int) * (K1 : Int)) = (P : Int) := by
          rw [show (M1 : Int) * (K1 : Int) = (P : Int) by rw [hP]; simp, IntKind.wrap_i64]; omega
        have u2' : wrap64 (((M : Int) + 1) * (K1 : Int)) = (P : Int) := by
          rw [show ((M : Int) + 1) = (M1 : Int) by omega, show (M1 : Int) * (K1 : Int) = (P : Int) by rw [hP]; simp]; unfold wrap64; omega
        have u3 : IntKind.i64.wrap ((j : Int) + 1) = (j : Int) + 1 := by rw [IntKind.wrap_i64]; omega
        generalize M * K1 = B at *
        clear ho hl hB hb hP hPle hMj hMj2 hPP hM1 hfit hMP
        go_wp2_with fail
        refine HO.out.mono ?_
        rintro e w4 ⟨rfl, h4, s4⟩
        rw [HE.out] at h4
        have H4 := hid (And.intro h4 (HS.out _ _ HX.out s4))
        clear h4 s4 c0 c1 c2 c3
        go_wp2_with fail
        clear u1 u2 u2' u3 hfitD v1 v2 v3 v4 v5
        exact ⟨⟨M1, j + 1, rfl, by go_num, by omega, by omega, .inl (by have := HM.out.2.1; omega), HM.out.2.2, H4.out.1, H4.out.2⟩, by simp [intOf]; omega⟩
        --]] fit
      · as_aux_lemma => --[[ full
        have hfitD : decide ((P : Int) ≤ 256) = false := decide_eq_false (Int.not_le.2 (Int.ofNat_lt.2 hfit))
        have hbig : 256 < (M + 1) * K1 := by rw [← hM1, ← hP]; exact hfit
        have hMl : M < j := by omega
        have ho := openS_full hl (r := 4) (s := j) (by decide) hj1 hj hK60 hB (secs_none hMl) (secs_full (by rw [← HK1.out]; exact hbig))
        have HO := hid ho
        have HX := hid (And.intro hB hb)
        have HM := hid (And.intro hbig (And.intro hMl hMP))
        have u1 : IntKind.i64.wrap ((M : Int) + 1) = (M1 : Int) := by rw [IntKind.wrap_i64]; omega
        have u2 : IntKind.i64.wrap ((M1 : Int) * (K1 : Int)) = (P : Int) := by
          rw [show (M1 : Int) * (K1 : Int) = (P : Int) by rw [hP]; simp, IntKind.wrap_i64]; omega
        have u2' : wrap64 (((M : Int) + 1) * (K1 : Int)) = (P : Int) := by
          rw [show ((M : Int) + 1) = (M1 : Int) by omega, show (M1 : Int) * (K1 : Int) = (P : Int) by rw [hP]; simp]; unfold wrap64; omega
        have u3 : IntKind.i64.wrap ((j : Int) + 1) = (j : Int) + 1 := by rw [IntKind.wrap_i64]; omega
        clear ho hl hB hb hP hPle hMj hbig hMl hfit hMP
        go_wp2_with fail
        refine HO.out.mono ?_
        rintro e w4 ⟨rfl, h4, s4⟩
        have H4 := hid (And.intro h4 (HS.out _ _ HX.out s4))
        clear h4 s4 c0 c1 c2 c3
        go_wp2_with fail
        clear u1 u2 u2' u3 hfitD v1 v2 v3 v4 v5
        exact ⟨⟨M, j + 1, rfl, by go_num, by omega, by omega, .inr ⟨by have := HM.out.2.1; omega, HM.out.1⟩, HM.out.2.2, H4.out.1, H4.out.2⟩, by simp [intOf]; omega⟩
        --]] full
    · as_aux_lemma => --[[ end
      have hj' : ¬ (j : Int) ≤ 63 := by omega
      have hM0 : 0 < M := by
        rcases hMj with h | ⟨_, h⟩
        · omega
        · have := HK1.out
          rcases Nat.eq_zero_or_pos M with e | e
          · subst e; omega
          · exact e
      have hM0' : ¬ (M : Int) = 0 := by omega
      obtain ⟨i, hi⟩ : ∃ i, i = d % M := ⟨_, rfl⟩
      have hiM : i < M := by rw [hi]; exact Nat.mod_lt _ hM0
      have u1 : (d : Int).tmod (M : Int) = (i : Int) := by rw [hi, Int.tmod_eq_emod_of_nonneg (by omega)]; rfl
      obtain ⟨D, hD⟩ : ∃ D, D = i + 1 := ⟨_, rfl⟩
      have u2 : IntKind.i64.wrap (1 + (i : Int)) = (D : Int) := by rw [IntKind.wrap_i64]; omega
      have u3 : IntKind.i64.wrap ((D : Int) - 1) = (i : Int) := by rw [IntKind.wrap_i64]; omega
      obtain ⟨B, hBB⟩ : ∃ B, B = i * K1 := ⟨_, rfl⟩
      obtain ⟨P, hP⟩ : ∃ P, P = M * K1 := ⟨_, rfl⟩
      have hBl : B ≤ 64 * 61 := by rw [hBB]; exact Nat.mul_le_mul (by omega) (by have := HK1.out; omega)
      have hPl : P ≤ 64 * 61 := by rw [hP]; exact Nat.mul_le_mul (by omega) (by have := HK1.out; omega)
      have u4 : IntKind.i64.wrap ((i : Int) * (K1 : Int)) = (B : Int) := by
        rw [show (i : Int) * (K1 : Int) = (B : Int) by rw [hBB]; simp, IntKind.wrap_i64]; omega
      have u5 : IntKind.i64.wrap ((M : Int) * (K1 : Int)) = (P : Int) := by
        rw [show (M : Int) * (K1 : Int) = (P : Int) by rw [hP]; simp, IntKind.wrap_i64]; omega
      have ho := openS hl (r := 5) (s := 9) (B := 0) (by decide) (by decide) (by decide) hK60 HT.out.1 hB (none5 K M) (by omega) (free5 K M _ _) (fun y hy => absurd hy (Nat.not_lt_zero _))
      have HO := hid ho
      have HX := hid (And.intro hB hb)
      have HI := hid (And.intro hiM (And.intro hD (And.intro hBB hP)))
      have hfitB : B + (K + 1) ≤ 256 := by
        have h1 := step_le (n := K1) hiM
        rw [hBB, ← HK1.out]
        exact Nat.le_trans h1 hMP
      have HFB := hid hfitB
      clear ho hl hB hb hMj hi hD hBB hP hBl hPl hiM hM0 hMP hfitB
      go_wp2_with fail
      refine HO.out.mono ?_
      rintro e w4 ⟨rfl, h4, s4⟩
      have H4 := hid (And.intro (show Lk w1 w4 X b (with5 K M) T from h4) (HS.out _ _ HX.out s4))
      clear h4 s4 c0 c1 c2 c3
      have hc := CloseQ_yes H4.out.1 (q := nth K i) (List.mem_append_left _ (nth_mem HI.out.1))
      rw [show ((nth K i).ring : Int) = 4 from rfl, show ((nth K i).seg : Int) = (D : Int) by rw [HI.out.2.1]; rfl] at hc
      have HC := hid hc
      clear hc
      go_wp2_with fail
      refine HC.out.mono ?_
      rintro e w5 ⟨rfl, h5, s5⟩
      have H5 := hid (And.intro (show Lk w1 w5 X b (lack K M i) T from h5) (HS.out _ _ H4.out.2 s5))
      clear h5 s5
      have ho2 := openS H5.out.1 (r := 4) (s := D) (B := B) (by decide) (by have := HI.out.2.1; omega) (by have := HI.out; omega) hK60 HT.out.1 H5.out.2.1 (by rw [HI.out.2.1]; exact lack_none K M i)
        HFB.out (by rw [HI.out.2.2.1, HK1.out]; exact lack_free HI.out.1) (fun y hy => lack_not HI.out.1 (by rw [← HK1.out, ← HI.out.2.2.1]; exact hy))
      have HO2 := hid ho2
      have c0 : w5.cell? ⟨G2, 0, none⟩ = some (.slice none 0 0) := H5.out.2.2.cell 0
      have c1 : w5.cell? ⟨G2, 1, none⟩ = some (.slice (some ⟨G, 0, none⟩) K K) := H5.out.2.2.cell 1
      have c2 : w5.cell? ⟨G2, 2, none⟩ = some (.slice none 0 0) := H5.out.2.2.cell 2
      have c3 : w5.cell? ⟨G2, 3, none⟩ = some (.slice none 0 0) := H5.out.2.2.cell 3
      clear ho2
      go_wp2_with fail
      refine HO2.out.mono ?_
      rintro e w6 ⟨rfl, h6, s6⟩
      have h7 := usedQ h6 (r := 4) (n := P) (by decide) (by
        rw [show newSc 4 D B (oS K) = nth K i by unfold nth; rw [HI.out.2.1, HI.out.2.2.1, HK1.out], end_sum H4.out.1.nodup HI.out.1, HI.out.2.2.2, HK1.out])
      have H7 := hid h7
      have H6 := hid h6.new
      clear h6 s6 h7 c0 c1 c2 c3
      go_wp2_with fail
      refine H7.out.mono ?_
      rintro e w7 ⟨rfl, n7⟩
      have H8 := hid ((HN1.out.step H6.out).step n7)
      clear n7
      go_wp2
      go_ret
      exact ⟨rfl, H8.out⟩
      --]] end
end Go.Proofs.Yteakbhfegbghoaa.Law
