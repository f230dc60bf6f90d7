/- The walk of LinkageWords. -/
import Derived.Test.YteakbhfegbghoaaLinkWords
namespace Go.Proofs.Yteakbhfegbghoaa.Law
open Go Go.RowKit Go.ChangeMaps Go.ChangeShapes Go.WideShapes Go.Proofs.Yteakbhfegbghoaa.Kit Go.Proofs.Yteakbhfegbghoaa.Area Go.Proofs.Yteakbhfegbghoaa.Wd Go.Proofs.Yteakbhfegbghoaa.Str Go.Proofs.Yteakbhfegbghoaa.Link
open Go.Proofs.Yteakbhfegbghoaa.Obj (Ob ObAt Lens)
open Go.Proofs.Yteakbhfegbghoaa.Letters (wv)
set_option linter.unusedSimpArgs false
set_option linter.unusedVariables false
set_option maxRecDepth 100000 in
set_option maxHeartbeats 8000000 in
theorem linkageWords_walk (n d : Nat) (y : Int) (hn : n < 256) (hd : d < 256) (y0 : 0 ≤ y) (y1 : y < 18446744073709551616) (w : World) :
    Calls Try.prog 5 #[.int .u8 (n : Int), .int .u8 (d : Int), .int .u64 y] w fun e w' => e = .returned (.bool true) ∧ New w w' := by
  have v1 : IntKind.i64.wrap (n : Int) = (n : Int) := by rw [IntKind.wrap_i64]; omega
  have v2 : IntKind.i64.wrap (d : Int) = (d : Int) := by rw [IntKind.wrap_i64]; omega
  obtain ⟨m, hm⟩ : ∃ m, m = n % 30 := ⟨_, rfl⟩
  have v3 : (n : Int).tmod 30 = (m : Int) := by rw [hm, Int.tmod_eq_emod_of_nonneg (by omega)]; rfl
  obtain ⟨K, hK⟩ : ∃ K, K = 1 + m := ⟨_, rfl⟩
  have hK30 : K ≤ 30 := by omega
  have hK1 : 0 < K := by omega
  have v4 : IntKind.i64.wrap (1 + (m : Int)) = (K : Int) := by rw [IntKind.wrap_i64]; omega
  obtain ⟨i, hi⟩ : ∃ i, i = d % K := ⟨_, rfl⟩
  have hiK : i < K := by rw [hi]; exact Nat.mod_lt _ hK1
  have v5 : (d : Int).tmod (K : Int) = (i : Int) := by rw [hi, Int.tmod_eq_emod_of_nonneg (by omega)]; rfl
  have v6 : ¬ (K : Int) = 0 := by omega
  obtain ⟨s, hs⟩ : ∃ s, s = i * 7 := ⟨_, rfl⟩
  have v7 : IntKind.i64.wrap ((i : Int) * 7) = (s : Int) := by rw [IntKind.wrap_i64]; omega
  have v8 : IntKind.u64.wrap (s : Int) = (s : Int) := by rw [IntKind.wrap_u64]; omega
  obtain ⟨z, hz⟩ : ∃ z : Nat, y % 68719476736 = (z : Int) := Int.eq_ofNat_of_zero_le (Int.emod_nonneg _ (by decide))
  have v9 : Go.bits .and .u64 y 68719476735 = (z : Int) := by rw [and_mask y0 y1]; exact hz
  have HI := hid (And.intro hiK (And.intro hs hz))
  clear hm hK hi hs hz
  go_enter Try.func5, Try.ntmps5
  go_wp2_with fail
  refine (awake_any w).mono ?_
  rintro e w1 ⟨rfl, n1⟩
  have HN1 := hid n1
  clear n1
  go_wp2_with fail
  refine (newQ w1).mono ?_
  rintro e w2 ⟨rfl, h2⟩
  obtain ⟨X, hX⟩ : ∃ X, X = w1.heap.size + 1 := ⟨_, rfl⟩
  obtain ⟨b, hb⟩ : ∃ b, b = w1.heap.size := ⟨_, rfl⟩
  rw [← hX, ← hb] at h2
  rw [← hX]
  have H2 := hid h2
  clear h2 hX hb
  have hmk := fun W => kmake_w K (by omega) W
  have k0 : (0 : Int) ≤ (K : Int) := by omega
  go_wp2_with fail
  have hl3 := (H2.out.box (.cells (zarr K (.int .u64 0)) 52)).box (.cells #[.slice none 0 0, .slice (some ⟨w2.heap.size, 0, none⟩) K K, .slice none 0 0, .slice none 0 0] 29)
  have hB3 := (Blk.new w2 52 (zarr K (.int .u64 0))).alloc (.cells #[.slice none 0 0, .slice (some ⟨w2.heap.size, 0, none⟩) K K, .slice none 0 0, .slice none 0 0] 29)
  have hb3 := Blk.new (w2.alloc (.cells (zarr K (.int .u64 0)) 52)) 29 #[.slice none 0 0, .slice (some ⟨w2.heap.size, 0, none⟩) K K, .slice none 0 0, .slice none 0 0]
  rw [World.size_alloc] at hl3 hb3
  obtain ⟨w3, hw3⟩ : ∃ w3, w3 = (w2.alloc (.cells (zarr K (.int .u64 0)) 52)).alloc (.cells #[.slice none 0 0, .slice (some ⟨w2.heap.size, 0, none⟩) K K, .slice none 0 0, .slice none 0 0] 29) := ⟨_, rfl⟩
  rw [← hw3] at hl3 hB3 hb3 ⊢
  obtain ⟨G2, hG2⟩ : ∃ G2, G2 = w2.heap.size + 1 := ⟨_, rfl⟩
  rw [← hG2] at hl3 hb3 ⊢
  have hGG : Hid (w2.heap.size ≠ G2) := by show ¬ w2.heap.size = G2; omega
  obtain ⟨G, hG⟩ : ∃ G, G = w2.heap.size := ⟨_, rfl⟩
  rw [← hG] at hl3 hB3 hb3 hGG ⊢
  clear hw3 hG2 hG
  rw [wcells_zero, ← sevens_zero] at hB3
  obtain ⟨T, hT⟩ : ∃ T : Nat → Prop, T = fun k => (False ∨ k = G) ∨ k = G2 := ⟨_, rfl⟩
  rw [← hT] at hl3
  have tG : T G := by rw [hT]; exact .inl (.inr rfl)
  have tG2 : T G2 := by rw [hT]; exact .inr rfl
  have HT := hid (And.intro tG tG2)
  have H3 := hid (And.intro hl3 (And.intro hB3 hb3))
  have HS : Hid (∀ W W', Blk W G 52 (wcells (sevens K K)) ∧ Blk W G2 29 #[.slice none 0 0, .slice (some ⟨G, 0, none⟩) K K, .slice none 0 0, .slice none 0 0] → Same T W W' → Blk W' G 52 (wcells (sevens K K)) ∧ Blk W' G2 29 #[.slice none 0 0, .slice (some ⟨G, 0, none⟩) K K, .slice none 0 0, .slice none 0 0]) :=
    fun W W' h hs => ⟨Blk.of_block h.1 (hs.2 _ tG), Blk.of_block h.2 (hs.2 _ tG2)⟩
  clear hl3 hB3 hb3 hT tG tG2 hmk
  go_loopw [10] (fun j wx => ∃ q : Nat, q ≤ K ∧ j = .int .i64 (q : Int) ∧ Lk w1 wx X b [] T ∧ Blk wx G 52 (wcells (sevens K q)) ∧ Blk wx G2 29 #[.slice none 0 0, .slice (some ⟨G, 0, none⟩) K K, .slice none 0 0, .slice none 0 0]) (fun j _ => K - (intOf j).toNat)
  case atStart => exact ⟨0, Nat.zero_le _, rfl, H3.out⟩
  case round =>
    obtain ⟨q, hq, rfl, hl, hB, hb⟩ := hrel
    have c1 : wr.cell? ⟨G2, 1, none⟩ = some (.slice (some ⟨G, 0, none⟩) K K) := hb.cell 1
    by_cases hqK : q < K
    · as_aux_lemma => --[[ fill
      have e1 := sevens_len (Nat.le_of_lt hqK)
      have e2 := sevens_next hqK
      obtain ⟨u, hu⟩ : ∃ u, (sevens K q)[q]? = some u := ⟨_, List.getElem?_eq_getElem (by rw [e1]; exact hqK)⟩
      have cg : wr.cell? ⟨G, q, none⟩ = some (wv u) := by rw [hB.cell]; unfold wcells; simp [hu]
      have cf : wr.frozen? ⟨G, q, none⟩ = false := hB.frozen q
      have cz : G < wr.heap.size := hB.lt
      have j0 : (0 : Int) ≤ (q : Int) := by omega
      have j1 : (q : Int) < (K : Int) := by omega
      obtain ⟨p, hp⟩ : ∃ p, p = q * 7 := ⟨_, rfl⟩
      have u1 : IntKind.i64.wrap ((q : Int) * 7) = (p : Int) := by rw [IntKind.wrap_i64]; omega
      have u2 : IntKind.u64.wrap (p : Int) = (p : Int) := by rw [IntKind.wrap_u64]; omega
      have u3 : IntKind.i64.wrap ((q : Int) + 1) = q + 1 := by rw [IntKind.wrap_i64]; omega
      have hl' := hl.kept (Keeps.own (T := T) (w := wr) (G := G) HT.out.1 q (.int .u64 (p : Int))) (T' := T) (fun k hk => ⟨.inl hk, by rw [size_setCell]; exact hl.ltT hk⟩)
      have hB' : Blk (wr.setCell ⟨G, q, none⟩ (.int .u64 (p : Int))) G 52 (wcells (sevens K (q + 1))) := by
        rw [← e2, ← hp, ← wcells_set]
        exact hB.set q (wv p)
      have hb' := hb.far (p := ⟨G, q, none⟩) (fun e => hGG e.symm) (.int .u64 (p : Int))
      have HX := hid (And.intro hl' (And.intro hB' hb'))
      clear hl hB hb hl' hB' hb' e1 e2 hu hp
      unfold wv at cg
      go_wp2_with fail
      exact ⟨⟨q + 1, by omega, by go_num, HX.out⟩, by simp [intOf]; omega⟩
      --]] fill
    · as_aux_lemma => --[[ end
      have hqe : q = K := by omega
      subst hqe
      have hlt : ¬ (q : Int) < (q : Int) := by omega
      have c0 : wr.cell? ⟨G2, 0, none⟩ = some (.slice none 0 0) := hb.cell 0
      have c2 : wr.cell? ⟨G2, 2, none⟩ = some (.slice none 0 0) := hb.cell 2
      have c3 : wr.cell? ⟨G2, 3, none⟩ = some (.slice none 0 0) := hb.cell 3
      have ho := openW hl (r := 3) (s := 1) (by decide) (by decide) (by decide) hK30 HT.out.1 hB rfl (fun q hq => by cases hq)
      have HO := hid ho
      have HX := hid (And.intro hB hb)
      clear ho hl hB hb
      go_wp2_with fail
      refine HO.out.mono ?_
      rintro e w4 ⟨rfl, h4, s4⟩
      have H4 := hid (And.intro (show Lk w1 w4 X b [sA q] T from h4) (HS.out _ _ HX.out s4))
      clear h4 s4 c0 c1 c2 c3
      have c0 : w4.cell? ⟨G2, 0, none⟩ = some (.slice none 0 0) := H4.out.2.2.cell 0
      have c1 : w4.cell? ⟨G2, 1, none⟩ = some (.slice (some ⟨G, 0, none⟩) q q) := H4.out.2.2.cell 1
      have c2 : w4.cell? ⟨G2, 2, none⟩ = some (.slice none 0 0) := H4.out.2.2.cell 2
      have c3 : w4.cell? ⟨G2, 3, none⟩ = some (.slice none 0 0) := H4.out.2.2.cell 3
      have HO2 := hid (openW H4.out.1 (r := 4) (s := 1) (by decide) (by decide) (by decide) hK30 HT.out.1 H4.out.2.1 rfl (fun p hp e => by rw [List.mem_singleton.1 hp] at e; cases e))
      go_wp2_with fail
      refine HO2.out.mono ?_
      rintro e w5 ⟨rfl, h5, s5⟩
      have H5 := hid (And.intro (show Lk w1 w5 X b [sA q, sB q] T from h5) (HS.out _ _ H4.out.2 s5))
      clear h5 s5 c0 c1 c2 c3
      have hst : i < (sA q).st.length := by rw [sA_st, sevens_len (Nat.le_refl _)]; exact HI.out.1
      have HSt := hid (SetOwnQ_ok H5.out.1 (q := sA q) List.mem_cons_self hst y0 y1 HI.out.2.2)
      clear hst
      go_wp2_with fail
      refine HSt.out.mono ?_
      rintro e w6 ⟨rfl, h6, s6⟩
      rw [two_set] at h6
      have H6 := hid (And.intro h6 (HS.out _ _ H5.out.2 (Same.less s6 (fun k hk => .inl hk))))
      clear h6 s6
      have HA := hid (OwnQ_ok H6.out.1 (q := setSt (sA q) i z) List.mem_cons_self (n := i) (x := z) (by
        show ((sevens q q).set i z)[i]? = some z
        rw [List.getElem?_set_self (by rw [sevens_len (Nat.le_refl _)]; exact HI.out.1)]))
      go_wp2_with fail
      refine HA.out.mono ?_
      rintro e w7 ⟨rfl, n7⟩
      have H7 := hid (And.intro (H6.out.1.new_ n7) (And.intro (H6.out.2.1.new_ n7) (H6.out.2.2.new_ n7)))
      clear n7
      have HB := hid (OwnQ_ok H7.out.1 (q := sB q) (List.mem_cons_of_mem _ List.mem_cons_self) (n := i) (x := s) (by rw [sB_st, sevens_at HI.out.1, HI.out.2.1]))
      go_wp2_with fail
      refine HB.out.mono ?_
      rintro e w8 ⟨rfl, n8⟩
      have H8 := hid (And.intro (H7.out.1.new_ n8) (And.intro (H7.out.2.1.new_ n8) (H7.out.2.2.new_ n8)))
      clear n8
      have HC := hid (CloseQ_yes H8.out.1 (q := setSt (sA q) i z) List.mem_cons_self)
      go_wp2_with fail
      refine HC.out.mono ?_
      rintro e w9 ⟨rfl, h9, s9⟩
      rw [two_close] at h9
      have H9 := hid (And.intro h9 (HS.out _ _ H8.out.2 s9))
      clear h9 s9
      have HD := hid (OwnQ_none H9.out.1 3 1 (i : Int) (okK_of (r := 3) (s := 1) (by decide) (by decide)) rfl)
      go_wp2_with fail
      refine HD.out.mono ?_
      rintro e w10 ⟨rfl, n10⟩
      have H10 := hid (And.intro (H9.out.1.new_ n10) (And.intro (H9.out.2.1.new_ n10) (H9.out.2.2.new_ n10)))
      clear n10
      have c0 : w10.cell? ⟨G2, 0, none⟩ = some (.slice none 0 0) := H10.out.2.2.cell 0
      have c1 : w10.cell? ⟨G2, 1, none⟩ = some (.slice (some ⟨G, 0, none⟩) q q) := H10.out.2.2.cell 1
      have c2 : w10.cell? ⟨G2, 2, none⟩ = some (.slice none 0 0) := H10.out.2.2.cell 2
      have c3 : w10.cell? ⟨G2, 3, none⟩ = some (.slice none 0 0) := H10.out.2.2.cell 3
      have HO3 := hid (openW H10.out.1 (r := 3) (s := 1) (by decide) (by decide) (by decide) hK30 HT.out.1 H10.out.2.1 rfl (fun p hp e => by rw [List.mem_singleton.1 hp] at e; cases e))
      go_wp2_with fail
      refine HO3.out.mono ?_
      rintro e w11 ⟨rfl, h11, s11⟩
      have H11 := hid (show Lk w1 w11 X b [sB q, sA q] T from h11)
      clear h11 s11 c0 c1 c2 c3
      have HE := hid (OwnQ_ok H11.out (q := sA q) (List.mem_cons_of_mem _ List.mem_cons_self) (n := i) (x := s) (by rw [sA_st, sevens_at HI.out.1, HI.out.2.1]))
      go_wp2_with fail
      refine HE.out.mono ?_
      rintro e w12 ⟨rfl, n12⟩
      have H12 := hid (HN1.out.step (H11.out.new.step n12))
      clear n12
      go_wp2
      go_ret
      exact ⟨rfl, H12.out⟩
      --]] end
end Go.Proofs.Yteakbhfegbghoaa.Law
