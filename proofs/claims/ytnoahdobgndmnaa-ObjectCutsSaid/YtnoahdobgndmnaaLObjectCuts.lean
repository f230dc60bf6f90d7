/- The walk of ObjectCuts. -/
import Derived.Test.YtnoahdobgndmnaaObjP
import Derived.Test.YtnoahdobgndmnaaDel
import Derived.BigQuiet
namespace Go.Proofs.Ytnoahdobgndmnaa.Law
open Go Go.RowKit Go.ChangeShapes Go.WideShapes Go.Proofs.Ytnoahdobgndmnaa.Kit Go.Proofs.Ytnoahdobgndmnaa.Str Go.Proofs.Ytnoahdobgndmnaa.Obj
open Go.Proofs.Ytnoahdobgndmnaa.Letters (wv WsAt word_info)
set_option linter.unusedSimpArgs false
set_option linter.unusedVariables false
theorem ls_take {w : World} {b o m c j : Nat} {xs : List Nat} (h : LsAt 1 uw w (.slice (some ⟨b, o, none⟩) m c) xs) (hj : j ≤ m) : LsAt 1 uw w (.slice (some ⟨b, o, none⟩) j c) (xs.take j) := by
  have hm := h.n_eq
  obtain ⟨a', c', hv, h1, h2, h3⟩ := h
  injection hv with e1 e2 e3
  subst e1 e3
  have hl : (xs.take j).length = j := by rw [List.length_take]; omega
  refine ⟨_, _, by rw [hl], by omega, h2, fun h0 => ?_⟩
  obtain ⟨b', o', e, hb, hc⟩ := h3 (by omega)
  refine ⟨b', o', e, hb, fun i x hx => ?_⟩
  have hi : i < j := by rw [← hl]; exact (List.getElem?_eq_some_iff.1 hx).1
  rw [List.getElem?_take_of_lt hi] at hx
  exact hc i x hx
theorem ls_drop {w : World} {b o m c j : Nat} {xs : List Nat} (h : LsAt 1 uw w (.slice (some ⟨b, o, none⟩) m c) xs) (hj : j < m) (a : Addr) (c2 : Nat) (ha : a = ⟨b, o + (j + 1), none⟩ ∧ c2 = c - (j + 1) ∨ m - (j + 1) = 0 ∧ c2 = 0) : LsAt 1 uw w (.slice (some a) (m - (j + 1)) c2) (xs.drop (j + 1)) := by
  have hm := h.n_eq
  obtain ⟨a', c', hv, h1, h2, h3⟩ := h
  injection hv with e1 e2 e3
  subst e1 e3
  have hl : (xs.drop (j + 1)).length = m - (j + 1) := by rw [List.length_drop]; omega
  refine ⟨_, _, by rw [hl], by rcases ha with h | h <;> omega, by rcases ha with h | h <;> omega, fun h0 => ?_⟩
  rcases ha with ⟨rfl, _⟩ | ⟨h, _⟩
  · obtain ⟨b', o', e, hb, hc⟩ := h3 (by omega)
    injection e with e
    injection e with e e'
    subst e e'
    refine ⟨b, o + (j + 1), rfl, hb, fun i x hx k u hu => ?_⟩
    rw [List.getElem?_drop] at hx
    have := hc _ x hx k u hu
    rw [Nat.mul_one] at this ⊢
    rw [Nat.add_assoc o]
    exact this
  · omega
/-- The two runs of append(append([]T{}, s[:j]...), s[j+1:]...). -/
theorem cut_ls (w : World) (b o m c j : Nat) (xs : List Nat) (hs : LsAt 1 uw w (.slice (some ⟨b, o, none⟩) m c) xs) (hj : j < m) (hm : m ≤ 1000000) (a : Addr) (c2 : Nat) (ha : a = ⟨b, o + (j + 1), none⟩ ∧ c2 = c - (j + 1) ∨ m - (j + 1) = 0 ∧ c2 = 0) :
    ∃ a1 k1 w5 a2 k2 w6, (Builtin.append_ #[22, 22] 22 #[.slice (some ⟨w.heap.size, 0, none⟩) 0 0, .slice (some ⟨b, o, none⟩) j c]).run Try.prog (w.alloc (.cells #[] 37)).drew = .ok (.slice a1 j k1) w5 ∧
      (Builtin.append_ #[22, 22] 22 #[.slice a1 j k1, .slice (some a) (m - (j + 1)) c2]).run Try.prog w5 = .ok (.slice a2 (m - 1) k2) w6 ∧
      LsAt 1 uw w6 (.slice a2 (m - 1) k2) (xs.take j ++ xs.drop (j + 1)) ∧ New w w6 := by
  obtain ⟨ti, hi, hzz⟩ := Option.map_eq_some_iff.1 word_info
  simp only [Prod.mk.injEq] at hzz
  have hml := hs.n_eq
  have hl1 : (xs.take j).length = j := by rw [List.length_take]; omega
  have hl2 : (xs.drop (j + 1)).length = m - (j + 1) := by rw [List.length_drop]; omega
  have n0 : New w (w.alloc (.cells #[] 37)).drew := ((New.refl w).alloc _).drew
  have hown : Sl (w.alloc (.cells #[] 37)).drew w.heap.size 37 1 (.slice (some ⟨w.heap.size, 0, none⟩) 0 0) 0 [] :=
    ⟨by simp, .inr ⟨w.heap.size, 0, 0, #[], rfl, Nat.le_refl _, (Blk.new w 37 #[]).drew, Nat.le_refl _, Nat.zero_le _, by simp, by simp⟩⟩
  obtain ⟨v5, w5, r1, on5⟩ := run_append_ls (P := Try.prog) (w.alloc (.cells #[] 37)).drew w.heap.size 22 22 37 ti _ 1 8 Try.underlying22 hi hzz.1 hzz.2.1 hzz.2.2 rfl (by decide) uw_len uw_one _ 0 [] hown _ (xs.take j) ((ls_take hs (by omega)).new_ n0) (by unfold maxLen; omega) (by omega) n0.size
  have n5 := on5.new n0 (fun g hg => by cases hg; exact Nat.le_refl _)
  have s5 := on5.1
  rw [Nat.zero_add, hl1, List.nil_append] at s5
  obtain ⟨a1, k1, rfl⟩ := s5.val
  obtain ⟨v6, w6, r2, on6⟩ := run_append_ls (P := Try.prog) w5 w.heap.size 22 22 37 ti _ 1 8 Try.underlying22 hi hzz.1 hzz.2.1 hzz.2.2 rfl (by decide) uw_len uw_one _ j _ s5 _ (xs.drop (j + 1)) ((ls_drop hs hj a c2 ha).new_ n5) (by unfold maxLen; omega) (by omega) n5.size
  have n6 := on6.new n5 (fun g hg => (s5.lt g hg).1)
  have s6 := on6.1
  rw [hl2, show j + (m - (j + 1)) = m - 1 by omega, ← flatOf_app] at s6
  obtain ⟨a2, k2, rfl⟩ := s6.val
  refine ⟨a1, k1, w5, a2, k2, w6, r1, r2, ?_, n6⟩
  have hl : (xs.take j ++ xs.drop (j + 1)).length = m - 1 := by rw [List.length_append, hl1, hl2]; omega
  have := LsAt.of_sl (xs := xs.take j ++ xs.drop (j + 1)) uw_len (by rw [hl]; exact s6)
  exact this
/-- 7 ahead of a list. -/
theorem seven_ls (w : World) (u : Value) (xs : List Nat) (hs : LsAt 1 uw w u xs) (hm : xs.length ≤ 1000000) :
    ∃ v w6, (Builtin.append_ #[22, 22] 22 #[.slice (some ⟨w.heap.size, 0, none⟩) 1 1, u]).run Try.prog (w.alloc (.cells #[.int .u64 7] 37)) = .ok v w6 ∧ LsAt 1 uw w6 v (7 :: xs) ∧ New w w6 := by
  obtain ⟨ti, hi, hzz⟩ := Option.map_eq_some_iff.1 word_info
  simp only [Prod.mk.injEq] at hzz
  have n0 : New w (w.alloc (.cells #[.int .u64 7] 37)) := (New.refl w).alloc _
  have hown : Sl (w.alloc (.cells #[.int .u64 7] 37)) w.heap.size 37 1 (.slice (some ⟨w.heap.size, 0, none⟩) 1 1) 1 (flatOf uw [7]) := by
    have := Sl.of_blk (base := w.heap.size) (Blk.new w 37 #[.int .u64 7]) (Nat.le_refl _) (by unfold maxLen; decide)
    exact this
  obtain ⟨v6, w6, r1, on6⟩ := run_append_ls (P := Try.prog) (w.alloc (.cells #[.int .u64 7] 37)) w.heap.size 22 22 37 ti _ 1 8 Try.underlying22 hi hzz.1 hzz.2.1 hzz.2.2 rfl (by decide) uw_len uw_one _ 1 _ hown u xs (hs.new_ n0) (by unfold maxLen; omega) (by omega) n0.size
  refine ⟨v6, w6, r1, ?_, on6.new n0 (fun g hg => by cases hg; exact Nat.le_refl _)⟩
  have s6 := on6.1
  rw [← flatOf_app] at s6
  exact LsAt.of_sl (xs := 7 :: xs) uw_len (by rw [List.length_cons, Nat.add_comm]; exact s6)
theorem len_ne {O : Ob} {ws : List Nat} (h : Reads ws) (hl : ws.length ≠ (encO O).length) : theO ws ≠ O := by
  rintro rfl
  have := reads_enc h
  rw [this, mk_len] at hl
  exact hl rfl
set_option maxRecDepth 100000 in
set_option maxHeartbeats 8000000 in
theorem objectCuts_walk (O : Ob) (v1 : Value) (t : Nat) (ht : t < 65536) (w : World) (h1 : ObAt w v1 O) (l1 : Lens O) :
    Calls Try.prog 5 #[v1, .int .u16 (t : Int)] w fun e w' => e = .returned (.bool true) ∧ New w w' := by
  obtain ⟨a, b, c, d, rfl, hcells⟩ := box_ob h1
  obtain ⟨B, hB⟩ : ∃ B, B = w.heap.size := ⟨_, rfl⟩
  obtain ⟨w1, hw1⟩ : ∃ w1, w1 = w.alloc (.cells #[a, b, c, d] 27) := ⟨_, rfl⟩
  have hW1 : New w w1 := by rw [hw1]; exact (New.refl w).alloc _
  rw [← hw1, ← hB] at hcells
  have HBX := hid hcells
  have HO := hid (fun X (hX : New w1 X) => h1.new_ (hW1.step hX))
  have HW := hid (And.intro hW1 l1)
  have hw1' := hid hw1
  have hB' := hid hB
  have i0 : IntKind.i64.wrap (t : Int) = t := by rw [IntKind.wrap_i64]; omega
  clear h1 hW1 hcells hw1 hB l1
  go_enter Try.func5, Try.ntmps5
  go_wp2_with fail
  rw [← hw1'.out, ← hB'.out]
  refine (awake_any w1).mono ?_
  rintro e w2 ⟨rfl, n2⟩
  obtain ⟨x0, x1, x2, x3⟩ := HBX.out _ n2
  have N2 := hid n2
  clear n2
  go_wp2_with fail
  refine (small_any w2 _ O (HO.out _ N2.out)).mono ?_
  rintro e w3 ⟨⟨s1, rfl⟩, n3⟩
  have N3 := hid (N2.out.step n3)
  clear n3 x0 x1 x2 x3
  obtain ⟨x0, x1, x2, x3⟩ := HBX.out _ N3.out
  cases s1 with
  | false =>
    go_wp2_with fail
    go_ret
    exact ⟨rfl, HW.out.1.step N3.out⟩
  | true =>
    go_wp2_with fail
    refine (wordsO_any w3 _ O (HO.out _ N3.out) HW.out.2).mono ?_
    rintro e w4 (⟨hm1, u, rfl, hu, n4⟩ | ⟨hm1, rfl, n4⟩)
    · have N4 := hid (N3.out.step n4)
      have hmay := hm1
      unfold mayB at hmay
      rw [Bool.and_eq_true, decide_eq_true_eq] at hmay
      have fO : Fit O := (fits_iff O).1 hmay.1
      have hle := hmay.2
      have hge : 5 ≤ (encO O).length := by unfold encO tl; rw [List.length_append]; simp
      obtain ⟨m, hm⟩ : ∃ m, m = (encO O).length := ⟨_, rfl⟩
      obtain ⟨au, cu, hv, hmc, hcm, hcell⟩ := id hu
      rw [← hm] at hv hmc hcell hle hge
      subst hv
      obtain ⟨g, o, rfl, hg, _⟩ := hcell (by omega)
      obtain ⟨k, hk⟩ : ∃ k : Nat, k = t % m := ⟨_, rfl⟩
      have hkm : k < m := by rw [hk]; exact Nat.mod_lt _ (by omega)
      have e2 : Int.tmod (t : Int) (m : Int) = (k : Int) := by rw [hk]; rfl
      have hm0 : ¬ (m : Int) = 0 := by omega
      unfold maxLen at hcm
      obtain ⟨cutL, hcl⟩ : ∃ cutL, cutL = (encO O).take k ++ (encO O).drop (k + 1) := ⟨_, rfl⟩
      have hlen : cutL.length = m - 1 := by rw [hcl, List.length_append, List.length_take, List.length_drop]; omega
      have hloE := enc_lo fO
      have hloC : Lo cutL := fun x hx => by
        rw [hcl] at hx
        rcases List.mem_append.1 hx with hx | hx
        · exact hloE x (List.mem_of_mem_take hx)
        · exact hloE x (List.mem_of_mem_drop hx)
      have hcut := fun a c2 ha => cut_ls w4 g o m cu k (encO O) hu hkm (by omega) a c2 ha
      rw [← hcl] at hcut
      have z1 : (0 : Int) ≤ (k : Int) := by omega
      have z3 : (k : Int) ≤ (cu : Int) := by omega
      have z5 : (0 : Int) ≤ (k : Int) + 1 := by omega
      have z6 : (k : Int) + 1 ≤ (m : Int) := by omega
      have z7 : ((k : Int) + 1).toNat = k + 1 := by omega
      have z8 : IntKind.i64.wrap ((k : Int) + 1) = (k : Int) + 1 := by rw [IntKind.wrap_i64]; omega
      have z9 : (m : Int) ≤ (cu : Int) := by omega
      have HU := hid (And.intro hu (And.intro fO (And.intro hm (And.intro hle (And.intro hlen (And.intro hloE hloC))))))
      have HX4 := hid (HW.out.1.step N4.out)
      clear hu fO hm hle hlen hcell hcl hge hmay hm1 hk n4 hg hloE hloC x0 x1 x2 x3
      go_upto_region 9 with fail
      go_cut [8] from 32 to 41 (fun v wx => LsAt 1 uw wx v cutL ∧ New w4 wx)
      case first =>
        by_cases y7 : cu = k + 1
        · have hj0 : m - (k + 1) = 0 := by omega
          obtain ⟨a1, k1, w5, a2, k2, w6, r1, r2, hls, n6⟩ := hcut ⟨g, o, none⟩ 0 (.inr ⟨hj0, rfl⟩)
          have z11 : (k : Int) ≤ (k : Int) + 1 := by omega
          have z12 : (m : Int) ≤ (k : Int) + 1 := by omega
          have HF := hid (And.intro hls n6)
          subst y7
          clear hcut hj0 hls n6
          go_region_law (first | (refine step_append_run rfl (.tmp 32) (.tmp 35) 22 22 rfl (.slice (some ⟨w4.heap.size, 0, none⟩) 0 0) (.slice (some ⟨g, o, none⟩) k (k + 1)) (by simp [Act.eval, Act.put]) (by simp [Act.eval, Act.put]) r1 ?_) | (refine step_append_run rfl (.tmp 36) (.tmp 40) 22 22 rfl (.slice a1 k k1) (.slice (some ⟨g, o, none⟩) (m - (k + 1)) 0) (by simp [Act.eval, Act.put]) (by simp [Act.eval, Act.put] <;> omega) r2 ?_))
          all_goals
            go_wp2_with fail
            go_meet
            exact HF.out
        · obtain ⟨a1, k1, w5, a2, k2, w6, r1, r2, hls, n6⟩ := hcut ⟨g, o + (k + 1), none⟩ (cu - (k + 1)) (.inl ⟨rfl, rfl⟩)
          have HF := hid (And.intro hls n6)
          clear hcut hls n6
          go_region_law (first | (refine step_append_run rfl (.tmp 32) (.tmp 35) 22 22 rfl (.slice (some ⟨w4.heap.size, 0, none⟩) 0 0) (.slice (some ⟨g, o, none⟩) k cu) (by simp [Act.eval, Act.put]) (by simp [Act.eval, Act.put]) r1 ?_) | (refine step_append_run rfl (.tmp 36) (.tmp 40) 22 22 rfl (.slice a1 k k1) (.slice (some ⟨g, o + (k + 1), none⟩) (m - (k + 1)) (cu - (k + 1))) (by simp [Act.eval, Act.put]) (by simp [Act.eval, Act.put] <;> omega) r2 ?_))
          all_goals
            go_wp2_with fail
            go_meet
            exact HF.out
      case rest =>
        obtain ⟨hls6, n6⟩ := hcut
        obtain ⟨a8, c8, hv8, _⟩ := id hls6
        rw [HU.out.2.2.2.2.1] at hv8
        subst hv8
        have HCT := hid (fun X (hX : New wc X) => hls6.new_ hX)
        have HC1 := hid (N4.out.step n6)
        have hb1 : ∀ x ∈ cutL, x < 18446744073709551616 := fun x hx => by have := HU.out.2.2.2.2.2.2 x hx; unfold maskN at this; omega
        have hb2 : ∀ x ∈ 7 :: encO O, x < 18446744073709551616 := fun x hx => by
          rcases List.mem_cons.1 hx with rfl | hx
          · decide
          · have := HU.out.2.2.2.2.2.1 x hx; unfold maskN at this; omega
        have HBB := hid (And.intro hb1 hb2)
        have HCW := hid (HX4.out.step n6)
        have HN6 := hid n6
        clear hls6 n6 hb1 hb2 hcut
        go_wp2_with fail
        refine (Read_any wc _ cutL (HCT.out _ (New.refl _)) HBB.out.1).mono ?_
        rintro e w7 (⟨hr1, vx, rfl, hobx, n7⟩ | ⟨hr1, rfl, n7⟩)
        · have HR1 := hid hr1
          obtain ⟨xa1, xn1, xc1, xa2, xn2, xc2, xa3, xn3, xc3, xa4, xn4, xc4, rfl⟩ := ObAt.form hobx
          have NCX := hid (n7.step ((New.refl w7).alloc (.cells #[.slice xa1 xn1 xc1, .slice xa2 xn2 xc2, .slice xa3 xn3 xc3, .slice xa4 xn4 xc4] 27)))
          have HOX := hid hobx
          clear hr1 n7 hobx
          obtain ⟨v9, w9, hr, hls9, n9⟩ := seven_ls (w7.alloc (.cells #[.slice xa1 xn1 xc1, .slice xa2 xn2 xc2, .slice xa3 xn3 xc3, .slice xa4 xn4 xc4] 27)) _ (encO O) (HU.out.1.new_ (HN6.out.step NCX.out)) (by rw [← HU.out.2.2.1]; have := HU.out.2.2.2.1; omega)
          obtain ⟨a9, c9, hv9, _⟩ := id hls9
          subst hv9
          rw [World.size_alloc] at hr
          have HL9 := hid (And.intro hls9 n9)
          clear hls9 n9
          go_wp2_with (at_builtin; refine Lib.wpList_append_run _ rfl _ _ _ _ rfl _ _ rfl rfl _ _ hr ?_)
          clear hr
          refine (Read_any w9 _ _ HL9.out.1 HBB.out.2).mono ?_
          rintro e w10 (⟨hr2, vy, rfl, hoby, n10⟩ | ⟨hr2, rfl, n10⟩)
          · have HR2 := hid hr2
            obtain ⟨ya1, yn1, yc1, ya2, yn2, yc2, ya3, yn3, yc3, ya4, yn4, yc4, rfl⟩ := ObAt.form hoby
            have NXY := hid (HL9.out.2.step (n10.step ((New.refl w10).alloc (.cells #[.slice ya1 yn1 yc1, .slice ya2 yn2 yc2, .slice ya3 yn3 yc3, .slice ya4 yn4 yc4] 27))))
            have HYB := hid (Blk.new w10 27 #[.slice ya1 yn1 yc1, .slice ya2 yn2 yc2, .slice ya3 yn3 yc3, .slice ya4 yn4 yc4])
            have HYO := hid (hoby.new_ ((New.refl w10).alloc (.cells #[.slice ya1 yn1 yc1, .slice ya2 yn2 yc2, .slice ya3 yn3 yc3, .slice ya4 yn4 yc4] 27)))
            clear hr2 n10 hoby
            have NWY := hid (HC1.out.step (NCX.out.step NXY.out))
            obtain ⟨q0, q1, q2, q3⟩ := HBX.out _ NWY.out
            obtain ⟨p0, p1, p2, p3⟩ := blk4 HYB.out
            have HXB := hid ((Blk.new w7 27 #[.slice xa1 xn1 xc1, .slice xa2 xn2 xc2, .slice xa3 xn3 xc3, .slice xa4 xn4 xc4]).new_ NXY.out)
            have HXO := hid ((HOX.out.new_ ((New.refl w7).alloc (.cells #[.slice xa1 xn1 xc1, .slice xa2 xn2 xc2, .slice xa3 xn3 xc3, .slice xa4 xn4 xc4] 27))).new_ NXY.out)
            obtain ⟨r0, r1, r2, r3⟩ := blk4 HXB.out
            go_wp2_with fail
            refine (wordsO_any _ _ (theO cutL) HXO.out (theO_lens cutL)).mono ?_
            rintro e wZ (⟨_, z, rfl, hz, nZ⟩ | ⟨hno, _⟩)
            · rw [reads_enc HR1.out, mk_id HU.out.2.2.2.2.2.2] at hz
              obtain ⟨az, cz, hvz, _⟩ := id hz
              subst hvz
              have hsw := sameW wZ _ _ cutL cutL hz (HCT.out _ (NCX.out.step (NXY.out.step nZ))) (by have := HU.out.2.2.2.2.1; have := HU.out.2.2.2.1; omega) (by have := HU.out.2.2.2.2.1; have := HU.out.2.2.2.1; omega)
              rw [decide_eq_true rfl] at hsw
              have HSW := hid hsw
              have NZ := hid nZ
              clear q0 q1 q2 q3 r0 r1 r2 r3 p0 p1 p2 p3
              obtain ⟨q0, q1, q2, q3⟩ := HBX.out _ (NWY.out.step NZ.out)
              obtain ⟨r0, r1, r2, r3⟩ := blk4 (HXB.out.new_ NZ.out)
              clear hz nZ hsw
              go_wp2_with fail
              refine HSW.out.mono ?_
              rintro e wS ⟨rfl, kS, rfl⟩
              go_wp2_with fail
              refine (same_obj _ _ _ (theO cutL) O (HXO.out.new_ (NZ.out.drewN _)) (HO.out _ ((NWY.out.step NZ.out).drewN _)) (by have := ((fits_iff _).1 (by have := HR1.out.2.2.2; unfold mayB at this; rw [Bool.and_eq_true] at this; exact this.1)).text; omega) (by have := HU.out.2.1.text; omega) (by have := ((fits_iff _).1 (by have := HR1.out.2.2.2; unfold mayB at this; rw [Bool.and_eq_true] at this; exact this.1)).static; omega) (by have := HU.out.2.1.static; omega)).mono ?_
              rintro e wT ⟨(⟨hq, _⟩ | ⟨_, rfl⟩), nT⟩
              · exact absurd hq (len_ne HR1.out (by rw [HU.out.2.2.2.2.1, ← HU.out.2.2.1]; omega))
              · have NT := hid ((NZ.out.drewN _).step nT)
                clear nT q0 q1 q2 q3 r0 r1 r2 r3
                obtain ⟨q0, q1, q2, q3⟩ := HBX.out _ (NWY.out.step NT.out)
                obtain ⟨p0, p1, p2, p3⟩ := blk4 (HYB.out.new_ NT.out)
                go_wp2_with fail
                refine (same_obj _ _ _ (theO (7 :: encO O)) O (HYO.out.new_ NT.out) (HO.out _ (NWY.out.step NT.out)) (by have := ((fits_iff _).1 (by have := HR2.out.2.2.2; unfold mayB at this; rw [Bool.and_eq_true] at this; exact this.1)).text; omega) (by have := HU.out.2.1.text; omega) (by have := ((fits_iff _).1 (by have := HR2.out.2.2.2; unfold mayB at this; rw [Bool.and_eq_true] at this; exact this.1)).static; omega) (by have := HU.out.2.1.static; omega)).mono ?_
                rintro e wE ⟨(⟨hq, _⟩ | ⟨_, rfl⟩), nE⟩
                · exact absurd hq (len_ne HR2.out (by simp))
                · go_wp2_with fail
                  go_ret
                  exact ⟨rfl, ((HCW.out.step (NCX.out.step NXY.out)).step NT.out).step nE⟩
            · rw [HR1.out.2.2.2] at hno; cases hno
          · have HR2 := hid hr2
            have NXY := hid (HL9.out.2.step (n10.step ((New.refl w10).alloc (.cells #[.slice none 0 0, .slice none 0 0, .slice none 0 0, .slice none 0 0] 27))))
            clear hr2 n10
            have NWY := hid (HC1.out.step (NCX.out.step NXY.out))
            obtain ⟨q0, q1, q2, q3⟩ := HBX.out _ NWY.out
            have HXB := hid ((Blk.new w7 27 #[.slice xa1 xn1 xc1, .slice xa2 xn2 xc2, .slice xa3 xn3 xc3, .slice xa4 xn4 xc4]).new_ NXY.out)
            have HXO := hid ((HOX.out.new_ ((New.refl w7).alloc (.cells #[.slice xa1 xn1 xc1, .slice xa2 xn2 xc2, .slice xa3 xn3 xc3, .slice xa4 xn4 xc4] 27))).new_ NXY.out)
            obtain ⟨r0, r1, r2, r3⟩ := blk4 HXB.out
            go_wp2_with fail
            refine (wordsO_any _ _ (theO cutL) HXO.out (theO_lens cutL)).mono ?_
            rintro e wZ (⟨_, z, rfl, hz, nZ⟩ | ⟨hno, _⟩)
            · rw [reads_enc HR1.out, mk_id HU.out.2.2.2.2.2.2] at hz
              obtain ⟨az, cz, hvz, _⟩ := id hz
              subst hvz
              have hsw := sameW wZ _ _ cutL cutL hz (HCT.out _ (NCX.out.step (NXY.out.step nZ))) (by have := HU.out.2.2.2.2.1; have := HU.out.2.2.2.1; omega) (by have := HU.out.2.2.2.2.1; have := HU.out.2.2.2.1; omega)
              rw [decide_eq_true rfl] at hsw
              have HSW := hid hsw
              have NZ := hid nZ
              clear q0 q1 q2 q3 r0 r1 r2 r3
              obtain ⟨q0, q1, q2, q3⟩ := HBX.out _ (NWY.out.step NZ.out)
              obtain ⟨r0, r1, r2, r3⟩ := blk4 (HXB.out.new_ NZ.out)
              clear hz nZ hsw
              go_wp2_with fail
              refine HSW.out.mono ?_
              rintro e wS ⟨rfl, kS, rfl⟩
              go_wp2_with fail
              refine (same_obj _ _ _ (theO cutL) O (HXO.out.new_ (NZ.out.drewN _)) (HO.out _ ((NWY.out.step NZ.out).drewN _)) (by have := ((fits_iff _).1 (by have := HR1.out.2.2.2; unfold mayB at this; rw [Bool.and_eq_true] at this; exact this.1)).text; omega) (by have := HU.out.2.1.text; omega) (by have := ((fits_iff _).1 (by have := HR1.out.2.2.2; unfold mayB at this; rw [Bool.and_eq_true] at this; exact this.1)).static; omega) (by have := HU.out.2.1.static; omega)).mono ?_
              rintro e wT ⟨(⟨hq, _⟩ | ⟨_, rfl⟩), nT⟩
              · exact absurd hq (len_ne HR1.out (by rw [HU.out.2.2.2.2.1, ← HU.out.2.2.1]; omega))
              · have NT := hid ((NZ.out.drewN _).step nT)
                clear nT q0 q1 q2 q3 r0 r1 r2 r3
                go_wp2_with fail
                go_ret
                exact ⟨rfl, (HCW.out.step (NCX.out.step NXY.out)).step NT.out⟩
            · rw [HR1.out.2.2.2] at hno; cases hno
        · have HR1 := hid hr1
          have NCX := hid (n7.step ((New.refl w7).alloc (.cells #[.slice none 0 0, .slice none 0 0, .slice none 0 0, .slice none 0 0] 27)))
          clear hr1 n7
          obtain ⟨v9, w9, hr, hls9, n9⟩ := seven_ls (w7.alloc (.cells #[.slice none 0 0, .slice none 0 0, .slice none 0 0, .slice none 0 0] 27)) _ (encO O) (HU.out.1.new_ (HN6.out.step NCX.out)) (by rw [← HU.out.2.2.1]; have := HU.out.2.2.2.1; omega)
          obtain ⟨a9, c9, hv9, _⟩ := id hls9
          subst hv9
          rw [World.size_alloc] at hr
          have HL9 := hid (And.intro hls9 n9)
          clear hls9 n9
          go_wp2_with (at_builtin; refine Lib.wpList_append_run _ rfl _ _ _ _ rfl _ _ rfl rfl _ _ hr ?_)
          clear hr
          refine (Read_any w9 _ _ HL9.out.1 HBB.out.2).mono ?_
          rintro e w10 (⟨hr2, vy, rfl, hoby, n10⟩ | ⟨hr2, rfl, n10⟩)
          · have HR2 := hid hr2
            obtain ⟨ya1, yn1, yc1, ya2, yn2, yc2, ya3, yn3, yc3, ya4, yn4, yc4, rfl⟩ := ObAt.form hoby
            have NXY := hid (HL9.out.2.step (n10.step ((New.refl w10).alloc (.cells #[.slice ya1 yn1 yc1, .slice ya2 yn2 yc2, .slice ya3 yn3 yc3, .slice ya4 yn4 yc4] 27))))
            have HYB := hid (Blk.new w10 27 #[.slice ya1 yn1 yc1, .slice ya2 yn2 yc2, .slice ya3 yn3 yc3, .slice ya4 yn4 yc4])
            have HYO := hid (hoby.new_ ((New.refl w10).alloc (.cells #[.slice ya1 yn1 yc1, .slice ya2 yn2 yc2, .slice ya3 yn3 yc3, .slice ya4 yn4 yc4] 27)))
            clear hr2 n10 hoby
            have NWY := hid (HC1.out.step (NCX.out.step NXY.out))
            obtain ⟨q0, q1, q2, q3⟩ := HBX.out _ NWY.out
            obtain ⟨p0, p1, p2, p3⟩ := blk4 HYB.out
            go_wp2_with fail
            refine (same_obj _ _ _ (theO (7 :: encO O)) O (HYO.out.new_ (New.refl _)) (HO.out _ (NWY.out.step (New.refl _))) (by have := ((fits_iff _).1 (by have := HR2.out.2.2.2; unfold mayB at this; rw [Bool.and_eq_true] at this; exact this.1)).text; omega) (by have := HU.out.2.1.text; omega) (by have := ((fits_iff _).1 (by have := HR2.out.2.2.2; unfold mayB at this; rw [Bool.and_eq_true] at this; exact this.1)).static; omega) (by have := HU.out.2.1.static; omega)).mono ?_
            rintro e wE ⟨(⟨hq, _⟩ | ⟨_, rfl⟩), nE⟩
            · exact absurd hq (len_ne HR2.out (by simp))
            · go_wp2_with fail
              go_ret
              exact ⟨rfl, ((HCW.out.step (NCX.out.step NXY.out)).step (New.refl _)).step nE⟩
          · have HR2 := hid hr2
            have NXY := hid (HL9.out.2.step (n10.step ((New.refl w10).alloc (.cells #[.slice none 0 0, .slice none 0 0, .slice none 0 0, .slice none 0 0] 27))))
            clear hr2 n10
            have NWY := hid (HC1.out.step (NCX.out.step NXY.out))
            obtain ⟨q0, q1, q2, q3⟩ := HBX.out _ NWY.out
            go_wp2_with fail
            go_ret
            exact ⟨rfl, (HCW.out.step (NCX.out.step NXY.out)).step (New.refl _)⟩
    · have HF := hid (HW.out.1.step (N3.out.step n4))
      clear n4 hm1
      go_wp2_with fail
      go_ret
      exact ⟨rfl, HF.out⟩
theorem objectCuts_row {H : Type} {enc : TypeId × Value → H} (W : World) {base : Nat}
    (v0 : Value) (d0 : DataW H) (p0 : List MemPlace) (k0 : Value.okWide Try.prog W .any base 27 v0) (h0 : DataW.Trod enc Try.prog W 0 (fun _ => true) true 27 v0 d0 p0) (l0 : ∀ x ∈ p0, x.block < W.heap.size)
    (v1 : Value) (d1 : DataW H) (p1 : List MemPlace) (k1 : Value.okWide Try.prog W .any base 49 v1) (h1 : DataW.Trod enc Try.prog W 0 (fun _ => true) true 49 v1 d1 p1) (l1 : ∀ x ∈ p1, x.block < W.heap.size)
    : Calls Try.prog 5 #[v0, v1] W fun e W' => e = .returned (.bool true) ∧ Below W.heap.size W W' := by
  obtain ⟨O, hO, lO⟩ := open_obj k0 h0
  obtain ⟨y, rfl, rfl, rfl, hwf⟩ := open_int Try.underlying49 k1 h1
  obtain ⟨y0, y1⟩ := wf_u16 hwf
  obtain ⟨Y, rfl⟩ := Int.eq_ofNat_of_zero_le y0
  exact objectCuts_walk O _ Y (by omega) W hO lO
end Go.Proofs.Ytnoahdobgndmnaa.Law
