/- The walk of ObjectReads. -/
import Derived.Test.YtnoahdobgndmnaaRefO
import Derived.Test.YtnoahdobgndmnaaObjA
import Derived.Test.YtnoahdobgndmnaaObjO
import Derived.BigQuiet
namespace Go.Proofs.Ytnoahdobgndmnaa.Law
open Go Go.RowKit Go.ChangeShapes Go.WideShapes Go.Proofs.Ytnoahdobgndmnaa.Kit Go.Proofs.Ytnoahdobgndmnaa.Str Go.Proofs.Ytnoahdobgndmnaa.Obj Go.Proofs.Ytnoahdobgndmnaa.Open Go.Proofs.Ytnoahdobgndmnaa.Wd
open Go.Proofs.Ytnoahdobgndmnaa.Letters (wv)
set_option linter.unusedSimpArgs false
set_option linter.unusedVariables false
theorem mk_get {ws : List Nat} {k x : Nat} (h : ws[k]? = some x) : (mk ws)[k]? = some (mask x) := by
  unfold mk
  rw [List.getElem?_map, h]
  rfl
set_option maxRecDepth 100000 in
set_option maxHeartbeats 8000000 in
theorem objectReads_walk (ws : List Nat) (v : Value) (hx : ∀ x ∈ ws, x < 18446744073709551616) (w : World) (h : LsAt 1 uw w v ws) :
    Calls Try.prog 3 #[v] w fun e w' => e = .returned (.bool true) ∧ New w w' := by
  obtain ⟨a, c, hv, hlc, hcm, _⟩ := id h
  subst hv
  unfold maxLen at hcm
  obtain ⟨L, hL⟩ : ∃ L, L = ws.length := ⟨_, rfl⟩
  rw [← hL] at hlc h ⊢
  have HH := hid (And.intro h (And.intro hL hx))
  clear h hL hx
  go_enter Try.func3, Try.ntmps3
  go_wp2_with fail
  refine (awake_any w).mono ?_
  rintro e w1 ⟨rfl, n1⟩
  have N1 := hid n1
  clear n1
  by_cases hbig : 1500 < L
  · have hbig' : (1500 : Int) < (L : Int) := by omega
    clear hbig
    go_wp2_with fail
    go_ret
    exact ⟨rfl, N1.out⟩
  · have hbig' : ¬ (1500 : Int) < (L : Int) := by omega
    go_wp2_with fail
    refine (Read_any w1 _ ws (HH.out.1.new_ N1.out) HH.out.2.2).mono ?_
    rintro e w2 (⟨hr, v2, rfl, ho2, n2⟩ | ⟨hr, rfl, n2⟩)
    · obtain ⟨x1, p1, y1, x2, p2, y2, x3, p3, y3, x4, p4, y4, rfl⟩ := ObAt.form ho2
      obtain ⟨P, hP⟩ : ∃ P, P = w2.heap.size := ⟨_, rfl⟩
      obtain ⟨w3, hw3⟩ : ∃ w3, w3 = w2.alloc (.cells #[.slice x1 p1 y1, .slice x2 p2 y2, .slice x3 p3 y3, .slice x4 p4 y4] 27) := ⟨_, rfl⟩
      have n3 : New w2 w3 := by rw [hw3]; exact (New.refl _).alloc _
      have hb3 : Blk w3 P 27 #[.slice x1 p1 y1, .slice x2 p2 y2, .slice x3 p3 y3, .slice x4 p4 y4] := by rw [hw3, hP]; exact Blk.new _ _ _
      have H3 := hid (And.intro (ho2.new_ n3) (And.intro hb3 (And.intro (N1.out.step (n2.step n3)) hr)))
      clear ho2 n2 n3 hb3 hr
      go_wp2_with fail
      rw [← hw3, ← hP]
      clear hw3 hP
      refine (refRead_any w3 _ ws (HH.out.1.new_ H3.out.2.2.1) HH.out.2.2 (by have := HH.out.2.1; omega)).mono ?_
      rintro e w4 (⟨_, v4, rfl, ho4, n4⟩ | ⟨hn, _⟩)
      · obtain ⟨x5, p5, y5, x6, p6, y6, x7, p7, y7, x8, p8, y8, rfl⟩ := ObAt.form ho4
        obtain ⟨Q, hQ⟩ : ∃ Q, Q = w4.heap.size := ⟨_, rfl⟩
        obtain ⟨w5, hw5⟩ : ∃ w5, w5 = w4.alloc (.cells #[.slice x5 p5 y5, .slice x6 p6 y6, .slice x7 p7 y7, .slice x8 p8 y8] 27) := ⟨_, rfl⟩
        have n5 : New w4 w5 := by rw [hw5]; exact (New.refl _).alloc _
        have hb5 : Blk w5 Q 27 #[.slice x5 p5 y5, .slice x6 p6 y6, .slice x7 p7 y7, .slice x8 p8 y8] := by rw [hw5, hQ]; exact Blk.new _ _ _
        have hb35 := H3.out.2.1.new_ (n4.step n5)
        have hmay := H3.out.2.2.2.2.2.2
        have hfit : Fit (theO ws) := (fits_iff _).1 (by unfold Obj.mayB at hmay; rw [Bool.and_eq_true] at hmay; exact hmay.1)
        have t5 := hfit.text
        have s5 := hfit.static
        have H5 := hid (And.intro (H3.out.1.new_ (n4.step n5)) (And.intro (ho4.new_ n5) (And.intro hb35 (And.intro hb5 (And.intro (H3.out.2.2.1.step (n4.step n5)) hmay)))))
        clear ho4 n4 n5 hb5 hb35 hmay hfit
        obtain ⟨k0, k1, k2, k3⟩ := blk4 H5.out.2.2.1
        obtain ⟨l0, l1, l2, l3⟩ := blk4 H5.out.2.2.2.1
        go_upto_region 7 with fail
        rw [← hw5, ← hQ]
        clear hw5 hQ
        go_wp2_with fail
        refine (same_obj w5 _ _ (theO ws) (theO ws) H5.out.1 H5.out.2.1 (by omega) (by omega) (by omega) (by omega)).mono ?_
        rintro e w6 ⟨⟨_, rfl⟩ | ⟨hne, _⟩, n6⟩
        · clear k0 k1 k2 k3 l0 l1 l2 l3
          obtain ⟨k0, k1, k2, k3⟩ := blk4 (H5.out.2.2.1.new_ n6)
          have N6 := hid n6
          clear n6
          go_wp2_with fail
          refine (refWordsO_any w6 _ (theO ws) (H5.out.1.new_ N6.out) (theO_lens ws)).mono ?_
          rintro e w7 (⟨_, v7, rfl, hl7, n7⟩ | ⟨hmn, _⟩)
          · rw [reads_enc H3.out.2.2.2] at hl7
            obtain ⟨a7, c7, rfl, _⟩ := id hl7
            have hml : (mk ws).length = L := by rw [mk_len]; exact HH.out.2.1.symm
            have hw7 : New w w7 := (H5.out.2.2.2.2.1.step N6.out).step n7
            rw [hml] at hl7 ⊢
            have H7 := hid (And.intro hl7 (And.intro (HH.out.1.new_ hw7) hw7))
            clear hl7 n7 hw7 hml k0 k1 k2 k3
            go_wp2_with fail
            go_loopw [9] (fun i wr => ∃ k : Nat, k ≤ L ∧ i = .int .i64 (k : Int) ∧ New w7 wr) (fun i _ => L - (intOf i).toNat)
            case atStart => exact ⟨0, Nat.zero_le _, rfl, New.refl _⟩
            case round =>
              obtain ⟨k, hk, rfl, hnr⟩ := hrel
              by_cases hkn : k < L
              · have w2' : IntKind.i64.wrap ((k : Int) + 1) = k + 1 := by rw [IntKind.wrap_i64]; omega
                obtain ⟨b1, o1, x, rfl, hx1, _, hcell1⟩ := (H7.out.2.1.new_ hnr).get hkn
                obtain ⟨b2, o2, y, rfl, hx2, _, hcell2⟩ := (H7.out.1.new_ hnr).get hkn
                have c1 := hcell1 0 _ rfl
                rw [Nat.add_zero, Nat.mul_one] at c1
                have hy := mk_get hx1
                rw [hx2] at hy
                obtain rfl := Option.some.inj hy
                have c2 := hcell2 0 _ rfl
                rw [Nat.add_zero, Nat.mul_one] at c2
                have j0 : (0 : Int) ≤ (k : Int) := by omega
                have j1 : (k : Int) < (L : Int) := by omega
                have hC := fun X => (cut_any x (HH.out.2.2 x (List.mem_of_getElem? hx1)) X).mono (fun e w' h => (show e = .returned (wv (mask x)) ∧ w' = X from ⟨h.1, h.2.symm⟩))
                have HC := hid hC
                generalize mask x = z at *
                have HR := hid hnr
                clear hcell1 hcell2 hx1 hx2 hnr hC hy
                go_wp2_with fail
                go_quiet (first | (go_at_call 13; exact Calls.quiet_of_same (HC.out _)))
                go_wp2_with fail
                exact ⟨⟨k + 1, by omega, by go_num, HR.out.drewN _⟩, by simp [intOf]; omega⟩
              · have hke : L = k := by omega
                subst hke
                have hlt : ¬ (L : Int) < (L : Int) := by omega
                have HR := hid hnr
                clear hnr
                go_wp2_with fail
                go_ret
                exact ⟨rfl, H7.out.2.2.step HR.out⟩
          · rw [H5.out.2.2.2.2.2] at hmn
            cases hmn
        · exact absurd rfl hne
      · exact absurd H3.out.2.2.2 hn
    · obtain ⟨P, hP⟩ : ∃ P, P = w2.heap.size := ⟨_, rfl⟩
      obtain ⟨w3, hw3⟩ : ∃ w3, w3 = w2.alloc (.cells #[.slice none 0 0, .slice none 0 0, .slice none 0 0, .slice none 0 0] 27) := ⟨_, rfl⟩
      have n3 : New w2 w3 := by rw [hw3]; exact (New.refl _).alloc _
      have hb3 : Blk w3 P 27 #[.slice none 0 0, .slice none 0 0, .slice none 0 0, .slice none 0 0] := by rw [hw3, hP]; exact Blk.new _ _ _
      have H3 := hid (And.intro hb3 (And.intro (N1.out.step (n2.step n3)) hr))
      clear n2 n3 hb3 hr
      go_wp2_with fail
      rw [← hw3, ← hP]
      clear hw3 hP
      refine (refRead_any w3 _ ws (HH.out.1.new_ H3.out.2.1) HH.out.2.2 (by have := HH.out.2.1; omega)).mono ?_
      rintro e w4 (⟨hn, _⟩ | ⟨_, rfl, n4⟩)
      · exact absurd hn H3.out.2.2
      · obtain ⟨Q, hQ⟩ : ∃ Q, Q = w4.heap.size := ⟨_, rfl⟩
        obtain ⟨w5, hw5⟩ : ∃ w5, w5 = w4.alloc (.cells #[.slice none 0 0, .slice none 0 0, .slice none 0 0, .slice none 0 0] 27) := ⟨_, rfl⟩
        have n5 : New w4 w5 := by rw [hw5]; exact (New.refl _).alloc _
        have hb5 : Blk w5 Q 27 #[.slice none 0 0, .slice none 0 0, .slice none 0 0, .slice none 0 0] := by rw [hw5, hQ]; exact Blk.new _ _ _
        have H5 := hid (And.intro (H3.out.1.new_ (n4.step n5)) (And.intro hb5 (H3.out.2.1.step (n4.step n5))))
        clear n4 n5 hb5
        obtain ⟨k0, k1, k2, k3⟩ := blk4 H5.out.1
        obtain ⟨l0, l1, l2, l3⟩ := blk4 H5.out.2.1
        go_upto_region 7 with fail
        rw [← hw5, ← hQ]
        clear hw5 hQ
        go_wp2_with fail
        refine (same_obj w5 _ _ nilO nilO (nil_at w5) (nil_at w5) (by decide) (by decide) (by decide) (by decide)).mono ?_
        rintro e w6 ⟨⟨_, rfl⟩ | ⟨hne, _⟩, n6⟩
        · have N6 := hid n6
          clear n6
          go_wp2_with fail
          go_ret
          exact ⟨rfl, H5.out.2.2.step N6.out⟩
        · exact absurd rfl hne
theorem open_wordsL {H : Type} {enc : TypeId × Value → H} {W : World} {base : Nat} {v : Value} {d : DataW H} {p : List MemPlace} {b0 : Nat} {r : Reach} {sp : Nat → Bool} {held : Bool} (k : Value.okWide Try.prog W r b0 22 v) (h : DataW.Trod enc Try.prog W base sp held 22 v d p) :
    ∃ ws : List Nat, LsAt 1 uw W v ws ∧ ∀ x ∈ ws, x < 18446744073709551616 := by
  have oW : Opens H Try.prog 22 1 _ := Opens.slice Try.underlying22 (by kernel_rfl) (Opens.int Try.underlying37 (by kernel_rfl)) (by decide)
  exact Opens.list Try.underlying22 oW (fun w ds hd => by
    obtain ⟨z, rfl, hz⟩ := hd
    obtain ⟨z0, z1⟩ := wf_u64 hz
    obtain ⟨n, rfl⟩ := Int.eq_ofNat_of_zero_le z0
    exact ⟨n, rfl, by omega⟩) k h
theorem objectReads_row {H : Type} {enc : TypeId × Value → H} (W : World) {base : Nat}
    (v0 : Value) (d0 : DataW H) (p0 : List MemPlace) (k0 : Value.okWide Try.prog W .any base 22 v0) (h0 : DataW.Trod enc Try.prog W 0 (fun _ => true) true 22 v0 d0 p0) (l0 : ∀ x ∈ p0, x.block < W.heap.size)
    : Calls Try.prog 3 #[v0] W fun e W' => e = .returned (.bool true) ∧ Below W.heap.size W W' := by
  obtain ⟨ws, hws, hx⟩ := open_wordsL k0 h0
  exact objectReads_walk ws v0 hx W hws
end Go.Proofs.Ytnoahdobgndmnaa.Law
