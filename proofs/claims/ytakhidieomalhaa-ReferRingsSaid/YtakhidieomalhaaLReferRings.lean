/- The walk of ReferRings. -/
import Derived.Test.YtakhidieomalhaaReferRings
import Derived.BigQuiet
namespace Go.Proofs.Ytakhidieomalhaa.Law
open Go Go.RowKit Go.ChangeMaps Go.ChangeShapes Go.WideShapes Go.Proofs.Ytakhidieomalhaa.Kit Go.Proofs.Ytakhidieomalhaa.Str Go.Proofs.Ytakhidieomalhaa.Names Go.Proofs.Ytakhidieomalhaa.Refer
set_option linter.unusedSimpArgs false
set_option linter.unusedVariables false
theorem nameMay_new2 (s : List UInt8) (hl : s.length ≤ 9223372036854775807) (w : World) : Calls Try.prog 10 #[st s] w fun e w' => e = .returned (.bool (signsB s 32)) ∧ New w w' :=
  (nameMay_any s hl w).mono fun e w' h => ⟨h.1, by obtain ⟨k, rfl⟩ := h.2; exact (New.refl w).drewN k⟩
set_option maxRecDepth 100000 in
set_option maxHeartbeats 8000000 in
theorem referRings_walk (s : List UInt8) (hs : s.length ≤ maxLen) (Y R : Nat) (hY : Y < 256) (hR : R < 256) (W : World) :
    Calls Try.prog 4 #[st s, .int .u8 (Y : Int), .int .u8 (R : Int)] W fun e w' => e = .returned (.bool true) ∧ New W w' := by
  unfold maxLen at hs
  have hlen : (ByteArray.mk s.toArray).size = s.length := by simp [ByteArray.size]
  obtain ⟨m, hm⟩ : ∃ m, m = Y % 63 := ⟨_, rfl⟩
  obtain ⟨g, hg⟩ : ∃ g, g = m + 1 := ⟨_, rfl⟩
  have htm : (Y : Int).tmod 63 = (m : Int) := by rw [hm, Int.tmod_eq_emod_of_nonneg (by omega)]; rfl
  have hwg : IntKind.i64.wrap (1 + (m : Int)) = (g : Int) := by rw [IntKind.wrap_i64]; omega
  have hg0 : (1 : Int) ≤ (g : Int) := by omega
  have hg1 : (g : Int) ≤ 63 := by omega
  clear hm hg
  go_enter Try.func4, Try.ntmps4
  go_wp2_with fail
  refine (awake_any W).mono ?_
  rintro e w1 ⟨rfl, n1⟩
  go_wp2_with fail
  refine (newR (New.refl w1)).mono ?_
  rintro e w2 ⟨rfl, h2, n2⟩
  obtain ⟨A, hA⟩ : ∃ A, A = w1.heap.size + 1 := ⟨_, rfl⟩
  obtain ⟨b, hb⟩ : ∃ b, b = w1.heap.size := ⟨_, rfl⟩
  rw [← hA, ← hb] at h2
  rw [← hA]
  have HN := hid n1
  have H2 := hid h2
  clear h2 n2 n1 hA hb
  by_cases h100 : 100 < s.length
  · have h100' : (100 : Int) < (s.length : Int) := by omega
    go_wp2
    go_ret
    exact ⟨rfl, HN.out.step H2.out.2.1⟩
  have h100' : ¬ (100 : Int) < (s.length : Int) := by omega
  have hnm := fun w => nameMay_new2 s hs w
  cases hsg : signsB s 32 with
  | false =>
    rw [hsg] at hnm
    have HQ := hid hnm
    clear hnm hsg
    go_wp2_with fail
    refine (HQ.out _).mono ?_
    rintro e w3 ⟨rfl, n3⟩
    have H3 := hid n3
    clear n3
    go_wp2
    go_ret
    exact ⟨rfl, (HN.out.step H2.out.2.1).step H3.out⟩
  | true =>
    rw [hsg] at hnm
    have HQ := hid (And.intro hnm hsg)
    clear hnm hsg
    go_wp2_with fail
    refine (HQ.out.1 _).mono ?_
    rintro e w3 ⟨rfl, n3⟩
    have H3 := hid (H2.out.new_ n3)
    clear n3 H2
    go_wp2_with fail
    go_loopw [9, 10] (fun mn r wr => ∃ k : Nat, k ≤ 8 ∧ r = .int .i64 (k : Int) ∧ mn = .int .i64 ((RL s (g : Int) R k).length : Int) ∧ Rf w1 wr A b (RL s (g : Int) R k)) (fun _ r _ => 8 - (intOf r).toNat)
    case atStart => exact ⟨0, by omega, rfl, rfl, H3.out⟩
    case round =>
      clear H3
      obtain ⟨k, hk, rfl, rfl, hr⟩ := hrel
      by_cases hk8 : k < 8
      · have w2' : IntKind.i64.wrap ((k : Int) + 1) = k + 1 := by rw [IntKind.wrap_i64]; omega
        have w3' : IntKind.u64.wrap (k : Int) = (k : Int) := by rw [IntKind.wrap_u64]; omega
        have hok : okK ((k : Int), s) := ok_small (by omega) (by omega) (by omega)
        have hRk := RL_len (s := s) (g := (g : Int)) (R := R) k
        obtain ⟨M, hM⟩ : ∃ M, M = (RL s (g : Int) R k).length := ⟨_, rfl⟩
        rw [← hM] at hRk ⊢
        have hk80 : (k : Int) < 8 := by omega
        cases hb : bitR R k with
        | true =>
          have hbit := bit_one hR hb
          have q1 := bindR hr (k : Int) s (g : Int) hok (bind_first hk8 hg0 hg1 HQ.out.2) (bindL_first hk8 hg0 hg1 HQ.out.2 hb)
          have hM2 : (RL s (g : Int) R (k + 1)).length = M + 1 := by rw [RL_yes hb, List.length_append, ← hM]; rfl
          have hwM : IntKind.i64.wrap ((M : Int) + 1) = M + 1 := by rw [IntKind.wrap_i64]; omega
          have HX := hid (And.intro q1 (And.intro hM2 (And.intro hok hb)))
          clear q1 hM2 hok hr hb hM
          go_wp2_with fail
          refine HX.out.1.mono ?_
          rintro e w4 ⟨rfl, h4, k4⟩
          have q2 := hid (bindR h4 (k : Int) s (g : Int) HX.out.2.2.1 (bind_again hk8 hg0 hg1 HQ.out.2 HX.out.2.2.2) (bindL_again hk8 hg0 hg1 HQ.out.2 HX.out.2.2.2))
          clear h4 k4
          go_wp2_with fail
          refine q2.out.mono ?_
          rintro e w5 ⟨rfl, h5, k5⟩
          have H5 := hid h5
          clear h5 k5
          go_wp2_with fail
          exact ⟨⟨k + 1, by omega, by go_num, by rw [HX.out.2.1]; go_num, H5.out⟩, by simp [intOf]; omega⟩
        | false =>
          have hbit := bit_none hR hb
          have hM2 : (RL s (g : Int) R (k + 1)).length = M := by rw [RL_no hb, ← hM]
          have HX := hid (And.intro hM2 (And.intro hr (RL_no (s := s) (g := (g : Int)) hb)))
          clear hok hr hb hM hM2
          go_wp2_with fail
          exact ⟨⟨k + 1, by omega, by go_num, by rw [HX.out.1], by rw [HX.out.2.2]; exact HX.out.2.1⟩, by simp [intOf]; omega⟩
      · have hke : k = 8 := by omega
        subst hke
        have hlt : ¬ ((8 : Nat) : Int) < 8 := by decide
        have hRk := RL_len (s := s) (g := (g : Int)) (R := R) 8
        obtain ⟨M, hM⟩ : ∃ M, M = (RL s (g : Int) R 8).length := ⟨_, rfl⟩
        rw [← hM] at hRk ⊢
        have HR := hid (And.intro hr hM)
        obtain ⟨wo, hwo⟩ : ∃ wo, wo = wr := ⟨_, rfl⟩
        subst hwo
        clear hr hM
        go_wp2_with fail
        go_loopw [11, 12, 13] (fun r _ _ wx => ∃ k : Nat, k ≤ 8 ∧ r = .int .i64 (k : Int) ∧ New wo wx) (fun r _ _ _ => 8 - (intOf r).toNat)
        case atStart => exact ⟨0, by omega, rfl, New.refl _⟩
        case round =>
          obtain ⟨k, hk, rfl, hx⟩ := hrel
          by_cases hk8 : k < 8
          · have w2' : IntKind.i64.wrap ((k : Int) + 1) = k + 1 := by rw [IntKind.wrap_i64]; omega
            have w3' : IntKind.u64.wrap (k : Int) = (k : Int) := by rw [IntKind.wrap_u64]; omega
            have hok : okK ((k : Int), s) := ok_small (by omega) (by omega) (by omega)
            have hk80 : (k : Int) < 8 := by omega
            have hrx := HR.out.1.new_ hx
            have hget := RL_get (s := s) (g := (g : Int)) (R := R) 8 k
            have hnam := RL_names (s := s) (g := (g : Int)) (R := R) 8 k
            cases hb : bitR R k with
            | true =>
              have hbit := bit_one hR hb
              rw [if_pos ⟨hk8, hb⟩] at hget hnam
              have q1 := findR hrx (k : Int) s hok (x := (g : Int)) (z := true) (by unfold findV; rw [hget]; rfl) (by rw [hget]; rfl)
              have q2 := ofR hrx (k : Int) (g : Int) (by rw [← HR.out.2]; omega) (S := [s]) (by rw [hnam]; exact sort_one s)
              have HX := hid (And.intro q1 (And.intro q2 hx))
              clear q1 q2 hx hget hnam hrx hok hb
              go_wp2_with fail
              refine HX.out.1.mono ?_
              rintro e w6 ⟨rfl, hw6⟩
              subst hw6
              go_wp2_with fail
              refine HX.out.2.1.mono ?_
              rintro e w7 ⟨v7, rfl, hs7, n7⟩
              obtain ⟨va7, vc7, rfl⟩ := hs7.val
              have H7 := hid (HX.out.2.2.step n7)
              clear hs7 n7
              go_wp2_with fail
              exact ⟨⟨k + 1, by omega, by go_num, H7.out⟩, by simp [intOf]; omega⟩
            | false =>
              have hbit := bit_none hR hb
              rw [if_neg (fun h => by rw [hb] at h; exact absurd h.2 (by decide))] at hget hnam
              have q1 := findR hrx (k : Int) s hok (x := 0) (z := false) (by unfold findV; rw [hget]; rfl) (by rw [hget]; rfl)
              have q2 := ofR hrx (k : Int) (g : Int) (by rw [← HR.out.2]; omega) (S := []) (by rw [hnam]; exact sort_none)
              have HX := hid (And.intro q1 (And.intro q2 hx))
              clear q1 q2 hx hget hnam hrx hok hb
              go_wp2_with fail
              refine HX.out.1.mono ?_
              rintro e w6 ⟨rfl, hw6⟩
              subst hw6
              go_wp2_with fail
              refine HX.out.2.1.mono ?_
              rintro e w7 ⟨v7, rfl, hs7, n7⟩
              obtain ⟨va7, vc7, rfl⟩ := hs7.val
              have H7 := hid (HX.out.2.2.step n7)
              clear hs7 n7
              go_wp2_with fail
              exact ⟨⟨k + 1, by omega, by go_num, H7.out⟩, by simp [intOf]; omega⟩
          · have hlt2 : ¬ (k : Int) < 8 := by omega
            have hrx := hid (HR.out.1.new_ hx)
            clear hx
            go_wp2_with fail
            refine (lenR hrx.out HR.out.2.symm).mono ?_
            rintro e w6 ⟨rfl, hw6⟩
            subst hw6
            have q3 := hid (forgetR hrx.out (g : Int) (by rw [← HR.out.2]; omega) (L' := []) (RL_gone 8) (x := (M : Int)) (by rw [← HR.out.2]; simp))
            go_wp2_with fail
            refine q3.out.mono ?_
            rintro e w7 ⟨rfl, h7, k7⟩
            have H7 := hid h7
            clear h7 k7
            go_wp2_with fail
            refine (lenR H7.out (n := 0) rfl).mono ?_
            rintro e w8 ⟨rfl, hw8⟩
            subst hw8
            have q4 := hid (forgetR H7.out (g : Int) (by decide) (L' := []) rfl (x := 0) rfl)
            go_wp2_with fail
            refine q4.out.mono ?_
            rintro e w9 ⟨rfl, h9, k9⟩
            have H9 := hid h9
            clear h9 k9
            go_wp2
            go_ret
            exact ⟨rfl, HN.out.step H9.out.2.1⟩
end Go.Proofs.Ytakhidieomalhaa.Law
