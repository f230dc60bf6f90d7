/- The walk of RingLower. -/
import Derived.Test.YtgdocnejieaogaaRingAwake
namespace Go.Proofs.Ytgdocnejieaogaa.Law
open Go Go.RowKit Go.ChangeShapes Go.WideShapes Go.Proofs.Ytgdocnejieaogaa.Kit Go.Proofs.Ytgdocnejieaogaa.Ring
set_option linter.unusedSimpArgs false
set_option linter.unusedVariables false

theorem read_lower {a b c g : Int} {f : Bool} {n k : Int} (hk : 0 ≤ k) (hkn : k < n) (h : readE a b c g f n = 0) : readE a b c g f k = 0 := by
  unfold readE at h ⊢
  split at h
  · rename_i hf
    have := fineB_iff.1 hf
    rw [if_pos (fineB_iff.2 ⟨this.1, by omega⟩)]
    split at h
    · rename_i h1
      rw [if_pos h1]
      split at h
      · rw [if_pos (by omega)]
      · omega
    · omega
  · omega
theorem write_lower {a b c g : Int} {f : Bool} {n k : Int} (hk : 0 ≤ k) (hkn : k < n) (h : writeE a b c g f n = 0) : writeE a b c g f k = 0 := by
  unfold writeE at h ⊢
  split at h
  · rename_i hf
    have := fineB_iff.1 hf
    rw [if_pos (fineB_iff.2 ⟨this.1, by omega⟩)]
    split at h
    · rename_i h1
      rw [if_pos h1]
      split at h
      · rw [if_pos (by omega)]
      · omega
    · omega
  · omega
theorem write_read {a b c g : Int} {f f' : Bool} {n : Int} (h : writeE a b c g f n = 0) (hf' : f' = true) : readE a b c g f' n = 0 := by
  unfold writeE at h
  unfold readE
  split at h
  · rename_i hf
    have := fineB_iff.1 hf
    rw [if_pos hf, if_pos hf']
    split at h
    · split at h
      · rw [if_pos (by omega)]
      · omega
    · omega
  · omega

theorem ringLower_walk (a b c g : Int) (fr fw fe : Bool) (r : Int) (r0 : 0 ≤ r) (r1 : r < 256) (w : World) :
    Calls Try.prog 3 #[br a b c g, fl fr fw fe, .int .u8 r] w fun e w' => e = .returned (.bool true) ∧ New w w' := by
  go_enter Try.func3, Try.ntmps3
  go_wp2_with fail
  refine (awake_any _).mono ?_
  rintro e w1 ⟨rfl, hn1⟩
  obtain ⟨hc1, hf1⟩ := New.cells hn1
  have hs1 := New.size hn1
  try simp only [World.size_alloc, size_drewN, size_drew, size_setCell] at hc1 hf1 hs1
  try have hz1_w_1 : w.heap.size + 1 < w1.heap.size := by omega
  try have hz1_w : w.heap.size < w1.heap.size := by omega
  go_wp2_with fail
  go_loopw [8] (fun i wr => ∃ m : Nat, i = .int .i64 (m : Int) ∧ New w1 wr) (fun i _ => (r % 8).toNat - (intOf i).toNat)
  case atStart => exact ⟨0, rfl, New.refl _⟩
  case round =>
    obtain ⟨m, rfl, hnr⟩ := hrel
    obtain ⟨hc2, hf2⟩ := New.cells hnr
    have hs2 := New.size hnr
    try simp only [World.size_alloc, size_drewN, size_drew, size_setCell] at hc2 hf2 hs2
    try have hz2_w_1 : w.heap.size + 1 < wr.heap.size := by omega
    try have hz2_w : w.heap.size < wr.heap.size := by omega
    by_cases hlt : (m : Int) < r % 8
    · by_cases er : readE a b c g fr (r % 8) = 0
      · have ek := read_lower (k := (m : Int)) (by omega) hlt er
        have er1 := hid er
        have ek1 := hid ek
        clear er ek
        by_cases ew : writeE a b c g fw (r % 8) = 0
        · have ewk := hid (write_lower (k := (m : Int)) (by omega) hlt ew)
          have ew1 := hid ew
          clear ew
          cases fr
          · go_wp2_with fail
            refine (read_any _ _ _ _ _ _ _ _ _).mono ?_
            rintro e w3 ⟨rfl, hn3⟩
            obtain ⟨hc3, hf3⟩ := New.cells hn3
            have hs3 := New.size hn3
            try simp only [World.size_alloc, size_drewN, size_drew, size_setCell] at hc3 hf3 hs3
            try have hz3_w_1 : w.heap.size + 1 < w3.heap.size := by omega
            try have hz3_w : w.heap.size < w3.heap.size := by omega
            rw [er1.out]
            go_wp2_with fail
            refine (read_any _ _ _ _ _ _ _ _ _).mono ?_
            rintro e w4 ⟨rfl, hn4⟩
            obtain ⟨hc4, hf4⟩ := New.cells hn4
            have hs4 := New.size hn4
            try simp only [World.size_alloc, size_drewN, size_drew, size_setCell] at hc4 hf4 hs4
            try have hz4_w_1 : w.heap.size + 1 < w4.heap.size := by omega
            try have hz4_w : w.heap.size < w4.heap.size := by omega
            rw [ek1.out]
            go_wp2_with fail
            refine (write_any _ _ _ _ _ _ _ _ _).mono ?_
            rintro e w5 ⟨rfl, hn5⟩
            obtain ⟨hc5, hf5⟩ := New.cells hn5
            have hs5 := New.size hn5
            try simp only [World.size_alloc, size_drewN, size_drew, size_setCell] at hc5 hf5 hs5
            try have hz5_w_1 : w.heap.size + 1 < w5.heap.size := by omega
            try have hz5_w : w.heap.size < w5.heap.size := by omega
            rw [ew1.out]
            go_wp2_with fail
            refine (write_any _ _ _ _ _ _ _ _ _).mono ?_
            rintro e w6 ⟨rfl, hn6⟩
            obtain ⟨hc6, hf6⟩ := New.cells hn6
            have hs6 := New.size hn6
            try simp only [World.size_alloc, size_drewN, size_drew, size_setCell] at hc6 hf6 hs6
            try have hz6_w_1 : w.heap.size + 1 < w6.heap.size := by omega
            try have hz6_w : w.heap.size < w6.heap.size := by omega
            rw [ewk.out]
            go_wp2_with fail
            go_roundw
            case rel => exact ⟨m + 1, by go_num, by (repeat (first | exact New.refl _ | (refine New.step ?_ (by assumption)) | apply New.alloc | apply New.drewN | apply New.drew))⟩
            case measure => simp [intOf]; omega
          · go_wp2_with fail
            refine (read_any _ _ _ _ _ _ _ _ _).mono ?_
            rintro e w7 ⟨rfl, hn7⟩
            obtain ⟨hc7, hf7⟩ := New.cells hn7
            have hs7 := New.size hn7
            try simp only [World.size_alloc, size_drewN, size_drew, size_setCell] at hc7 hf7 hs7
            try have hz7_w_1 : w.heap.size + 1 < w7.heap.size := by omega
            try have hz7_w : w.heap.size < w7.heap.size := by omega
            rw [er1.out]
            go_wp2_with fail
            refine (read_any _ _ _ _ _ _ _ _ _).mono ?_
            rintro e w8 ⟨rfl, hn8⟩
            obtain ⟨hc8, hf8⟩ := New.cells hn8
            have hs8 := New.size hn8
            try simp only [World.size_alloc, size_drewN, size_drew, size_setCell] at hc8 hf8 hs8
            try have hz8_w_1 : w.heap.size + 1 < w8.heap.size := by omega
            try have hz8_w : w.heap.size < w8.heap.size := by omega
            rw [ek1.out]
            go_wp2_with fail
            refine (write_any _ _ _ _ _ _ _ _ _).mono ?_
            rintro e w9 ⟨rfl, hn9⟩
            obtain ⟨hc9, hf9⟩ := New.cells hn9
            have hs9 := New.size hn9
            try simp only [World.size_alloc, size_drewN, size_drew, size_setCell] at hc9 hf9 hs9
            try have hz9_w_1 : w.heap.size + 1 < w9.heap.size := by omega
            try have hz9_w : w.heap.size < w9.heap.size := by omega
            rw [ew1.out]
            go_wp2_with fail
            refine (write_any _ _ _ _ _ _ _ _ _).mono ?_
            rintro e w10 ⟨rfl, hn10⟩
            obtain ⟨hc10, hf10⟩ := New.cells hn10
            have hs10 := New.size hn10
            try simp only [World.size_alloc, size_drewN, size_drew, size_setCell] at hc10 hf10 hs10
            try have hz10_w_1 : w.heap.size + 1 < w10.heap.size := by omega
            try have hz10_w : w.heap.size < w10.heap.size := by omega
            rw [ewk.out]
            go_wp2_with fail
            refine (read_any _ _ _ _ _ _ _ _ _).mono ?_
            rintro e w11 ⟨rfl, hn11⟩
            obtain ⟨hc11, hf11⟩ := New.cells hn11
            have hs11 := New.size hn11
            try simp only [World.size_alloc, size_drewN, size_drew, size_setCell] at hc11 hf11 hs11
            try have hz11_w_1 : w.heap.size + 1 < w11.heap.size := by omega
            try have hz11_w : w.heap.size < w11.heap.size := by omega
            rw [er1.out]
            go_wp2_with fail
            go_roundw
            case rel => exact ⟨m + 1, by go_num, by (repeat (first | exact New.refl _ | (refine New.step ?_ (by assumption)) | apply New.alloc | apply New.drewN | apply New.drew))⟩
            case measure => simp [intOf]; omega
        · have ew1 : (writeE a b c g fw (r % 8) == 0) = false := by simpa using ew
          clear ew
          go_wp2_with fail
          refine (read_any _ _ _ _ _ _ _ _ _).mono ?_
          rintro e w12 ⟨rfl, hn12⟩
          obtain ⟨hc12, hf12⟩ := New.cells hn12
          have hs12 := New.size hn12
          try simp only [World.size_alloc, size_drewN, size_drew, size_setCell] at hc12 hf12 hs12
          try have hz12_w_1 : w.heap.size + 1 < w12.heap.size := by omega
          try have hz12_w : w.heap.size < w12.heap.size := by omega
          rw [er1.out]
          go_wp2_with fail
          refine (read_any _ _ _ _ _ _ _ _ _).mono ?_
          rintro e w13 ⟨rfl, hn13⟩
          obtain ⟨hc13, hf13⟩ := New.cells hn13
          have hs13 := New.size hn13
          try simp only [World.size_alloc, size_drewN, size_drew, size_setCell] at hc13 hf13 hs13
          try have hz13_w_1 : w.heap.size + 1 < w13.heap.size := by omega
          try have hz13_w : w.heap.size < w13.heap.size := by omega
          rw [ek1.out]
          go_wp2_with fail
          refine (write_any _ _ _ _ _ _ _ _ _).mono ?_
          rintro e w14 ⟨rfl, hn14⟩
          obtain ⟨hc14, hf14⟩ := New.cells hn14
          have hs14 := New.size hn14
          try simp only [World.size_alloc, size_drewN, size_drew, size_setCell] at hc14 hf14 hs14
          try have hz14_w_1 : w.heap.size + 1 < w14.heap.size := by omega
          try have hz14_w : w.heap.size < w14.heap.size := by omega
          go_wp2_with fail
          go_roundw
          case rel => exact ⟨m + 1, by go_num, by (repeat (first | exact New.refl _ | (refine New.step ?_ (by assumption)) | apply New.alloc | apply New.drewN | apply New.drew))⟩
          case measure => simp [intOf]; omega
      · have er1 : (readE a b c g fr (r % 8) == 0) = false := by simpa using er
        have ew : ¬ writeE a b c g fw (r % 8) = 0 ∨ fr = false := by
          by_cases h : writeE a b c g fw (r % 8) = 0
          · right
            cases hfr : fr
            · rfl
            · subst hfr; exact absurd (write_read h rfl) er
          · exact .inl h
        clear er
        by_cases ew0 : writeE a b c g fw (r % 8) = 0
        · have hfr : fr = false := by rcases ew with h | h; exact absurd ew0 h; exact h
          subst hfr
          have ewk := hid (write_lower (k := (m : Int)) (by omega) hlt ew0)
          have ew1 := hid ew0
          clear ew0 ew
          go_wp2_with fail
          refine (read_any _ _ _ _ _ _ _ _ _).mono ?_
          rintro e w15 ⟨rfl, hn15⟩
          obtain ⟨hc15, hf15⟩ := New.cells hn15
          have hs15 := New.size hn15
          try simp only [World.size_alloc, size_drewN, size_drew, size_setCell] at hc15 hf15 hs15
          try have hz15_w_1 : w.heap.size + 1 < w15.heap.size := by omega
          try have hz15_w : w.heap.size < w15.heap.size := by omega
          go_wp2_with fail
          refine (write_any _ _ _ _ _ _ _ _ _).mono ?_
          rintro e w16 ⟨rfl, hn16⟩
          obtain ⟨hc16, hf16⟩ := New.cells hn16
          have hs16 := New.size hn16
          try simp only [World.size_alloc, size_drewN, size_drew, size_setCell] at hc16 hf16 hs16
          try have hz16_w_1 : w.heap.size + 1 < w16.heap.size := by omega
          try have hz16_w : w.heap.size < w16.heap.size := by omega
          rw [ew1.out]
          go_wp2_with fail
          refine (write_any _ _ _ _ _ _ _ _ _).mono ?_
          rintro e w17 ⟨rfl, hn17⟩
          obtain ⟨hc17, hf17⟩ := New.cells hn17
          have hs17 := New.size hn17
          try simp only [World.size_alloc, size_drewN, size_drew, size_setCell] at hc17 hf17 hs17
          try have hz17_w_1 : w.heap.size + 1 < w17.heap.size := by omega
          try have hz17_w : w.heap.size < w17.heap.size := by omega
          rw [ewk.out]
          go_wp2_with fail
          go_roundw
          case rel => exact ⟨m + 1, by go_num, by (repeat (first | exact New.refl _ | (refine New.step ?_ (by assumption)) | apply New.alloc | apply New.drewN | apply New.drew))⟩
          case measure => simp [intOf]; omega
        · have ew1 : (writeE a b c g fw (r % 8) == 0) = false := by simpa using ew0
          clear ew0 ew
          go_wp2_with fail
          refine (read_any _ _ _ _ _ _ _ _ _).mono ?_
          rintro e w18 ⟨rfl, hn18⟩
          obtain ⟨hc18, hf18⟩ := New.cells hn18
          have hs18 := New.size hn18
          try simp only [World.size_alloc, size_drewN, size_drew, size_setCell] at hc18 hf18 hs18
          try have hz18_w_1 : w.heap.size + 1 < w18.heap.size := by omega
          try have hz18_w : w.heap.size < w18.heap.size := by omega
          go_wp2_with fail
          refine (write_any _ _ _ _ _ _ _ _ _).mono ?_
          rintro e w19 ⟨rfl, hn19⟩
          obtain ⟨hc19, hf19⟩ := New.cells hn19
          have hs19 := New.size hn19
          try simp only [World.size_alloc, size_drewN, size_drew, size_setCell] at hc19 hf19 hs19
          try have hz19_w_1 : w.heap.size + 1 < w19.heap.size := by omega
          try have hz19_w : w.heap.size < w19.heap.size := by omega
          go_wp2_with fail
          go_roundw
          case rel => exact ⟨m + 1, by go_num, by (repeat (first | exact New.refl _ | (refine New.step ?_ (by assumption)) | apply New.alloc | apply New.drewN | apply New.drew))⟩
          case measure => simp [intOf]; omega
    · go_wp2_with fail
      go_ret
      refine ⟨rfl, ?_⟩
      (repeat (first | exact New.refl _ | (refine New.step ?_ (by assumption)) | apply New.alloc | apply New.drewN | apply New.drew))
theorem ringLower_row {H : Type} {enc : TypeId × Value → H} (W : World) {base : Nat}
    (v0 : Value) (d0 : DataW H) (p0 : List MemPlace) (k0 : Value.okWide Try.prog W .any base 23 v0) (h0 : DataW.Trod enc Try.prog W 0 (fun _ => true) true 23 v0 d0 p0) (l0 : ∀ x ∈ p0, x.block < W.heap.size)
    (v1 : Value) (d1 : DataW H) (p1 : List MemPlace) (k1 : Value.okWide Try.prog W .any base 25 v1) (h1 : DataW.Trod enc Try.prog W 0 (fun _ => true) true 25 v1 d1 p1) (l1 : ∀ x ∈ p1, x.block < W.heap.size)
    (v2 : Value) (d2 : DataW H) (p2 : List MemPlace) (k2 : Value.okWide Try.prog W .any base 5 v2) (h2 : DataW.Trod enc Try.prog W 0 (fun _ => true) true 5 v2 d2 p2) (l2 : ∀ x ∈ p2, x.block < W.heap.size)
    : Calls Try.prog 3 #[v0, v1, v2] W fun e W' => e = .returned (.bool true) ∧ Below W.heap.size W W' := by
  obtain ⟨a, b, c, g, rfl, _⟩ := open_br k0 h0
  obtain ⟨fr, fw, fe, rfl⟩ := open_fl k1 h1
  obtain ⟨r, rfl, rfl, rfl, wr⟩ := open_int Try.underlying5 k2 h2
  have hr := wf_u8 wr
  exact ringLower_walk a b c g fr fw fe r hr.1 hr.2 W
end Go.Proofs.Ytgdocnejieaogaa.Law
