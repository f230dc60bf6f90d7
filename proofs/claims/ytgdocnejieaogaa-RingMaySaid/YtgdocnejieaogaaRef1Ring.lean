/- The contracts of the reference's rings; the document's example of layer 4. -/
import Derived.Test.YtgdocnejieaogaaRing
namespace Go.Proofs.Ytgdocnejieaogaa.Ref1
open Go Go.RowKit Go.Proofs.Ytgdocnejieaogaa.Kit Go.Proofs.Ytgdocnejieaogaa.Ring
set_option linter.unusedSimpArgs false
set_option linter.unusedVariables false
theorem ringMay_any (a b c g : Int) (w : World) : Calls Try.prog 17 #[br a b c g] w fun e w' => e = .returned (.bool (mayB a b c g)) ∧ New w w' := by
  go_enter Try.func17, Try.ntmps17
  go_wp2
  all_goals
    go_ret
    refine ⟨ret_bool (Bool.eq_iff_iff.2 ?_), ?_⟩
    · rw [mayB_iff]; simp; try omega
    · (repeat (first | exact New.refl _ | (refine New.step ?_ (by assumption)) | apply New.alloc | apply New.drewN | apply New.drew))
/-- What 'Do' says of a kind: 3: write, 1: fetch, else: read. -/
def doE (k : Int) (a b c g : Int) (fr fw fe : Bool) (r : Int) : Int := if k = 3 then writeE a b c g fw r else if k = 1 then execE a b c g fe r else readE a b c g fr r
theorem fine_of_may {a b c g r : Int} : fineB a b c g r = (mayB a b c g && decide (0 ≤ r ∧ r ≤ 7)) := by
  rw [Bool.eq_iff_iff, fineB_iff, Bool.and_eq_true, mayB_iff, decide_eq_true_eq]
theorem do_any (k : Int) (hk : k = 1 ∨ k = 2 ∨ k = 3) (a b c g : Int) (fr fw fe : Bool) (r : Int) (w : World) :
    Calls Try.prog 18 #[.int .i64 k, br a b c g, fl fr fw fe, .int .i64 r] w fun e w' => e = .returned (.int .i64 (doE k a b c g fr fw fe r)) ∧ New w w' := by
  have hdo : Hid (doE k a b c g fr fw fe r = if mayB a b c g = true ∧ 0 ≤ r ∧ r ≤ 7 then (if (if k = 3 then fw else if k = 1 then fe else fr) = true then (if (if k = 1 then a else 0) ≤ r ∧ r ≤ (if k = 3 then a else b) then 0 else 10) else 9) else 1) := by
    unfold doE readE writeE execE Hid
    rw [fine_of_may]
    by_cases h : mayB a b c g = true ∧ 0 ≤ r ∧ r ≤ 7
    · have h1 : (mayB a b c g && decide (0 ≤ r ∧ r ≤ 7)) = true := by simp [h]
      have h0 := h.2.1
      rcases hk with rfl | rfl | rfl <;> simp [h, h0]
    · have h1 : (mayB a b c g && decide (0 ≤ r ∧ r ≤ 7)) = false := by simp; intro h'; simp [h'] at h; omega
      rw [if_neg h, h1]
      rcases hk with rfl | rfl | rfl <;> simp
  rw [hdo.out]
  by_cases hm : mayB a b c g = true
  · by_cases h0 : r < 0
    · rw [if_neg (by omega)]
      go_enter Try.func18, Try.ntmps18
      go_wp2_with fail
      refine (ringMay_any _ _ _ _ _).mono ?_
      rintro e w1 ⟨rfl, hn1⟩
      obtain ⟨hc1, hf1⟩ := New.cells hn1
      have hs1 := New.size hn1
      try simp only [World.size_alloc, size_drewN, size_drew, size_setCell] at hc1 hf1 hs1
      try have hz1 : w.heap.size < w1.heap.size := by omega
      rw [hm]
      go_wp2
      go_ret
      refine ⟨rfl, ?_⟩
      (repeat (first | exact New.refl _ | (refine New.step ?_ (by assumption)) | apply New.alloc | apply New.drewN | apply New.drew))
    by_cases h7 : 7 < r
    · rw [if_neg (by omega)]
      go_enter Try.func18, Try.ntmps18
      go_wp2_with fail
      refine (ringMay_any _ _ _ _ _).mono ?_
      rintro e w2 ⟨rfl, hn2⟩
      obtain ⟨hc2, hf2⟩ := New.cells hn2
      have hs2 := New.size hn2
      try simp only [World.size_alloc, size_drewN, size_drew, size_setCell] at hc2 hf2 hs2
      try have hz2 : w.heap.size < w2.heap.size := by omega
      rw [hm]
      go_wp2
      go_ret
      refine ⟨rfl, ?_⟩
      (repeat (first | exact New.refl _ | (refine New.step ?_ (by assumption)) | apply New.alloc | apply New.drewN | apply New.drew))
    rw [if_pos ⟨hm, by omega, by omega⟩]
    rcases hk with rfl | rfl | rfl
    · cases fe
      · go_enter Try.func18, Try.ntmps18
        go_wp2_with fail
        refine (ringMay_any _ _ _ _ _).mono ?_
        rintro e w3 ⟨rfl, hn3⟩
        obtain ⟨hc3, hf3⟩ := New.cells hn3
        have hs3 := New.size hn3
        try simp only [World.size_alloc, size_drewN, size_drew, size_setCell] at hc3 hf3 hs3
        try have hz3 : w.heap.size < w3.heap.size := by omega
        rw [hm]
        go_wp2
        go_quiet (fail)
        go_wp2
        go_quiet (fail)
        go_wp2
        go_ret
        refine ⟨rfl, ?_⟩
        (repeat (first | exact New.refl _ | (refine New.step ?_ (by assumption)) | apply New.alloc | apply New.drewN | apply New.drew))
      · go_enter Try.func18, Try.ntmps18
        go_wp2_with fail
        refine (ringMay_any _ _ _ _ _).mono ?_
        rintro e w4 ⟨rfl, hn4⟩
        obtain ⟨hc4, hf4⟩ := New.cells hn4
        have hs4 := New.size hn4
        try simp only [World.size_alloc, size_drewN, size_drew, size_setCell] at hc4 hf4 hs4
        try have hz4 : w.heap.size < w4.heap.size := by omega
        rw [hm]
        go_wp2
        go_quiet (fail)
        go_wp2
        go_quiet (fail)
        go_wp2
        all_goals
          go_ret
          refine ⟨ret_i (by simp; try omega), ?_⟩
          (repeat (first | exact New.refl _ | (refine New.step ?_ (by assumption)) | apply New.alloc | apply New.drewN | apply New.drew))
    · cases fr
      · go_enter Try.func18, Try.ntmps18
        go_wp2_with fail
        refine (ringMay_any _ _ _ _ _).mono ?_
        rintro e w5 ⟨rfl, hn5⟩
        obtain ⟨hc5, hf5⟩ := New.cells hn5
        have hs5 := New.size hn5
        try simp only [World.size_alloc, size_drewN, size_drew, size_setCell] at hc5 hf5 hs5
        try have hz5 : w.heap.size < w5.heap.size := by omega
        rw [hm]
        go_wp2
        go_quiet (fail)
        go_wp2
        go_ret
        refine ⟨rfl, ?_⟩
        (repeat (first | exact New.refl _ | (refine New.step ?_ (by assumption)) | apply New.alloc | apply New.drewN | apply New.drew))
      · go_enter Try.func18, Try.ntmps18
        go_wp2_with fail
        refine (ringMay_any _ _ _ _ _).mono ?_
        rintro e w6 ⟨rfl, hn6⟩
        obtain ⟨hc6, hf6⟩ := New.cells hn6
        have hs6 := New.size hn6
        try simp only [World.size_alloc, size_drewN, size_drew, size_setCell] at hc6 hf6 hs6
        try have hz6 : w.heap.size < w6.heap.size := by omega
        rw [hm]
        go_wp2
        go_quiet (fail)
        go_wp2
        all_goals
          go_ret
          refine ⟨ret_i (by simp; try omega), ?_⟩
          (repeat (first | exact New.refl _ | (refine New.step ?_ (by assumption)) | apply New.alloc | apply New.drewN | apply New.drew))
    · cases fw
      · go_enter Try.func18, Try.ntmps18
        go_wp2_with fail
        refine (ringMay_any _ _ _ _ _).mono ?_
        rintro e w7 ⟨rfl, hn7⟩
        obtain ⟨hc7, hf7⟩ := New.cells hn7
        have hs7 := New.size hn7
        try simp only [World.size_alloc, size_drewN, size_drew, size_setCell] at hc7 hf7 hs7
        try have hz7 : w.heap.size < w7.heap.size := by omega
        rw [hm]
        go_wp2
        go_quiet (fail)
        go_wp2
        go_quiet (fail)
        go_wp2
        go_ret
        refine ⟨rfl, ?_⟩
        (repeat (first | exact New.refl _ | (refine New.step ?_ (by assumption)) | apply New.alloc | apply New.drewN | apply New.drew))
      · go_enter Try.func18, Try.ntmps18
        go_wp2_with fail
        refine (ringMay_any _ _ _ _ _).mono ?_
        rintro e w8 ⟨rfl, hn8⟩
        obtain ⟨hc8, hf8⟩ := New.cells hn8
        have hs8 := New.size hn8
        try simp only [World.size_alloc, size_drewN, size_drew, size_setCell] at hc8 hf8 hs8
        try have hz8 : w.heap.size < w8.heap.size := by omega
        rw [hm]
        go_wp2
        go_quiet (fail)
        go_wp2
        go_quiet (fail)
        go_wp2
        all_goals
          go_ret
          refine ⟨ret_i (by simp; try omega), ?_⟩
          (repeat (first | exact New.refl _ | (refine New.step ?_ (by assumption)) | apply New.alloc | apply New.drewN | apply New.drew))
  · have hm' : mayB a b c g = false := by simpa using hm
    rw [if_neg (fun h => hm h.1)]
    go_enter Try.func18, Try.ntmps18
    go_wp2_with fail
    refine (ringMay_any _ _ _ _ _).mono ?_
    rintro e w9 ⟨rfl, hn9⟩
    obtain ⟨hc9, hf9⟩ := New.cells hn9
    have hs9 := New.size hn9
    try simp only [World.size_alloc, size_drewN, size_drew, size_setCell] at hc9 hf9 hs9
    try have hz9 : w.heap.size < w9.heap.size := by omega
    rw [hm']
    go_wp2
    go_ret
    refine ⟨rfl, ?_⟩
    (repeat (first | exact New.refl _ | (refine New.step ?_ (by assumption)) | apply New.alloc | apply New.drewN | apply New.drew))
end Go.Proofs.Ytgdocnejieaogaa.Ref1
