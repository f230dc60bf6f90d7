/- The walk of RingMay. -/
import Derived.Test.YtgdocnejieaogaaRingAwake
import Derived.Test.YtgdocnejieaogaaRef1Ring
namespace Go.Proofs.Ytgdocnejieaogaa.Law
open Go Go.RowKit Go.ChangeShapes Go.WideShapes Go.Proofs.Ytgdocnejieaogaa.Kit Go.Proofs.Ytgdocnejieaogaa.Ring
set_option linter.unusedSimpArgs false
set_option linter.unusedVariables false
theorem refCall_any (a b c g : Int) (fr fw fe : Bool) (r o : Int) (w : World) : Calls Try.prog 15 #[br a b c g, fl fr fw fe, .int .i64 r, .int .i64 o] w fun e w' => e = .returned (.tuple #[.int .i64 (callE a b c g fe r o).1, .int .i64 (callE a b c g fe r o).2]) ∧ New w w' := by
  have fm : Hid (fineB a b c g r = (mayB a b c g && decide (0 ≤ r ∧ r ≤ 7))) := Ref1.fine_of_may
  unfold callE
  rw [fm.out]
  by_cases hm : mayB a b c g = true
  · rw [hm, Bool.true_and]
    by_cases h0 : r < 0
    · rw [if_neg (by simp; omega)]
      go_enter Try.func15, Try.ntmps15
      go_wp2_with fail
      refine (refMay_any _ _ _ _ _).mono ?_
      rintro e w1 ⟨rfl, hn1⟩
      obtain ⟨hc1, hf1⟩ := New.cells hn1
      have hs1 := New.size hn1
      try simp only [World.size_alloc, size_drewN, size_drew, size_setCell] at hc1 hf1 hs1
      try have hz1_w : w.heap.size < w1.heap.size := by omega
      rw [hm]
      go_wp2
      go_ret2
      refine ⟨rfl, ?_⟩
      (repeat (first | exact New.refl _ | (refine New.step ?_ (by assumption)) | apply New.alloc | apply New.drewN | apply New.drew))
    by_cases h7 : 7 < r
    · rw [if_neg (by simp; omega)]
      go_enter Try.func15, Try.ntmps15
      go_wp2_with fail
      refine (refMay_any _ _ _ _ _).mono ?_
      rintro e w2 ⟨rfl, hn2⟩
      obtain ⟨hc2, hf2⟩ := New.cells hn2
      have hs2 := New.size hn2
      try simp only [World.size_alloc, size_drewN, size_drew, size_setCell] at hc2 hf2 hs2
      try have hz2_w : w.heap.size < w2.heap.size := by omega
      rw [hm]
      go_wp2
      go_ret2
      refine ⟨rfl, ?_⟩
      (repeat (first | exact New.refl _ | (refine New.step ?_ (by assumption)) | apply New.alloc | apply New.drewN | apply New.drew))
    rw [if_pos (by simp; omega)]
    cases fe
    · go_enter Try.func15, Try.ntmps15
      go_wp2_with fail
      refine (refMay_any _ _ _ _ _).mono ?_
      rintro e w3 ⟨rfl, hn3⟩
      obtain ⟨hc3, hf3⟩ := New.cells hn3
      have hs3 := New.size hn3
      try simp only [World.size_alloc, size_drewN, size_drew, size_setCell] at hc3 hf3 hs3
      try have hz3_w : w.heap.size < w3.heap.size := by omega
      rw [hm]
      go_wp2
      go_ret2
      refine ⟨rfl, ?_⟩
      (repeat (first | exact New.refl _ | (refine New.step ?_ (by assumption)) | apply New.alloc | apply New.drewN | apply New.drew))
    · rw [if_pos rfl]
      by_cases c1 : r < a
      · rw [if_neg (by omega)]
        go_enter Try.func15, Try.ntmps15
        go_wp2_with fail
        refine (refMay_any _ _ _ _ _).mono ?_
        rintro e w4 ⟨rfl, hn4⟩
        obtain ⟨hc4, hf4⟩ := New.cells hn4
        have hs4 := New.size hn4
        try simp only [World.size_alloc, size_drewN, size_drew, size_setCell] at hc4 hf4 hs4
        try have hz4_w : w.heap.size < w4.heap.size := by omega
        rw [hm]
        go_wp2
        go_ret2
        refine ⟨rfl, ?_⟩
        (repeat (first | exact New.refl _ | (refine New.step ?_ (by assumption)) | apply New.alloc | apply New.drewN | apply New.drew))
      by_cases c2 : c < r
      · rw [if_neg (by omega)]
        go_enter Try.func15, Try.ntmps15
        go_wp2_with fail
        refine (refMay_any _ _ _ _ _).mono ?_
        rintro e w5 ⟨rfl, hn5⟩
        obtain ⟨hc5, hf5⟩ := New.cells hn5
        have hs5 := New.size hn5
        try simp only [World.size_alloc, size_drewN, size_drew, size_setCell] at hc5 hf5 hs5
        try have hz5_w : w.heap.size < w5.heap.size := by omega
        rw [hm]
        go_wp2
        go_ret2
        refine ⟨rfl, ?_⟩
        (repeat (first | exact New.refl _ | (refine New.step ?_ (by assumption)) | apply New.alloc | apply New.drewN | apply New.drew))
      rw [if_pos (by omega)]
      by_cases c3 : r ≤ b
      · rw [if_pos c3]
        go_enter Try.func15, Try.ntmps15
        go_wp2_with fail
        refine (refMay_any _ _ _ _ _).mono ?_
        rintro e w6 ⟨rfl, hn6⟩
        obtain ⟨hc6, hf6⟩ := New.cells hn6
        have hs6 := New.size hn6
        try simp only [World.size_alloc, size_drewN, size_drew, size_setCell] at hc6 hf6 hs6
        try have hz6_w : w.heap.size < w6.heap.size := by omega
        rw [hm]
        go_wp2
        go_ret2
        refine ⟨rfl, ?_⟩
        (repeat (first | exact New.refl _ | (refine New.step ?_ (by assumption)) | apply New.alloc | apply New.drewN | apply New.drew))
      rw [if_neg c3]
      by_cases c4 : o < 0
      · rw [if_neg (by omega)]
        go_enter Try.func15, Try.ntmps15
        go_wp2_with fail
        refine (refMay_any _ _ _ _ _).mono ?_
        rintro e w7 ⟨rfl, hn7⟩
        obtain ⟨hc7, hf7⟩ := New.cells hn7
        have hs7 := New.size hn7
        try simp only [World.size_alloc, size_drewN, size_drew, size_setCell] at hc7 hf7 hs7
        try have hz7_w : w.heap.size < w7.heap.size := by omega
        rw [hm]
        go_wp2
        go_ret2
        refine ⟨rfl, ?_⟩
        (repeat (first | exact New.refl _ | (refine New.step ?_ (by assumption)) | apply New.alloc | apply New.drewN | apply New.drew))
      by_cases c5 : o < g
      · rw [if_pos (by omega)]
        go_enter Try.func15, Try.ntmps15
        go_wp2_with fail
        refine (refMay_any _ _ _ _ _).mono ?_
        rintro e w8 ⟨rfl, hn8⟩
        obtain ⟨hc8, hf8⟩ := New.cells hn8
        have hs8 := New.size hn8
        try simp only [World.size_alloc, size_drewN, size_drew, size_setCell] at hc8 hf8 hs8
        try have hz8_w : w.heap.size < w8.heap.size := by omega
        rw [hm]
        go_wp2
        go_ret2
        refine ⟨rfl, ?_⟩
        (repeat (first | exact New.refl _ | (refine New.step ?_ (by assumption)) | apply New.alloc | apply New.drewN | apply New.drew))
      · rw [if_neg (by omega)]
        go_enter Try.func15, Try.ntmps15
        go_wp2_with fail
        refine (refMay_any _ _ _ _ _).mono ?_
        rintro e w9 ⟨rfl, hn9⟩
        obtain ⟨hc9, hf9⟩ := New.cells hn9
        have hs9 := New.size hn9
        try simp only [World.size_alloc, size_drewN, size_drew, size_setCell] at hc9 hf9 hs9
        try have hz9_w : w.heap.size < w9.heap.size := by omega
        rw [hm]
        go_wp2
        go_ret2
        refine ⟨rfl, ?_⟩
        (repeat (first | exact New.refl _ | (refine New.step ?_ (by assumption)) | apply New.alloc | apply New.drewN | apply New.drew))
  · have hm' : mayB a b c g = false := by simpa using hm
    rw [hm', Bool.false_and, if_neg (by decide)]
    go_enter Try.func15, Try.ntmps15
    go_wp2_with fail
    refine (refMay_any _ _ _ _ _).mono ?_
    rintro e w10 ⟨rfl, hn10⟩
    obtain ⟨hc10, hf10⟩ := New.cells hn10
    have hs10 := New.size hn10
    try simp only [World.size_alloc, size_drewN, size_drew, size_setCell] at hc10 hf10 hs10
    try have hz10_w : w.heap.size < w10.heap.size := by omega
    rw [hm']
    go_wp2
    go_ret2
    refine ⟨rfl, ?_⟩
    (repeat (first | exact New.refl _ | (refine New.step ?_ (by assumption)) | apply New.alloc | apply New.drewN | apply New.drew))
theorem cutZ_cases (r : Int) : (r < 0 ∧ cutZ r = 0) ∨ (7 < r ∧ cutZ r = 7) ∨ (0 ≤ r ∧ r ≤ 7 ∧ cutZ r = r) := by unfold cutZ; omega

theorem do2 (a b c g : Int) (fr fw fe : Bool) (r : Int) (w : World) : Calls Try.prog 18 #[.int .i64 2, br a b c g, fl fr fw fe, .int .i64 r] w fun e w' => e = .returned (.int .i64 (readE a b c g fr r)) ∧ New w w' :=
  (Ref1.do_any 2 (by omega) a b c g fr fw fe r w).mono fun _ _ h => ⟨by rw [h.1]; simp [Ref1.doE], h.2⟩
theorem do3 (a b c g : Int) (fr fw fe : Bool) (r : Int) (w : World) : Calls Try.prog 18 #[.int .i64 3, br a b c g, fl fr fw fe, .int .i64 r] w fun e w' => e = .returned (.int .i64 (writeE a b c g fw r)) ∧ New w w' :=
  (Ref1.do_any 3 (by omega) a b c g fr fw fe r w).mono fun _ _ h => ⟨by rw [h.1]; simp [Ref1.doE], h.2⟩
theorem do1 (a b c g : Int) (fr fw fe : Bool) (r : Int) (w : World) : Calls Try.prog 18 #[.int .i64 1, br a b c g, fl fr fw fe, .int .i64 r] w fun e w' => e = .returned (.int .i64 (execE a b c g fe r)) ∧ New w w' :=
  (Ref1.do_any 1 (by omega) a b c g fr fw fe r w).mono fun _ _ h => ⟨by rw [h.1]; simp [Ref1.doE], h.2⟩
attribute [local go_sem] max_i min_i
set_option maxHeartbeats 4000000 in
theorem ringMay_walk (a b c g : Int) (fr fw fe : Bool) (r o : Int) (w : World) :
    Calls Try.prog 5 #[br a b c g, fl fr fw fe, .agg #[.int .i64 r, .int .i64 o]] w fun e w' => e = .returned (.bool true) ∧ New w w' := by
  have d2 : Hid (Ref1.doE 2 a b c g fr fw fe r = readE a b c g fr r) := by simp [Ref1.doE, Hid]
  have d3 : Hid (Ref1.doE 3 a b c g fr fw fe r = writeE a b c g fw r) := by simp [Ref1.doE, Hid]
  have d1 : Hid (Ref1.doE 1 a b c g fr fw fe r = execE a b c g fe r) := by simp [Ref1.doE, Hid]
  have hret : (max (cutZ r) (cutZ o) == mxZ (mnZ (mxZ r 0) 7) (mnZ (mxZ o 0) 7)) = true := by
    rw [beq_iff_eq]; unfold cutZ mxZ mnZ; rfl
  go_enter Try.func5, Try.ntmps5
  go_wp2_with fail
  refine (awake_any _).mono ?_
  rintro e w11 ⟨rfl, hn11⟩
  obtain ⟨hc11, hf11⟩ := New.cells hn11
  have hs11 := New.size hn11
  try simp only [World.size_alloc, size_drewN, size_drew, size_setCell] at hc11 hf11 hs11
  try have hz11_w_1 : w.heap.size + 1 < w11.heap.size := by omega
  try have hz11_w_2 : w.heap.size + 2 < w11.heap.size := by omega
  try have hz11_w : w.heap.size < w11.heap.size := by omega
  go_wp2_with fail
  go_quiet (fail)
  go_wp2_with fail
  refine (call_any _ _ _ _ _ _ _ _ _ _).mono ?_
  rintro e w12 ⟨rfl, hn12⟩
  obtain ⟨hc12, hf12⟩ := New.cells hn12
  have hs12 := New.size hn12
  try simp only [World.size_alloc, size_drewN, size_drew, size_setCell] at hc12 hf12 hs12
  try have hz12_w_1 : w.heap.size + 1 < w12.heap.size := by omega
  try have hz12_w_2 : w.heap.size + 2 < w12.heap.size := by omega
  try have hz12_w : w.heap.size < w12.heap.size := by omega
  go_wp2_with fail
  refine (refCall_any _ _ _ _ _ _ _ _ _ _).mono ?_
  rintro e wX ⟨rfl, hnX⟩
  obtain ⟨hcX, hfX⟩ := New.cells hnX
  have hsX := New.size hnX
  try simp only [World.size_alloc, size_drewN, size_drew, size_setCell] at hcX hfX hsX
  try have hzX_w_1 : w.heap.size + 1 < wX.heap.size := by omega
  try have hzX_w_2 : w.heap.size + 2 < wX.heap.size := by omega
  try have hzX_w : w.heap.size < wX.heap.size := by omega
  go_wp2_with fail
  have k0 : wX.cell? ⟨w.heap.size, 0, none⟩ = some (.int .i64 a) := by go_simp
  have k1 : wX.cell? ⟨w.heap.size, 1, none⟩ = some (.int .i64 b) := by go_simp
  have k2 : wX.cell? ⟨w.heap.size, 2, none⟩ = some (.int .i64 c) := by go_simp
  have k3 : wX.cell? ⟨w.heap.size, 3, none⟩ = some (.int .i64 g) := by go_simp
  have k4 : wX.cell? ⟨w.heap.size + 1, 0, none⟩ = some (.bool fr) := by go_simp
  have k5 : wX.cell? ⟨w.heap.size + 1, 1, none⟩ = some (.bool fw) := by go_simp
  have k6 : wX.cell? ⟨w.heap.size + 1, 2, none⟩ = some (.bool fe) := by go_simp
  have hnow : New w wX := by (repeat (first | exact New.refl _ | (refine New.step ?_ (by assumption)) | apply New.alloc | apply New.drewN | apply New.drew))
  clear hcX hfX hsX hzX_w hzX_w_1 hzX_w_2 hnX hc12 hf12 hs12 hz12_w hz12_w_1 hz12_w_2 hn12 hc11 hf11 hs11 hz11_w hz11_w_1 hz11_w_2 hn11
  go_region_held3 (fun w' => w'.cell? ⟨w.heap.size, 0, none⟩ = some (.int .i64 a) ∧ w'.cell? ⟨w.heap.size, 1, none⟩ = some (.int .i64 b) ∧ w'.cell? ⟨w.heap.size, 2, none⟩ = some (.int .i64 c) ∧ w'.cell? ⟨w.heap.size, 3, none⟩ = some (.int .i64 g) ∧ w'.cell? ⟨w.heap.size + 1, 0, none⟩ = some (.bool fr) ∧ w'.cell? ⟨w.heap.size + 1, 1, none⟩ = some (.bool fw) ∧ w'.cell? ⟨w.heap.size + 1, 2, none⟩ = some (.bool fe) ∧ New w w')
    (first | exact ⟨k0, k1, k2, k3, k4, k5, k6, New.drew hnow⟩ | assumption | (refine ⟨New.cellK hn ?_, New.cellK hn ?_, New.cellK hn ?_, New.cellK hn ?_, New.cellK hn ?_, New.cellK hn ?_, New.cellK hn ?_, New.step ?_ hn⟩ <;> (simp [*]; done)))
    (first
      | (go_at_call 16; (with_reducible refine (may_any _ _ _ _ _).mono ?_); rintro e w' ⟨rfl, hn⟩)
      | (go_at_call 17; (with_reducible refine (refMay_any _ _ _ _ _).mono ?_); rintro e w' ⟨rfl, hn⟩)
      | (go_at_call 11; (with_reducible refine (read_any _ _ _ _ _ _ _ _ _).mono ?_); rintro e w' ⟨rfl, hn⟩)
      | (go_at_call 12; (with_reducible refine (write_any _ _ _ _ _ _ _ _ _).mono ?_); rintro e w' ⟨rfl, hn⟩)
      | (go_at_call 19; (with_reducible refine (exec_any _ _ _ _ _ _ _ _ _).mono ?_); rintro e w' ⟨rfl, hn⟩)
      | (go_at_call 14; (with_reducible refine (return_any _ _ _).mono ?_); rintro e w' ⟨rfl, rfl⟩)
      | (go_at_call 18; first | ((with_reducible refine (do2 _ _ _ _ _ _ _ _ _).mono ?_); rintro e w' ⟨rfl, hn⟩) | ((with_reducible refine (do3 _ _ _ _ _ _ _ _ _).mono ?_); rintro e w' ⟨rfl, hn⟩) | ((with_reducible refine (do1 _ _ _ _ _ _ _ _ _).mono ?_); rintro e w' ⟨rfl, hn⟩)))
  go_wp2
  go_ret
  refine ⟨rfl, ?_⟩
  simp [*]
theorem ringMay_row {H : Type} {enc : TypeId × Value → H} (W : World) {base : Nat}
    (v0 : Value) (d0 : DataW H) (p0 : List MemPlace) (k0 : Value.okWide Try.prog W .any base 23 v0) (h0 : DataW.Trod enc Try.prog W 0 (fun _ => true) true 23 v0 d0 p0) (l0 : ∀ x ∈ p0, x.block < W.heap.size)
    (v1 : Value) (d1 : DataW H) (p1 : List MemPlace) (k1 : Value.okWide Try.prog W .any base 25 v1) (h1 : DataW.Trod enc Try.prog W 0 (fun _ => true) true 25 v1 d1 p1) (l1 : ∀ x ∈ p1, x.block < W.heap.size)
    (v2 : Value) (d2 : DataW H) (p2 : List MemPlace) (k2 : Value.okWide Try.prog W .any base 35 v2) (h2 : DataW.Trod enc Try.prog W 0 (fun _ => true) true 35 v2 d2 p2) (l2 : ∀ x ∈ p2, x.block < W.heap.size)
    : Calls Try.prog 5 #[v0, v1, v2] W fun e W' => e = .returned (.bool true) ∧ Below W.heap.size W W' := by
  obtain ⟨a, b, c, g, rfl, _⟩ := open_br k0 h0
  obtain ⟨fr, fw, fe, rfl⟩ := open_fl k1 h1
  obtain ⟨l, rfl, hl, hw⟩ := Open.open_arr Try.underlying35 Try.underlying3 (by kernel_rfl) (by kernel_rfl) k2 h2
  obtain ⟨n0, n1, rfl⟩ := Open.list2 hl
  exact ringMay_walk a b c g fr fw fe n0 n1 W
end Go.Proofs.Ytgdocnejieaogaa.Law
