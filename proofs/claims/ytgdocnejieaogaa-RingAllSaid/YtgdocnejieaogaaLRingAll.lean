/- The walk of RingAll. -/
import Derived.Test.YtgdocnejieaogaaRingAwake
namespace Go.Proofs.Ytgdocnejieaogaa.Law
open Go Go.RowKit Go.ChangeShapes Go.WideShapes Go.Proofs.Ytgdocnejieaogaa.Kit Go.Proofs.Ytgdocnejieaogaa.Ring
set_option linter.unusedSimpArgs false
set_option linter.unusedVariables false
set_option maxRecDepth 100000 in
set_option maxHeartbeats 4000000 in
theorem ringAll_walk (a b c g o : Int) (o0 : 0 ≤ o) (o1 : o < 256) (w : World) :
    Calls Try.prog 9 #[br a b c g, .int .u8 o] w fun e w' => e = .returned (.bool true) ∧ New w w' := by
  by_cases hm : mayB a b c g = true
  · have hmm := mayB_iff.1 hm
    go_enter Try.func9, Try.ntmps9
    go_wp2_with fail
    refine (awake_any _).mono ?_
    rintro e w1 ⟨rfl, hn1⟩
    obtain ⟨hc1, hf1⟩ := New.cells hn1
    have hs1 := New.size hn1
    try simp only [World.size_alloc, size_drewN, size_drew, size_setCell] at hc1 hf1 hs1
    try have hz1_w : w.heap.size < w1.heap.size := by omega
    go_wp2_with fail
    refine (refMay_any _ _ _ _ _).mono ?_
    rintro e wM ⟨rfl, hnM⟩
    obtain ⟨hcM, hfM⟩ := New.cells hnM
    have hsM := New.size hnM
    try simp only [World.size_alloc, size_drewN, size_drew, size_setCell] at hcM hfM hsM
    try have hzM_w : w.heap.size < wM.heap.size := by omega
    rw [hm]
    go_wp2_with fail
    go_loopw [6] (fun i wr => ∃ m : Nat, m ≤ 8 ∧ i = .int .i64 (m : Int) ∧ New (wM.alloc (Obj.cells #[Value.bool false, Value.bool false, Value.bool true] 25)) wr) (fun i _ => 8 - (intOf i).toNat)
    case atStart => exact ⟨0, by omega, rfl, New.refl _⟩
    case round =>
      obtain ⟨m, hm8, rfl, hnr⟩ := hrel
      obtain ⟨hc3, hf3⟩ := New.cells hnr
      have hs3 := New.size hnr
      try simp only [World.size_alloc, size_drewN, size_drew, size_setCell] at hc3 hf3 hs3
      try have hz3_w : w.heap.size < wr.heap.size := by omega
      try have hz3_wM : wM.heap.size < wr.heap.size := by omega
      by_cases hlt : m < 8
      · have hf : fineB a b c g (m : Int) = true := fineB_iff.2 ⟨hmm, by omega, by omega⟩
        have q : Hid (callE a b c g true (m : Int) o = if a ≤ (m : Int) ∧ (m : Int) ≤ c then if (m : Int) ≤ b then ((m : Int), 0) else if 0 ≤ o ∧ o < g then (b, 0) else (0, 11) else (0, 10)) := by
          unfold callE Hid; rw [if_pos hf, if_pos rfl]
        have qx : Hid (execE a b c g true (m : Int) = if a ≤ (m : Int) ∧ (m : Int) ≤ b then 0 else 10) := by
          unfold execE Hid; rw [if_pos hf, if_pos rfl]
        have qb : Hid (execE a b c g true b = 0) := by
          unfold execE Hid; rw [if_pos (fineB_iff.2 ⟨hmm, by omega, by omega⟩), if_pos rfl, if_pos (by omega)]
        clear hf
        by_cases c1 : (m : Int) < a
        · go_wp2_with fail
          refine (call_any _ _ _ _ _ _ _ _ _ _).mono ?_
          rintro e w4 ⟨rfl, hn4⟩
          obtain ⟨hc4, hf4⟩ := New.cells hn4
          have hs4 := New.size hn4
          try simp only [World.size_alloc, size_drewN, size_drew, size_setCell] at hc4 hf4 hs4
          try have hz4_w : w.heap.size < w4.heap.size := by omega
          try have hz4_wM : wM.heap.size < w4.heap.size := by omega
          rw [q.out, if_neg (by omega)]
          go_wp2_with fail
          go_roundw
          case rel => exact ⟨m + 1, by omega, by go_num, by (repeat (first | exact New.refl _ | (refine New.step ?_ (by assumption)) | apply New.alloc | apply New.drewN | apply New.drew))⟩
          case measure => simp [intOf]; omega
        by_cases c2 : c < (m : Int)
        · go_wp2_with fail
          refine (call_any _ _ _ _ _ _ _ _ _ _).mono ?_
          rintro e w5 ⟨rfl, hn5⟩
          obtain ⟨hc5, hf5⟩ := New.cells hn5
          have hs5 := New.size hn5
          try simp only [World.size_alloc, size_drewN, size_drew, size_setCell] at hc5 hf5 hs5
          try have hz5_w : w.heap.size < w5.heap.size := by omega
          try have hz5_wM : wM.heap.size < w5.heap.size := by omega
          rw [q.out, if_neg (by omega)]
          go_wp2_with fail
          go_roundw
          case rel => exact ⟨m + 1, by omega, by go_num, by (repeat (first | exact New.refl _ | (refine New.step ?_ (by assumption)) | apply New.alloc | apply New.drewN | apply New.drew))⟩
          case measure => simp [intOf]; omega
        by_cases c3 : (m : Int) ≤ b
        · go_wp2_with fail
          refine (call_any _ _ _ _ _ _ _ _ _ _).mono ?_
          rintro e w6 ⟨rfl, hn6⟩
          obtain ⟨hc6, hf6⟩ := New.cells hn6
          have hs6 := New.size hn6
          try simp only [World.size_alloc, size_drewN, size_drew, size_setCell] at hc6 hf6 hs6
          try have hz6_w : w.heap.size < w6.heap.size := by omega
          try have hz6_wM : wM.heap.size < w6.heap.size := by omega
          rw [q.out, if_pos (by omega), if_pos c3]
          go_wp2_with fail
          refine (exec_any _ _ _ _ _ _ _ _ _).mono ?_
          rintro e w7 ⟨rfl, hn7⟩
          obtain ⟨hc7, hf7⟩ := New.cells hn7
          have hs7 := New.size hn7
          try simp only [World.size_alloc, size_drewN, size_drew, size_setCell] at hc7 hf7 hs7
          try have hz7_w : w.heap.size < w7.heap.size := by omega
          try have hz7_wM : wM.heap.size < w7.heap.size := by omega
          rw [qx.out, if_pos (by omega)]
          go_wp2_with fail
          go_roundw
          case rel => exact ⟨m + 1, by omega, by go_num, by (repeat (first | exact New.refl _ | (refine New.step ?_ (by assumption)) | apply New.alloc | apply New.drewN | apply New.drew))⟩
          case measure => simp [intOf]; omega
        by_cases c4 : o < g
        · go_wp2_with fail
          refine (call_any _ _ _ _ _ _ _ _ _ _).mono ?_
          rintro e w8 ⟨rfl, hn8⟩
          obtain ⟨hc8, hf8⟩ := New.cells hn8
          have hs8 := New.size hn8
          try simp only [World.size_alloc, size_drewN, size_drew, size_setCell] at hc8 hf8 hs8
          try have hz8_w : w.heap.size < w8.heap.size := by omega
          try have hz8_wM : wM.heap.size < w8.heap.size := by omega
          rw [q.out, if_pos (by omega), if_neg (by omega), if_pos ⟨o0, c4⟩]
          go_wp2_with fail
          refine (exec_any _ _ _ _ _ _ _ _ _).mono ?_
          rintro e w9 ⟨rfl, hn9⟩
          obtain ⟨hc9, hf9⟩ := New.cells hn9
          have hs9 := New.size hn9
          try simp only [World.size_alloc, size_drewN, size_drew, size_setCell] at hc9 hf9 hs9
          try have hz9_w : w.heap.size < w9.heap.size := by omega
          try have hz9_wM : wM.heap.size < w9.heap.size := by omega
          rw [qx.out, if_neg (by omega)]
          go_wp2_with fail
          refine (exec_any _ _ _ _ _ _ _ _ _).mono ?_
          rintro e w10 ⟨rfl, hn10⟩
          obtain ⟨hc10, hf10⟩ := New.cells hn10
          have hs10 := New.size hn10
          try simp only [World.size_alloc, size_drewN, size_drew, size_setCell] at hc10 hf10 hs10
          try have hz10_w : w.heap.size < w10.heap.size := by omega
          try have hz10_wM : wM.heap.size < w10.heap.size := by omega
          rw [qb.out]
          go_wp2_with fail
          go_roundw
          case rel => exact ⟨m + 1, by omega, by go_num, by (repeat (first | exact New.refl _ | (refine New.step ?_ (by assumption)) | apply New.alloc | apply New.drewN | apply New.drew))⟩
          case measure => simp [intOf]; omega
        · go_wp2_with fail
          refine (call_any _ _ _ _ _ _ _ _ _ _).mono ?_
          rintro e w11 ⟨rfl, hn11⟩
          obtain ⟨hc11, hf11⟩ := New.cells hn11
          have hs11 := New.size hn11
          try simp only [World.size_alloc, size_drewN, size_drew, size_setCell] at hc11 hf11 hs11
          try have hz11_w : w.heap.size < w11.heap.size := by omega
          try have hz11_wM : wM.heap.size < w11.heap.size := by omega
          rw [q.out, if_pos (by omega), if_neg (by omega), if_neg (by omega)]
          go_wp2_with fail
          refine (exec_any _ _ _ _ _ _ _ _ _).mono ?_
          rintro e w12 ⟨rfl, hn12⟩
          obtain ⟨hc12, hf12⟩ := New.cells hn12
          have hs12 := New.size hn12
          try simp only [World.size_alloc, size_drewN, size_drew, size_setCell] at hc12 hf12 hs12
          try have hz12_w : w.heap.size < w12.heap.size := by omega
          try have hz12_wM : wM.heap.size < w12.heap.size := by omega
          rw [qx.out, if_neg (by omega)]
          go_wp2_with fail
          go_roundw
          case rel => exact ⟨m + 1, by omega, by go_num, by (repeat (first | exact New.refl _ | (refine New.step ?_ (by assumption)) | apply New.alloc | apply New.drewN | apply New.drew))⟩
          case measure => simp [intOf]; omega
      · go_wp2_with fail
        go_ret
        refine ⟨rfl, ?_⟩
        (repeat (first | exact New.refl _ | (refine New.step ?_ (by assumption)) | apply New.alloc | apply New.drewN | apply New.drew))
  · have hm' : mayB a b c g = false := by simpa using hm
    go_enter Try.func9, Try.ntmps9
    go_wp2_with fail
    refine (awake_any _).mono ?_
    rintro e w13 ⟨rfl, hn13⟩
    obtain ⟨hc13, hf13⟩ := New.cells hn13
    have hs13 := New.size hn13
    try simp only [World.size_alloc, size_drewN, size_drew, size_setCell] at hc13 hf13 hs13
    try have hz13_w : w.heap.size < w13.heap.size := by omega
    go_wp2_with fail
    refine (refMay_any _ _ _ _ _).mono ?_
    rintro e w14 ⟨rfl, hn14⟩
    obtain ⟨hc14, hf14⟩ := New.cells hn14
    have hs14 := New.size hn14
    try simp only [World.size_alloc, size_drewN, size_drew, size_setCell] at hc14 hf14 hs14
    try have hz14_w : w.heap.size < w14.heap.size := by omega
    rw [hm']
    go_wp2_with fail
    refine (may_any _ _ _ _ _).mono ?_
    rintro e w15 ⟨rfl, hn15⟩
    obtain ⟨hc15, hf15⟩ := New.cells hn15
    have hs15 := New.size hn15
    try simp only [World.size_alloc, size_drewN, size_drew, size_setCell] at hc15 hf15 hs15
    try have hz15_w : w.heap.size < w15.heap.size := by omega
    rw [hm']
    go_wp2
    go_ret
    refine ⟨rfl, ?_⟩
    (repeat (first | exact New.refl _ | (refine New.step ?_ (by assumption)) | apply New.alloc | apply New.drewN | apply New.drew))
theorem ringAll_row {H : Type} {enc : TypeId × Value → H} (W : World) {base : Nat}
    (v0 : Value) (d0 : DataW H) (p0 : List MemPlace) (k0 : Value.okWide Try.prog W .any base 23 v0) (h0 : DataW.Trod enc Try.prog W 0 (fun _ => true) true 23 v0 d0 p0) (l0 : ∀ x ∈ p0, x.block < W.heap.size)
    (v1 : Value) (d1 : DataW H) (p1 : List MemPlace) (k1 : Value.okWide Try.prog W .any base 5 v1) (h1 : DataW.Trod enc Try.prog W 0 (fun _ => true) true 5 v1 d1 p1) (l1 : ∀ x ∈ p1, x.block < W.heap.size)
    : Calls Try.prog 9 #[v0, v1] W fun e W' => e = .returned (.bool true) ∧ Below W.heap.size W W' := by
  obtain ⟨a, b, c, g, rfl, _⟩ := open_br k0 h0
  obtain ⟨o, rfl, rfl, rfl, wo⟩ := open_int Try.underlying5 k1 h1
  have hr := wf_u8 wo
  exact ringAll_walk a b c g o hr.1 hr.2 W
end Go.Proofs.Ytgdocnejieaogaa.Law
