/- The walk of RingFalls. -/
import Derived.Test.YtgdocnejieaogaaRingAwake
namespace Go.Proofs.Ytgdocnejieaogaa.Law
open Go Go.RowKit Go.ChangeShapes Go.WideShapes Go.Proofs.Ytgdocnejieaogaa.Kit Go.Proofs.Ytgdocnejieaogaa.Ring
set_option linter.unusedSimpArgs false
set_option linter.unusedVariables false

theorem ringFalls_walk (a b c g : Int) (fr fw fe : Bool) (r o : Int) (w : World) :
    Calls Try.prog 6 #[br a b c g, fl fr fw fe, .agg #[.int .i64 r, .int .i64 o]] w fun e w' => e = .returned (.bool true) ∧ New w w' := by
  obtain ⟨t, e, hte⟩ : ∃ t e, callE a b c g fe r o = (t, e) := ⟨_, _, rfl⟩
  have HT := hid hte
  by_cases he : e = 0
  · subst he
    unfold callE at hte
    split at hte
    · rename_i hf
      have hff := fineB_iff.1 hf
      cases fe
      · rw [if_neg (by decide)] at hte; simp at hte
      rw [if_pos rfl] at hte
      split at hte
      · rename_i h1
        split at hte
        · rename_i h2
          simp only [Prod.mk.injEq] at hte
          obtain ⟨rfl, _⟩ := hte
          have hx : Hid (execE a b c g true r = 0) := by
            unfold execE Hid
            rw [if_pos hf, if_pos rfl, if_pos ⟨h1.1, h2⟩]
          clear hf
          go_enter Try.func6, Try.ntmps6
          go_wp2_with fail
          refine (awake_any _).mono ?_
          rintro e w1 ⟨rfl, hn1⟩
          obtain ⟨hc1, hf1⟩ := New.cells hn1
          have hs1 := New.size hn1
          try simp only [World.size_alloc, size_drewN, size_drew, size_setCell] at hc1 hf1 hs1
          try have hz1_w_1 : w.heap.size + 1 < w1.heap.size := by omega
          try have hz1_w_2 : w.heap.size + 2 < w1.heap.size := by omega
          try have hz1_w : w.heap.size < w1.heap.size := by omega
          go_wp2_with fail
          refine (call_any _ _ _ _ _ _ _ _ _ _).mono ?_
          rintro e w2 ⟨rfl, hn2⟩
          obtain ⟨hc2, hf2⟩ := New.cells hn2
          have hs2 := New.size hn2
          try simp only [World.size_alloc, size_drewN, size_drew, size_setCell] at hc2 hf2 hs2
          try have hz2_w_1 : w.heap.size + 1 < w2.heap.size := by omega
          try have hz2_w_2 : w.heap.size + 2 < w2.heap.size := by omega
          try have hz2_w : w.heap.size < w2.heap.size := by omega
          rw [HT.out]
          go_wp2_with fail
          refine (exec_any _ _ _ _ _ _ _ _ _).mono ?_
          rintro e w3 ⟨rfl, hn3⟩
          obtain ⟨hc3, hf3⟩ := New.cells hn3
          have hs3 := New.size hn3
          try simp only [World.size_alloc, size_drewN, size_drew, size_setCell] at hc3 hf3 hs3
          try have hz3_w_1 : w.heap.size + 1 < w3.heap.size := by omega
          try have hz3_w_2 : w.heap.size + 2 < w3.heap.size := by omega
          try have hz3_w : w.heap.size < w3.heap.size := by omega
          rw [hx.out]
          go_wp2
          go_ret
          refine ⟨rfl, ?_⟩
          (repeat (first | exact New.refl _ | (refine New.step ?_ (by assumption)) | apply New.alloc | apply New.drewN | apply New.drew))
        · split at hte
          · rename_i h2 h3
            simp only [Prod.mk.injEq] at hte
            obtain ⟨rfl, _⟩ := hte
            clear hf
            go_enter Try.func6, Try.ntmps6
            go_wp2_with fail
            refine (awake_any _).mono ?_
            rintro e w4 ⟨rfl, hn4⟩
            obtain ⟨hc4, hf4⟩ := New.cells hn4
            have hs4 := New.size hn4
            try simp only [World.size_alloc, size_drewN, size_drew, size_setCell] at hc4 hf4 hs4
            try have hz4_w_1 : w.heap.size + 1 < w4.heap.size := by omega
            try have hz4_w_2 : w.heap.size + 2 < w4.heap.size := by omega
            try have hz4_w : w.heap.size < w4.heap.size := by omega
            go_wp2_with fail
            refine (call_any _ _ _ _ _ _ _ _ _ _).mono ?_
            rintro e w5 ⟨rfl, hn5⟩
            obtain ⟨hc5, hf5⟩ := New.cells hn5
            have hs5 := New.size hn5
            try simp only [World.size_alloc, size_drewN, size_drew, size_setCell] at hc5 hf5 hs5
            try have hz5_w_1 : w.heap.size + 1 < w5.heap.size := by omega
            try have hz5_w_2 : w.heap.size + 2 < w5.heap.size := by omega
            try have hz5_w : w.heap.size < w5.heap.size := by omega
            rw [HT.out]
            go_wp2
            all_goals
              go_ret
              refine ⟨ret_bool (by simp; try omega), ?_⟩
              (repeat (first | exact New.refl _ | (refine New.step ?_ (by assumption)) | apply New.alloc | apply New.drewN | apply New.drew))
          · simp at hte
      · simp at hte
    · simp at hte
  · have ht : t = 0 := by
      unfold callE at hte
      split at hte
      · split at hte
        · split at hte
          · split at hte
            · simp only [Prod.mk.injEq] at hte; omega
            · split at hte
              · simp only [Prod.mk.injEq] at hte; omega
              · simp only [Prod.mk.injEq] at hte; omega
          · simp only [Prod.mk.injEq] at hte; omega
        · simp only [Prod.mk.injEq] at hte; omega
      · simp only [Prod.mk.injEq] at hte; omega
    subst ht
    clear hte
    have he' : (e != 0) = true := by simpa using he
    go_enter Try.func6, Try.ntmps6
    go_wp2_with fail
    refine (awake_any _).mono ?_
    rintro e w6 ⟨rfl, hn6⟩
    obtain ⟨hc6, hf6⟩ := New.cells hn6
    have hs6 := New.size hn6
    try simp only [World.size_alloc, size_drewN, size_drew, size_setCell] at hc6 hf6 hs6
    try have hz6_w_1 : w.heap.size + 1 < w6.heap.size := by omega
    try have hz6_w_2 : w.heap.size + 2 < w6.heap.size := by omega
    try have hz6_w : w.heap.size < w6.heap.size := by omega
    go_wp2_with fail
    refine (call_any _ _ _ _ _ _ _ _ _ _).mono ?_
    rintro e w7 ⟨rfl, hn7⟩
    obtain ⟨hc7, hf7⟩ := New.cells hn7
    have hs7 := New.size hn7
    try simp only [World.size_alloc, size_drewN, size_drew, size_setCell] at hc7 hf7 hs7
    try have hz7_w_1 : w.heap.size + 1 < w7.heap.size := by omega
    try have hz7_w_2 : w.heap.size + 2 < w7.heap.size := by omega
    try have hz7_w : w.heap.size < w7.heap.size := by omega
    rw [HT.out]
    go_wp2
    go_ret
    refine ⟨rfl, ?_⟩
    (repeat (first | exact New.refl _ | (refine New.step ?_ (by assumption)) | apply New.alloc | apply New.drewN | apply New.drew))
theorem ringFalls_row {H : Type} {enc : TypeId × Value → H} (W : World) {base : Nat}
    (v0 : Value) (d0 : DataW H) (p0 : List MemPlace) (k0 : Value.okWide Try.prog W .any base 23 v0) (h0 : DataW.Trod enc Try.prog W 0 (fun _ => true) true 23 v0 d0 p0) (l0 : ∀ x ∈ p0, x.block < W.heap.size)
    (v1 : Value) (d1 : DataW H) (p1 : List MemPlace) (k1 : Value.okWide Try.prog W .any base 25 v1) (h1 : DataW.Trod enc Try.prog W 0 (fun _ => true) true 25 v1 d1 p1) (l1 : ∀ x ∈ p1, x.block < W.heap.size)
    (v2 : Value) (d2 : DataW H) (p2 : List MemPlace) (k2 : Value.okWide Try.prog W .any base 35 v2) (h2 : DataW.Trod enc Try.prog W 0 (fun _ => true) true 35 v2 d2 p2) (l2 : ∀ x ∈ p2, x.block < W.heap.size)
    : Calls Try.prog 6 #[v0, v1, v2] W fun e W' => e = .returned (.bool true) ∧ Below W.heap.size W W' := by
  obtain ⟨a, b, c, g, rfl, _⟩ := open_br k0 h0
  obtain ⟨fr, fw, fe, rfl⟩ := open_fl k1 h1
  obtain ⟨l, rfl, hl, hw⟩ := Open.open_arr Try.underlying35 Try.underlying3 (by kernel_rfl) (by kernel_rfl) k2 h2
  obtain ⟨n0, n1, rfl⟩ := Open.list2 hl
  exact ringFalls_walk a b c g fr fw fe n0 n1 W
end Go.Proofs.Ytgdocnejieaogaa.Law
