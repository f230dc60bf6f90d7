/- The walk of RingBack. -/
import Derived.Test.YtgdocnejieaogaaRingAwake
namespace Go.Proofs.Ytgdocnejieaogaa.Law
open Go Go.RowKit Go.ChangeShapes Go.WideShapes Go.Proofs.Ytgdocnejieaogaa.Kit Go.Proofs.Ytgdocnejieaogaa.Ring
set_option linter.unusedSimpArgs false
set_option linter.unusedVariables false

theorem call_yes {a b c g r o t : Int} (h : callE a b c g true r o = (t, 0)) : 0 ≤ t ∧ t ≤ r ∧ r ≤ 7 := by
  unfold callE at h
  split at h
  · rename_i hf
    have := fineB_iff.1 hf
    rw [if_pos rfl] at h
    split at h
    · split at h
      · simp only [Prod.mk.injEq] at h; omega
      · split at h
        · simp only [Prod.mk.injEq] at h; omega
        · simp only [Prod.mk.injEq] at h; omega
    · simp only [Prod.mk.injEq] at h; omega
  · simp only [Prod.mk.injEq] at h; omega
theorem cutZ_id {r : Int} (h0 : 0 ≤ r) (h7 : r ≤ 7) : cutZ r = r := by unfold cutZ; omega

theorem ringBack_walk (a b c g n0 n1 n2 : Int) (r0 : 0 ≤ n0) (r1 : n0 < 256) (s0 : 0 ≤ n1) (s1 : n1 < 256) (t0 : 0 ≤ n2) (t1 : n2 < 256) (w : World) :
    Calls Try.prog 4 #[br a b c g, .agg #[.int .u8 n0, .int .u8 n1, .int .u8 n2]] w fun e w' => e = .returned (.bool true) ∧ New w w' := by
  obtain ⟨t, e, hte⟩ : ∃ t e, callE a b c g true (n0 % 8) (n1 % 4) = (t, e) := ⟨_, _, rfl⟩
  have HT := hid hte
  clear hte
  by_cases he : e = 0
  · subst he
    have hy := call_yes HT.out
    have c1 := hid (cutZ_id (r := t) (by omega) (by omega))
    have c2 := hid (cutZ_id (r := n0 % 8) (by omega) (by omega))
    have c3 := hid (cutZ_id (r := n2 % 8) (by omega) (by omega))
    go_enter Try.func4, Try.ntmps4
    go_wp2_with fail
    refine (awake_any _).mono ?_
    rintro e w1 ⟨rfl, hn1⟩
    obtain ⟨hc1, hf1⟩ := New.cells hn1
    have hs1 := New.size hn1
    try simp only [World.size_alloc, size_drewN, size_drew, size_setCell] at hc1 hf1 hs1
    try have hz1_w_1 : w.heap.size + 1 < w1.heap.size := by omega
    try have hz1_w : w.heap.size < w1.heap.size := by omega
    go_wp2_with fail
    go_quiet (fail)
    go_wp2_with fail
    refine (call_any _ _ _ _ _ _ _ _ _ _).mono ?_
    rintro e w2 ⟨rfl, hn2⟩
    obtain ⟨hc2, hf2⟩ := New.cells hn2
    have hs2 := New.size hn2
    try simp only [World.size_alloc, size_drewN, size_drew, size_setCell] at hc2 hf2 hs2
    try have hz2_w_1 : w.heap.size + 1 < w2.heap.size := by omega
    try have hz2_w : w.heap.size < w2.heap.size := by omega
    rw [HT.out]
    go_wp2_with fail
    refine (return_any _ _ _).mono ?_
    rintro e w' ⟨rfl, rfl⟩
    rw [c1.out, c2.out]
    go_wp2_with fail
    refine (return_any _ _ _).mono ?_
    rintro e w' ⟨rfl, rfl⟩
    rw [c1.out, c3.out]
    go_wp2
    all_goals
      go_ret
      refine ⟨ret_bool (by simp; try omega), ?_⟩
      (repeat (first | exact New.refl _ | (refine New.step ?_ (by assumption)) | apply New.alloc | apply New.drewN | apply New.drew))
  · have he' : (e != 0) = true := by simpa using he
    go_enter Try.func4, Try.ntmps4
    go_wp2_with fail
    refine (awake_any _).mono ?_
    rintro e w3 ⟨rfl, hn3⟩
    obtain ⟨hc3, hf3⟩ := New.cells hn3
    have hs3 := New.size hn3
    try simp only [World.size_alloc, size_drewN, size_drew, size_setCell] at hc3 hf3 hs3
    try have hz3_w_1 : w.heap.size + 1 < w3.heap.size := by omega
    try have hz3_w : w.heap.size < w3.heap.size := by omega
    go_wp2_with fail
    go_quiet (fail)
    go_wp2_with fail
    refine (call_any _ _ _ _ _ _ _ _ _ _).mono ?_
    rintro e w4 ⟨rfl, hn4⟩
    obtain ⟨hc4, hf4⟩ := New.cells hn4
    have hs4 := New.size hn4
    try simp only [World.size_alloc, size_drewN, size_drew, size_setCell] at hc4 hf4 hs4
    try have hz4_w_1 : w.heap.size + 1 < w4.heap.size := by omega
    try have hz4_w : w.heap.size < w4.heap.size := by omega
    rw [HT.out]
    go_wp2
    go_ret
    refine ⟨rfl, ?_⟩
    (repeat (first | exact New.refl _ | (refine New.step ?_ (by assumption)) | apply New.alloc | apply New.drewN | apply New.drew))
theorem ringBack_row {H : Type} {enc : TypeId × Value → H} (W : World) {base : Nat}
    (v0 : Value) (d0 : DataW H) (p0 : List MemPlace) (k0 : Value.okWide Try.prog W .any base 23 v0) (h0 : DataW.Trod enc Try.prog W 0 (fun _ => true) true 23 v0 d0 p0) (l0 : ∀ x ∈ p0, x.block < W.heap.size)
    (v1 : Value) (d1 : DataW H) (p1 : List MemPlace) (k1 : Value.okWide Try.prog W .any base 30 v1) (h1 : DataW.Trod enc Try.prog W 0 (fun _ => true) true 30 v1 d1 p1) (l1 : ∀ x ∈ p1, x.block < W.heap.size)
    : Calls Try.prog 4 #[v0, v1] W fun e W' => e = .returned (.bool true) ∧ Below W.heap.size W W' := by
  obtain ⟨a, b, c, g, rfl, _⟩ := open_br k0 h0
  obtain ⟨l, rfl, hl, hw⟩ := Open.open_arr Try.underlying30 Try.underlying5 (by kernel_rfl) (by kernel_rfl) k1 h1
  obtain ⟨n0, n1, n2, rfl⟩ := Open.list3 hl
  have a' := wf_u8 (hw n0 (by simp))
  have b' := wf_u8 (hw n1 (by simp))
  have c' := wf_u8 (hw n2 (by simp))
  exact ringBack_walk a b c g n0 n1 n2 a'.1 a'.2 b'.1 b'.2 c'.1 c'.2 W
end Go.Proofs.Ytgdocnejieaogaa.Law
