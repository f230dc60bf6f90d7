/- The walk of RingOver. -/
import Derived.Test.YtgdocnejieaogaaRingAwake
import Derived.BigQuiet
import Derived.Deep.CutRange
namespace Go.Proofs.Ytgdocnejieaogaa.Law
open Go Go.RowKit Go.ChangeShapes Go.WideShapes Go.Proofs.Ytgdocnejieaogaa.Kit Go.Proofs.Ytgdocnejieaogaa.Ring
set_option linter.unusedSimpArgs false
set_option linter.unusedVariables false
theorem readE_less {a b c g r : Int} {l f : Bool} (h : l = true → f = true) (h0 : readE a b c g l r = 0) : readE a b c g f r = 0 := by
  unfold readE at h0 ⊢
  by_cases h1 : fineB a b c g r = true
  · rw [if_pos h1] at h0 ⊢
    by_cases h2 : l = true
    · rw [if_pos h2] at h0
      rw [if_pos (h h2)]; exact h0
    · rw [if_neg h2] at h0; exact absurd h0 (by decide)
  · rw [if_neg h1] at h0; exact absurd h0 (by decide)
theorem writeE_less {a b c g r : Int} {l f : Bool} (h : l = true → f = true) (h0 : writeE a b c g l r = 0) : writeE a b c g f r = 0 := by
  unfold writeE at h0 ⊢
  by_cases h1 : fineB a b c g r = true
  · rw [if_pos h1] at h0 ⊢
    by_cases h2 : l = true
    · rw [if_pos h2] at h0
      rw [if_pos (h h2)]; exact h0
    · rw [if_neg h2] at h0; exact absurd h0 (by decide)
  · rw [if_neg h1] at h0; exact absurd h0 (by decide)
theorem execE_less {a b c g r : Int} {l f : Bool} (h : l = true → f = true) (h0 : execE a b c g l r = 0) : execE a b c g f r = 0 := by
  unfold execE at h0 ⊢
  by_cases h1 : fineB a b c g r = true
  · rw [if_pos h1] at h0 ⊢
    by_cases h2 : l = true
    · rw [if_pos h2] at h0
      rw [if_pos (h h2)]; exact h0
    · rw [if_neg h2] at h0; exact absurd h0 (by decide)
  · rw [if_neg h1] at h0; exact absurd h0 (by decide)
theorem fine_wide {a b c g r : Int} (hm : mayB a b c g = true) : fineB a c c g r = fineB a b c g r := by
  have h := mayB_iff.1 hm
  rw [Bool.eq_iff_iff, fineB_iff, fineB_iff]
  omega
theorem readE_wide {a b c g r : Int} {f : Bool} (hm : mayB a b c g = true) (h0 : readE a b c g f r = 0) : readE a c c g f r = 0 := by
  have h := mayB_iff.1 hm
  unfold readE at h0 ⊢
  rw [fine_wide hm]
  split at h0
  · rename_i h1
    split at h0
    · rename_i h2
      split at h0
      · rename_i h3
        rw [if_pos h1, if_pos h2, if_pos (by omega)]
      · exact absurd h0 (by decide)
    · exact absurd h0 (by decide)
  · exact absurd h0 (by decide)
theorem execE_wide {a b c g r : Int} {f : Bool} (hm : mayB a b c g = true) (h0 : execE a b c g f r = 0) : execE a c c g f r = 0 := by
  have h := mayB_iff.1 hm
  unfold execE at h0 ⊢
  rw [fine_wide hm]
  split at h0
  · rename_i h1
    split at h0
    · rename_i h2
      split at h0
      · rename_i h3
        rw [if_pos h1, if_pos h2, if_pos (by omega)]
      · exact absurd h0 (by decide)
    · exact absurd h0 (by decide)
  · exact absurd h0 (by decide)
theorem writeE_wide {a b c g r : Int} {f : Bool} (hm : mayB a b c g = true) : writeE a c c g f r = writeE a b c g f r := by
  unfold writeE
  rw [fine_wide hm]
set_option maxRecDepth 100000 in
set_option maxHeartbeats 4000000 in
theorem ringOver_walk (a b c g : Int) (fr fw fe : Bool) (r o : Int) (w : World) :
    Calls Try.prog 8 #[br a b c g, fl fr fw fe, .agg #[.int .i64 r, .int .i64 o]] w fun e w' => e = .returned (.bool true) ∧ New w w' := by
  by_cases hm : mayB a b c g = true
  · have hmm := mayB_iff.1 hm
    go_enter Try.func8, Try.ntmps8
    go_wp2_with fail
    refine (awake_any _).mono ?_
    rintro e w1 ⟨rfl, hn1⟩
    obtain ⟨hc1, hf1⟩ := New.cells hn1
    have hs1 := New.size hn1
    try simp only [World.size_alloc, size_drewN, size_drew, size_setCell] at hc1 hf1 hs1
    try have hz1_w_1 : w.heap.size + 1 < w1.heap.size := by omega
    try have hz1_w_2 : w.heap.size + 2 < w1.heap.size := by omega
    try have hz1_w : w.heap.size < w1.heap.size := by omega
    go_wp2_with fail
    refine (refMay_any _ _ _ _ _).mono ?_
    rintro e wM ⟨rfl, hnM⟩
    obtain ⟨hcM, hfM⟩ := New.cells hnM
    have hsM := New.size hnM
    try simp only [World.size_alloc, size_drewN, size_drew, size_setCell] at hcM hfM hsM
    try have hzM_w_1 : w.heap.size + 1 < wM.heap.size := by omega
    try have hzM_w_2 : w.heap.size + 2 < wM.heap.size := by omega
    try have hzM_w : w.heap.size < wM.heap.size := by omega
    rw [hm]
    have kb0 : wM.cell? ⟨w.heap.size, 0, none⟩ = some (.int .i64 a) := by go_simp
    have kb1 : wM.cell? ⟨w.heap.size, 1, none⟩ = some (.int .i64 b) := by go_simp
    have kb2 : wM.cell? ⟨w.heap.size, 2, none⟩ = some (.int .i64 c) := by go_simp
    have kb3 : wM.cell? ⟨w.heap.size, 3, none⟩ = some (.int .i64 g) := by go_simp
    have kf0 : wM.cell? ⟨w.heap.size + 1, 0, none⟩ = some (.bool fr) := by go_simp
    have kf1 : wM.cell? ⟨w.heap.size + 1, 1, none⟩ = some (.bool fw) := by go_simp
    have kf2 : wM.cell? ⟨w.heap.size + 1, 2, none⟩ = some (.bool fe) := by go_simp
    have ko0 : wM.cell? ⟨w.heap.size + 1 + 1, 0, none⟩ = some (.int .i64 r) := by go_simp
    have ko1 : wM.cell? ⟨w.heap.size + 1 + 1, 1, none⟩ = some (.int .i64 o) := by go_simp
    have hnow : New w wM := by (repeat (first | exact New.refl _ | (refine New.step ?_ (by assumption)) | apply New.alloc | apply New.drewN | apply New.drew))
    go_upto_region 5 with fail
    go_cut [7] from 15 to 39 (fun q wx => q = .pointer (some ⟨wM.heap.size, 0, none⟩) ∧ ∃ lr lw le : Bool, (lr = true → fr = true) ∧ (lw = true → fw = true) ∧ (le = true → fe = true) ∧ wx = wM.alloc (.cells #[.bool lr, .bool lw, .bool le] 25))
    case first =>
      cases fr <;> cases fw <;> cases fe
      all_goals
        go_wp2_with fail
        go_meet
        exact ⟨rfl, _, _, _, by simp, by simp, by simp, rfl⟩
    case rest =>
      obtain ⟨rfl, lr, lw, le, hlr, hlw, hle, rfl⟩ := hcut
      have kb0L : (wM.alloc (.cells #[.bool lr, .bool lw, .bool le] 25)).cell? ⟨w.heap.size, 0, none⟩ = some (.int .i64 a) := by go_simp
      have kb1L : (wM.alloc (.cells #[.bool lr, .bool lw, .bool le] 25)).cell? ⟨w.heap.size, 1, none⟩ = some (.int .i64 b) := by go_simp
      have kb2L : (wM.alloc (.cells #[.bool lr, .bool lw, .bool le] 25)).cell? ⟨w.heap.size, 2, none⟩ = some (.int .i64 c) := by go_simp
      have kb3L : (wM.alloc (.cells #[.bool lr, .bool lw, .bool le] 25)).cell? ⟨w.heap.size, 3, none⟩ = some (.int .i64 g) := by go_simp
      have kf0L : (wM.alloc (.cells #[.bool lr, .bool lw, .bool le] 25)).cell? ⟨w.heap.size + 1, 0, none⟩ = some (.bool fr) := by go_simp
      have kf1L : (wM.alloc (.cells #[.bool lr, .bool lw, .bool le] 25)).cell? ⟨w.heap.size + 1, 1, none⟩ = some (.bool fw) := by go_simp
      have kf2L : (wM.alloc (.cells #[.bool lr, .bool lw, .bool le] 25)).cell? ⟨w.heap.size + 1, 2, none⟩ = some (.bool fe) := by go_simp
      have ko0L : (wM.alloc (.cells #[.bool lr, .bool lw, .bool le] 25)).cell? ⟨w.heap.size + 1 + 1, 0, none⟩ = some (.int .i64 r) := by go_simp
      have ko1L : (wM.alloc (.cells #[.bool lr, .bool lw, .bool le] 25)).cell? ⟨w.heap.size + 1 + 1, 1, none⟩ = some (.int .i64 o) := by go_simp
      have kl0 : (wM.alloc (.cells #[.bool lr, .bool lw, .bool le] 25)).cell? ⟨wM.heap.size, 0, none⟩ = some (.bool lr) := by go_simp
      have kl1 : (wM.alloc (.cells #[.bool lr, .bool lw, .bool le] 25)).cell? ⟨wM.heap.size, 1, none⟩ = some (.bool lw) := by go_simp
      have kl2 : (wM.alloc (.cells #[.bool lr, .bool lw, .bool le] 25)).cell? ⟨wM.heap.size, 2, none⟩ = some (.bool le) := by go_simp
      have hnowL : New w (wM.alloc (.cells #[.bool lr, .bool lw, .bool le] 25)) := hnow.alloc _
      have hzL0 : w.heap.size < (wM.alloc (.cells #[.bool lr, .bool lw, .bool le] 25)).heap.size := by rw [World.size_alloc]; omega
      have hzL1 : w.heap.size + 1 < (wM.alloc (.cells #[.bool lr, .bool lw, .bool le] 25)).heap.size := by rw [World.size_alloc]; omega
      have hzL2 : w.heap.size + 1 + 1 < (wM.alloc (.cells #[.bool lr, .bool lw, .bool le] 25)).heap.size := by rw [World.size_alloc]; omega
      have hzL3 : wM.heap.size < (wM.alloc (.cells #[.bool lr, .bool lw, .bool le] 25)).heap.size := by rw [World.size_alloc]; omega
      generalize (wM.alloc (.cells #[.bool lr, .bool lw, .bool le] 25)) = wL at *
      generalize wM.heap.size = gL at *
      clear hcM hfM hsM hnM hc1 hf1 hs1 hn1 kb0 kb1 kb2 kb3 kf0 kf1 kf2 ko0 ko1 hnow
      have qr1 := fun X => read_any a b c g lr lw le r X
      have qr2 := fun X => read_any a b c g fr fw fe r X
      have qw1 := fun X => write_any a b c g lr lw le r X
      have qw2 := fun X => write_any a b c g fr fw fe r X
      have qe1 := fun X => exec_any a b c g lr lw le r X
      have qe2 := fun X => exec_any a b c g fr fw fe r X
      have hR := readE_less (a := a) (b := b) (c := c) (g := g) (r := r) hlr
      have hW := writeE_less (a := a) (b := b) (c := c) (g := g) (r := r) hlw
      have hE := execE_less (a := a) (b := b) (c := c) (g := g) (r := r) hle
      clear hlr hlw hle
      go_upto_region 7 with fail
      go_cut [81] from 42 to 80 (fun q wx => q = .bool false ∧ New wL wx)
      case first =>
        generalize readE a b c g lr r = R1 at qr1 hR
        generalize readE a b c g fr r = R2 at qr2 hR
        generalize writeE a b c g lw r = W1 at qw1 hW
        generalize writeE a b c g fw r = W2 at qw2 hW
        generalize execE a b c g le r = E1 at qe1 hE
        generalize execE a b c g fe r = E2 at qe2 hE
        have QQ := hid (And.intro qr1 (And.intro qr2 (And.intro qw1 (And.intro qw2 (And.intro qe1 qe2)))))
        clear qr1 qr2 qw1 qw2 qe1 qe2
        have dR : (R1 = 0 ∧ R2 = 0) ∨ ¬ R1 = 0 := by
          by_cases h : R1 = 0
          · exact .inl ⟨h, hR h⟩
          · exact .inr h
        have dW : (W1 = 0 ∧ W2 = 0) ∨ ¬ W1 = 0 := by
          by_cases h : W1 = 0
          · exact .inl ⟨h, hW h⟩
          · exact .inr h
        have dE : (E1 = 0 ∧ E2 = 0) ∨ ¬ E1 = 0 := by
          by_cases h : E1 = 0
          · exact .inl ⟨h, hE h⟩
          · exact .inr h
        have hcur := New.refl wL
        clear hR hW hE
        rcases dR with ⟨rfl, rfl⟩ | dR <;> rcases dW with ⟨rfl, rfl⟩ | dW <;> rcases dE with ⟨rfl, rfl⟩ | dE
        all_goals
          go_wp2_with (first | (go_at_call 11; (first | (with_reducible refine (QQ.out.1 _).mono ?_) | (with_reducible refine (QQ.out.2.1 _).mono ?_)); rintro e wq ⟨rfl, hn⟩; replace kb0L := hn.cellK kb0L; replace kb1L := hn.cellK kb1L; replace kb2L := hn.cellK kb2L; replace kb3L := hn.cellK kb3L; replace kf0L := hn.cellK kf0L; replace kf1L := hn.cellK kf1L; replace kf2L := hn.cellK kf2L; replace ko0L := hn.cellK ko0L; replace ko1L := hn.cellK ko1L; replace kl0 := hn.cellK kl0; replace kl1 := hn.cellK kl1; replace kl2 := hn.cellK kl2; replace hcur := hcur.step hn; clear hn) | (go_at_call 12; (first | (with_reducible refine (QQ.out.2.2.1 _).mono ?_) | (with_reducible refine (QQ.out.2.2.2.1 _).mono ?_)); rintro e wq ⟨rfl, hn⟩; replace kb0L := hn.cellK kb0L; replace kb1L := hn.cellK kb1L; replace kb2L := hn.cellK kb2L; replace kb3L := hn.cellK kb3L; replace kf0L := hn.cellK kf0L; replace kf1L := hn.cellK kf1L; replace kf2L := hn.cellK kf2L; replace ko0L := hn.cellK ko0L; replace ko1L := hn.cellK ko1L; replace kl0 := hn.cellK kl0; replace kl1 := hn.cellK kl1; replace kl2 := hn.cellK kl2; replace hcur := hcur.step hn; clear hn) | (go_at_call 19; (first | (with_reducible refine (QQ.out.2.2.2.2.1 _).mono ?_) | (with_reducible refine (QQ.out.2.2.2.2.2 _).mono ?_)); rintro e wq ⟨rfl, hn⟩; replace kb0L := hn.cellK kb0L; replace kb1L := hn.cellK kb1L; replace kb2L := hn.cellK kb2L; replace kb3L := hn.cellK kb3L; replace kf0L := hn.cellK kf0L; replace kf1L := hn.cellK kf1L; replace kf2L := hn.cellK kf2L; replace ko0L := hn.cellK ko0L; replace ko1L := hn.cellK ko1L; replace kl0 := hn.cellK kl0; replace kl1 := hn.cellK kl1; replace kl2 := hn.cellK kl2; replace hcur := hcur.step hn; clear hn))
          go_meet
          exact ⟨rfl, hcur⟩
      case rest =>
        obtain ⟨rfl, hwc⟩ := hcut
        replace kb0L := hwc.cellK kb0L
        replace kb1L := hwc.cellK kb1L
        replace kb2L := hwc.cellK kb2L
        replace kb3L := hwc.cellK kb3L
        replace kf0L := hwc.cellK kf0L
        replace kf1L := hwc.cellK kf1L
        replace kf2L := hwc.cellK kf2L
        have hnc := hnowL.step hwc
        have hsc := hwc.size
        have hzc0 : w.heap.size < wc.heap.size := by omega
        have hzc1 : w.heap.size + 1 < wc.heap.size := by omega
        clear ko0L ko1L kl0 kl1 kl2 hwc hsc qr1 qw1 qe1 hR hW hE
        have qr3 := fun X => read_any a c c g fr fw fe r X
        have qw3 := fun X => write_any a c c g fr fw fe r X
        have qe3 := fun X => exec_any a c c g fr fw fe r X
        rw [writeE_wide hm] at qw3
        have hR := readE_wide (r := r) (f := fr) hm
        have hE := execE_wide (r := r) (f := fe) hm
        go_upto_region 11 with fail
        have kb0D : (wc.alloc (.cells #[.int .i64 a, .int .i64 c, .int .i64 c, .int .i64 g] 23)).cell? ⟨w.heap.size, 0, none⟩ = some (.int .i64 a) := by go_simp
        have kb1D : (wc.alloc (.cells #[.int .i64 a, .int .i64 c, .int .i64 c, .int .i64 g] 23)).cell? ⟨w.heap.size, 1, none⟩ = some (.int .i64 b) := by go_simp
        have kb2D : (wc.alloc (.cells #[.int .i64 a, .int .i64 c, .int .i64 c, .int .i64 g] 23)).cell? ⟨w.heap.size, 2, none⟩ = some (.int .i64 c) := by go_simp
        have kb3D : (wc.alloc (.cells #[.int .i64 a, .int .i64 c, .int .i64 c, .int .i64 g] 23)).cell? ⟨w.heap.size, 3, none⟩ = some (.int .i64 g) := by go_simp
        have kf0D : (wc.alloc (.cells #[.int .i64 a, .int .i64 c, .int .i64 c, .int .i64 g] 23)).cell? ⟨w.heap.size + 1, 0, none⟩ = some (.bool fr) := by go_simp
        have kf1D : (wc.alloc (.cells #[.int .i64 a, .int .i64 c, .int .i64 c, .int .i64 g] 23)).cell? ⟨w.heap.size + 1, 1, none⟩ = some (.bool fw) := by go_simp
        have kf2D : (wc.alloc (.cells #[.int .i64 a, .int .i64 c, .int .i64 c, .int .i64 g] 23)).cell? ⟨w.heap.size + 1, 2, none⟩ = some (.bool fe) := by go_simp
        have kd0 : (wc.alloc (.cells #[.int .i64 a, .int .i64 c, .int .i64 c, .int .i64 g] 23)).cell? ⟨wc.heap.size, 0, none⟩ = some (.int .i64 a) := by go_simp
        have kd1 : (wc.alloc (.cells #[.int .i64 a, .int .i64 c, .int .i64 c, .int .i64 g] 23)).cell? ⟨wc.heap.size, 1, none⟩ = some (.int .i64 c) := by go_simp
        have kd2 : (wc.alloc (.cells #[.int .i64 a, .int .i64 c, .int .i64 c, .int .i64 g] 23)).cell? ⟨wc.heap.size, 2, none⟩ = some (.int .i64 c) := by go_simp
        have kd3 : (wc.alloc (.cells #[.int .i64 a, .int .i64 c, .int .i64 c, .int .i64 g] 23)).cell? ⟨wc.heap.size, 3, none⟩ = some (.int .i64 g) := by go_simp
        have hnD : New w (wc.alloc (.cells #[.int .i64 a, .int .i64 c, .int .i64 c, .int .i64 g] 23)) := hnc.alloc _
        generalize (wc.alloc (.cells #[.int .i64 a, .int .i64 c, .int .i64 c, .int .i64 g] 23)) = wD at *
        generalize wc.heap.size = gD at *
        clear kb0L kb1L kb2L kb3L kf0L kf1L kf2L hnc
        generalize readE a b c g fr r = R2 at qr2 hR
        generalize readE a c c g fr r = R3 at qr3 hR
        generalize writeE a b c g fw r = W2 at qw2 qw3
        generalize execE a b c g fe r = E2 at qe2 hE
        generalize execE a c c g fe r = E3 at qe3 hE
        have dR : (R2 = 0 ∧ R3 = 0) ∨ ¬ R2 = 0 := by
          by_cases h : R2 = 0
          · exact .inl ⟨h, hR h⟩
          · exact .inr h
        have dE : (E2 = 0 ∧ E3 = 0) ∨ ¬ E2 = 0 := by
          by_cases h : E2 = 0
          · exact .inl ⟨h, hE h⟩
          · exact .inr h
        have QQ := hid (And.intro qr2 (And.intro qr3 (And.intro qw2 (And.intro qw3 (And.intro qe2 qe3)))))
        clear qr2 qr3 qw2 qw3 qe2 qe3 hR hE
        have bR : ¬ R2 = 0 → (R2 != 0) = true := fun h => by simpa using h
        have bE : ¬ E2 = 0 → (E2 != 0) = true := fun h => by simpa using h
        rcases dR with ⟨rfl, rfl⟩ | dR <;> rcases dE with ⟨rfl, rfl⟩ | dE
        all_goals
          (try have bR1 := bR dR)
          (try have bE1 := bE dE)
          clear bR bE
          have KK := hid (And.intro kb0D (And.intro kb1D (And.intro kb2D (And.intro kb3D (And.intro kf0D (And.intro kf1D (And.intro kf2D (And.intro kd0 (And.intro kd1 (And.intro kd2 kd3))))))))))
          refine wp_region_quiet (C := fun w' => New wD w') (by kernel_rfl) (by kernel_rfl) (New.refl wD).drew ?_
          simp only [List.toList_toArray]
          repeat (first
            | go_big_quiet_skip
            | (go_big_quiet_want
               apply Exists.intro
               refine ⟨fun w' hw' => ?_, ?_⟩
               · have kb0D_ := hw'.cellK kb0D; have kb1D_ := hw'.cellK kb1D; have kb2D_ := hw'.cellK kb2D; have kb3D_ := hw'.cellK kb3D; have kf0D_ := hw'.cellK kf0D; have kf1D_ := hw'.cellK kf1D; have kf2D_ := hw'.cellK kf2D; have kd0_ := hw'.cellK kd0; have kd1_ := hw'.cellK kd1; have kd2_ := hw'.cellK kd2; have kd3_ := hw'.cellK kd3; go_simp; first | (with_reducible rfl) | (go_at_call 11; first | with_reducible exact ((QQ.out.1 _).mono (fun e w2 h => ⟨h.1, hw'.step h.2⟩)) | with_reducible exact ((QQ.out.2.1 _).mono (fun e w2 h => ⟨h.1, hw'.step h.2⟩))) | (go_at_call 12; first | with_reducible exact ((QQ.out.2.2.1 _).mono (fun e w2 h => ⟨h.1, hw'.step h.2⟩)) | with_reducible exact ((QQ.out.2.2.2.1 _).mono (fun e w2 h => ⟨h.1, hw'.step h.2⟩))) | (go_at_call 19; first | with_reducible exact ((QQ.out.2.2.2.2.1 _).mono (fun e w2 h => ⟨h.1, hw'.step h.2⟩)) | with_reducible exact ((QQ.out.2.2.2.2.2 _).mono (fun e w2 h => ⟨h.1, hw'.step h.2⟩)))
               go_big_quiet_on
               try simp only [Act.put, List.setIfInBounds_toArray, List.set_cons_zero, List.set_cons_succ]))
          refine wpQuiet_nil ?_
          intro wE hwE
          go_wp2
          go_ret
          exact ⟨rfl, hnD.step hwE⟩
  · have hm' : mayB a b c g = false := by simpa using hm
    go_enter Try.func8, Try.ntmps8
    go_wp2_with fail
    refine (awake_any _).mono ?_
    rintro e w3 ⟨rfl, hn3⟩
    obtain ⟨hc3, hf3⟩ := New.cells hn3
    have hs3 := New.size hn3
    try simp only [World.size_alloc, size_drewN, size_drew, size_setCell] at hc3 hf3 hs3
    try have hz3_w_1 : w.heap.size + 1 < w3.heap.size := by omega
    try have hz3_w_2 : w.heap.size + 2 < w3.heap.size := by omega
    try have hz3_w : w.heap.size < w3.heap.size := by omega
    go_wp2_with fail
    refine (refMay_any _ _ _ _ _).mono ?_
    rintro e w4 ⟨rfl, hn4⟩
    obtain ⟨hc4, hf4⟩ := New.cells hn4
    have hs4 := New.size hn4
    try simp only [World.size_alloc, size_drewN, size_drew, size_setCell] at hc4 hf4 hs4
    try have hz4_w_1 : w.heap.size + 1 < w4.heap.size := by omega
    try have hz4_w_2 : w.heap.size + 2 < w4.heap.size := by omega
    try have hz4_w : w.heap.size < w4.heap.size := by omega
    rw [hm']
    go_wp2
    go_ret
    refine ⟨rfl, ?_⟩
    (repeat (first | exact New.refl _ | (refine New.step ?_ (by assumption)) | apply New.alloc | apply New.drewN | apply New.drew))
theorem ringOver_row {H : Type} {enc : TypeId × Value → H} (W : World) {base : Nat}
    (v0 : Value) (d0 : DataW H) (p0 : List MemPlace) (k0 : Value.okWide Try.prog W .any base 23 v0) (h0 : DataW.Trod enc Try.prog W 0 (fun _ => true) true 23 v0 d0 p0) (l0 : ∀ x ∈ p0, x.block < W.heap.size)
    (v1 : Value) (d1 : DataW H) (p1 : List MemPlace) (k1 : Value.okWide Try.prog W .any base 25 v1) (h1 : DataW.Trod enc Try.prog W 0 (fun _ => true) true 25 v1 d1 p1) (l1 : ∀ x ∈ p1, x.block < W.heap.size)
    (v2 : Value) (d2 : DataW H) (p2 : List MemPlace) (k2 : Value.okWide Try.prog W .any base 35 v2) (h2 : DataW.Trod enc Try.prog W 0 (fun _ => true) true 35 v2 d2 p2) (l2 : ∀ x ∈ p2, x.block < W.heap.size)
    : Calls Try.prog 8 #[v0, v1, v2] W fun e W' => e = .returned (.bool true) ∧ Below W.heap.size W W' := by
  obtain ⟨a, b, c, g, rfl, _⟩ := open_br k0 h0
  obtain ⟨fr, fw, fe, rfl⟩ := open_fl k1 h1
  obtain ⟨l, rfl, hl, hw⟩ := Open.open_arr Try.underlying35 Try.underlying3 (by kernel_rfl) (by kernel_rfl) k2 h2
  obtain ⟨n0, n1, rfl⟩ := Open.list2 hl
  exact ringOver_walk a b c g fr fw fe n0 n1 W
end Go.Proofs.Ytgdocnejieaogaa.Law
