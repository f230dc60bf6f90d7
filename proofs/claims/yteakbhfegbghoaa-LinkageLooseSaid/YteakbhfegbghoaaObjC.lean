/- The contracts of slices.Grow and Concat at words. -/
import Derived.Test.YteakbhfegbghoaaObj
namespace Go.Proofs.Yteakbhfegbghoaa.Obj
open Go Go.RowKit Go.Proofs.Yteakbhfegbghoaa.Kit Go.Proofs.Yteakbhfegbghoaa.Str Go.Proofs.Yteakbhfegbghoaa.Names Go.Proofs.Yteakbhfegbghoaa.Let
open Go.Proofs.Yteakbhfegbghoaa.Letters (wv WsAt word_info)
set_option linter.unusedSimpArgs false
set_option linter.unusedVariables false
set_option maxRecDepth 100000 in
set_option maxHeartbeats 1000000 in
theorem grow_any (n : Nat) (w : World) (hn : n ≤ 4000000) :
    Calls Try.prog 78 #[.slice none 0 0, .int .i64 (n : Int)] w fun e w' => ∃ v, e = .returned v ∧ Sl w' w.heap.size 52 1 v 0 [] ∧ New w w' := by
  have i0 : ¬ (n : Int) < 0 := by omega
  have i1 : IntKind.i64.wrap (n : Int) = n := by rw [IntKind.wrap_i64]; omega
  rcases Nat.eq_zero_or_pos n with h0 | h0
  · subst h0
    go_enter Try.func78, Try.ntmps78
    go_wp2
    go_ret
    exact ⟨_, rfl, Sl.nil _ _ _ _, New.refl _⟩
  · obtain ⟨ti, hi, hzz⟩ := Option.map_eq_some_iff.1 word_info
    simp only [Prod.mk.injEq] at hzz
    have i2 : (0 : Int) < (n : Int) := by omega
    have hz := fun ty => Lib.run_append_nil_zeros (P := Try.prog) w 25 3 ty 52 ti _ .i64 .i64 Try.underlying25 Try.underlying3 hi hzz.1 n h0 (by rw [hzz.2.1]; decide) (by omega) (by rw [hzz.2.2]; omega)
    have hM1 := grownCap_ge w n 0 52
    have hM2 := grownCap_le_maxLen w n 0 52 (by unfold maxLen; omega)
    generalize grownCap w n 0 52 = M at hz hM1 hM2
    obtain ⟨cs, hcs⟩ : ∃ cs, cs = Builtin.zeroCells (Value.int IntKind.u64 0).cells n ++ Builtin.zeroCells (Value.int IntKind.u64 0).cells (M - n) := ⟨_, rfl⟩
    rw [← hcs] at hz
    have hlen : cs.size = M := by
      rw [hcs]
      simp [Builtin.zeroCells, Value.cells]
      omega
    have hs : Sl (w.drew.alloc (.cells cs 52)) w.heap.size 52 1 (.slice (some ⟨w.heap.size, 0, none⟩) 0 M) 0 [] :=
      ⟨by simp, .inr ⟨w.heap.size, 0, M, cs, rfl, Nat.le_refl _, Blk.new w.drew 52 cs, Nat.zero_le _, hM2, by omega, by simp⟩⟩
    have HS := hid (And.intro hs ((New.refl w).drew.alloc (.cells cs 52)))
    have i3 : ¬ M = 0 := by omega
    have i4 : (0 : Int) ≤ (M : Int) := by omega
    clear hs hlen hcs hi hzz hM2
    go_enter Try.func78, Try.ntmps78
    go_wp2_with (at_builtin; refine Lib.wpList_append_run _ rfl _ _ _ _ rfl _ _ rfl rfl _ _ (hz _) ?_)
    go_wp2
    go_ret
    exact ⟨_, rfl, HS.out.1, HS.out.2⟩
set_option maxRecDepth 100000 in
set_option maxHeartbeats 4000000 in
theorem concat_any (w : World) (g : Nat) (a b : Value) (xs ys : List Nat) (hB : Blk w g 25 #[a, b]) (ha : LsAt 1 uw w a xs) (hb : LsAt 1 uw w b ys) (hx : xs.length ≤ 1000000) (hy : ys.length ≤ 1000000) :
    Calls Try.prog 66 #[.slice (some ⟨g, 0, none⟩) 2 2] w fun e w' => ∃ v, e = .returned v ∧ Sl w' w.heap.size 52 1 v (xs ++ ys).length (flatOf uw (xs ++ ys)) ∧ New w w' := by
  obtain ⟨ti, hi, hzz⟩ := Option.map_eq_some_iff.1 word_info
  simp only [Prod.mk.injEq] at hzz
  have HT := hid (And.intro hi hzz)
  have HA := hid (And.intro hB (And.intro ha hb))
  have c0 : w.cell? ⟨g, 0, none⟩ = some a := by rw [hB.cell]; rfl
  have c1 : w.cell? ⟨g, 1, none⟩ = some b := by rw [hB.cell]; rfl
  obtain ⟨a1, k1, hva, _⟩ := id ha
  obtain ⟨a2, k2, hvb, _⟩ := id hb
  subst hva hvb
  obtain ⟨m1, hm1⟩ : ∃ m1, m1 = xs.length := ⟨_, rfl⟩
  obtain ⟨m2, hm2⟩ : ∃ m2, m2 = ys.length := ⟨_, rfl⟩
  rw [← hm1] at hx c0
  rw [← hm2] at hy c1
  have HM := hid (And.intro hm1 hm2)
  clear hi hzz hB ha hb hm1 hm2
  go_enter Try.func66, Try.ntmps66
  go_wp2_with fail
  have v0 : IntKind.i64.wrap (0 + (m1 : Int)) = (m1 : Int) := by rw [IntKind.wrap_i64]; omega
  have v1 : IntKind.i64.wrap ((m1 : Int)) = (m1 : Int) := by rw [IntKind.wrap_i64]; omega
  have v2 : IntKind.i64.wrap ((m1 : Int) + (m2 : Int)) = (m1 : Int) + (m2 : Int) := by rw [IntKind.wrap_i64]; omega
  have v3 : ¬ (m1 : Int) < 0 := by omega
  have v4 : ¬ (m1 : Int) + (m2 : Int) < 0 := by omega
  go_loopw [3, 11] (fun sz i wr => (i = .int .i64 0 ∧ sz = .int .i64 0 ∨ i = .int .i64 1 ∧ sz = .int .i64 (m1 : Int) ∨ i = .int .i64 2 ∧ sz = .int .i64 ((m1 : Int) + (m2 : Int))) ∧ w = wr) (fun _ i _ => 2 - (intOf i).toNat)
  case atStart => exact ⟨.inl ⟨rfl, rfl⟩, rfl⟩
  case round =>
    obtain ⟨⟨rfl, rfl⟩ | ⟨rfl, rfl⟩ | ⟨rfl, rfl⟩, rfl⟩ := hrel
    · go_wp2_with fail
      exact ⟨⟨.inr (.inl ⟨rfl, rfl⟩), trivial⟩, by simp [intOf]⟩
    · go_wp2_with fail
      exact ⟨⟨.inr (.inr ⟨rfl, rfl⟩), trivial⟩, by simp [intOf]⟩
    · have hG := fun X => grow_any (m1 + m2) X (by omega)
      rw [Int.natCast_add] at hG
      go_wp2_with fail
      refine (hG _).mono ?_
      rintro e w2 ⟨v, rfl, hs, hn⟩
      have HS := hid (And.intro hs hn)
      clear hs hn hG
      go_wp2_with fail
      go_loopw [6, 27] (fun v i wr => (i = .int .i64 0 ∧ Sl wr w.heap.size 52 1 v 0 [] ∨ i = .int .i64 1 ∧ Sl wr w.heap.size 52 1 v m1 (flatOf uw xs) ∨ i = .int .i64 2 ∧ Sl wr w.heap.size 52 1 v (m1 + m2) (flatOf uw xs ++ flatOf uw ys)) ∧ New w wr) (fun _ i _ => 2 - (intOf i).toNat)
      case atStart => exact ⟨.inl ⟨rfl, HS.out.1⟩, HS.out.2⟩
      case round =>
        clear HS
        obtain ⟨⟨rfl, hsv⟩ | ⟨rfl, hsv⟩ | ⟨rfl, hsv⟩, hnr⟩ := hrel
        · obtain ⟨a6, c6, rfl⟩ := hsv.val
          have hBx := HA.out.1.new_ hnr
          have c0 : wr.cell? ⟨g, 0, none⟩ = some (.slice a1 m1 k1) := by rw [hBx.cell, HM.out.1]; rfl
          have c1 : wr.cell? ⟨g, 1, none⟩ = some (.slice a2 m2 k2) := by rw [hBx.cell, HM.out.2]; rfl
          obtain ⟨v', w3, hr, hon⟩ := run_append_ls (P := Try.prog) wr w.heap.size 25 25 52 ti _ 1 8 Try.underlying25 HT.out.1 HT.out.2.1 HT.out.2.2.1 HT.out.2.2.2 rfl (by decide) uw_len uw_one _ 0 [] hsv _ xs (HA.out.2.1.new_ hnr) (by rw [← HM.out.1]; unfold maxLen; omega) (by rw [← HM.out.1]; omega) hnr.size
          have hnw := hon.new hnr (fun g hg => (hsv.lt g hg).1)
          have hs3 := hon.1
          rw [← HM.out.1] at hs3 hr
          have R := hid (And.intro hs3 hnw)
          clear hs3 hnw hon hsv hBx hnr
          go_wp2_with (at_builtin; refine Lib.wpList_append_run _ rfl _ _ _ _ rfl _ _ rfl rfl _ _ hr ?_)
          exact ⟨⟨.inr (.inl ⟨rfl, by have := R.out.1; rw [Nat.zero_add, List.nil_append] at this; exact this⟩), R.out.2⟩, by simp [intOf]⟩
        · obtain ⟨a6, c6, rfl⟩ := hsv.val
          have hBx := HA.out.1.new_ hnr
          have c0 : wr.cell? ⟨g, 0, none⟩ = some (.slice a1 m1 k1) := by rw [hBx.cell, HM.out.1]; rfl
          have c1 : wr.cell? ⟨g, 1, none⟩ = some (.slice a2 m2 k2) := by rw [hBx.cell, HM.out.2]; rfl
          obtain ⟨v', w3, hr, hon⟩ := run_append_ls (P := Try.prog) wr w.heap.size 25 25 52 ti _ 1 8 Try.underlying25 HT.out.1 HT.out.2.1 HT.out.2.2.1 HT.out.2.2.2 rfl (by decide) uw_len uw_one _ m1 (flatOf uw xs) hsv _ ys (HA.out.2.2.new_ hnr) (by rw [← HM.out.2]; unfold maxLen; omega) (by rw [← HM.out.2]; omega) hnr.size
          have hnw := hon.new hnr (fun g hg => (hsv.lt g hg).1)
          have hs3 := hon.1
          rw [← HM.out.2] at hs3 hr
          have R := hid (And.intro hs3 hnw)
          clear hs3 hnw hon hsv hBx hnr
          go_wp2_with (at_builtin; refine Lib.wpList_append_run _ rfl _ _ _ _ rfl _ _ rfl rfl _ _ hr ?_)
          exact ⟨⟨.inr (.inr ⟨rfl, by exact R.out.1⟩), R.out.2⟩, by simp [intOf]⟩
        · have hlen : (xs ++ ys).length = m1 + m2 := by rw [List.length_append, HM.out.1, HM.out.2]
          have HF := hid (And.intro hsv (And.intro hnr hlen))
          clear hsv hnr hlen
          go_wp2_with fail
          go_ret
          refine ⟨_, rfl, ?_, HF.out.2.1⟩
          rw [HF.out.2.2, flatOf_app]
          exact HF.out.1
end Go.Proofs.Yteakbhfegbghoaa.Obj
