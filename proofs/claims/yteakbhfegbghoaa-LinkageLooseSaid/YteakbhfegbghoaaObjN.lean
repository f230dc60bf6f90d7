/- The contract of made. -/
import Derived.Test.YteakbhfegbghoaaObjM
import Derived.Deep.RegionHeld3
namespace Go.Proofs.Yteakbhfegbghoaa.Obj
open Go Go.RowKit Go.Proofs.Yteakbhfegbghoaa.Kit Go.Proofs.Yteakbhfegbghoaa.Str Go.Proofs.Yteakbhfegbghoaa.Names Go.Proofs.Yteakbhfegbghoaa.Let
open Go.Proofs.Yteakbhfegbghoaa.Letters (wv WsAt word_info)
set_option linter.unusedSimpArgs false
set_option linter.unusedVariables false
theorem encO_eq (O : Ob) : encO O = preL O O.links.length ++ tl O := by unfold encO preL; rw [List.take_length]
theorem news_l {w : World} {g : Nat} {t : TypeId} {l : List Value} (h : Blk w g t l.toArray) : ∀ j u, l[j]? = some u → w.cell? ((⟨g, 0, none⟩ : Addr).add j) = some u := by
  intro j u hu
  rw [Addr.add_lit, Nat.zero_add, h.cell, List.getElem?_toArray]
  exact hu
theorem S_grown {w w' : World} {row : Option Nat} {D : Nat} {u v : Value} (hg : w.grownBy w' row) (hn : ¬ row = some D) (h : w.cell? ⟨D, 0, none⟩ = some u ∧ w.cell? ⟨D, 1, none⟩ = some v) : w'.cell? ⟨D, 0, none⟩ = some u ∧ w'.cell? ⟨D, 1, none⟩ = some v :=
  have hk : Keeps (fun k => row = some k) w w' := (Keeps.refl _ w).grown hg (fun k hk => .inr hk)
  ⟨hk.cell h.1 hn, hk.cell h.2 hn⟩
theorem S_grown3 {w w' : World} {row : Option Nat} {D : Nat} {u v x : Value} (hg : w.grownBy w' row) (hn : ¬ row = some D) (h : w.cell? ⟨D, 0, none⟩ = some u ∧ w.cell? ⟨D, 1, none⟩ = some v ∧ w.cell? ⟨D, 2, none⟩ = some x) : w'.cell? ⟨D, 0, none⟩ = some u ∧ w'.cell? ⟨D, 1, none⟩ = some v ∧ w'.cell? ⟨D, 2, none⟩ = some x :=
  have hk : Keeps (fun k => row = some k) w w' := (Keeps.refl _ w).grown hg (fun k hk => .inr hk)
  ⟨hk.cell h.1 hn, hk.cell h.2.1 hn, hk.cell h.2.2 hn⟩
theorem S_keep3 {w w' : World} {row : Option Nat} {D : Nat} {u v x : Value} (hk : Keeps (fun k => row = some k) w w') (hn : ¬ row = some D) (h : w.cell? ⟨D, 0, none⟩ = some u ∧ w.cell? ⟨D, 1, none⟩ = some v ∧ w.cell? ⟨D, 2, none⟩ = some x) : w'.cell? ⟨D, 0, none⟩ = some u ∧ w'.cell? ⟨D, 1, none⟩ = some v ∧ w'.cell? ⟨D, 2, none⟩ = some x :=
  ⟨hk.cell h.1 hn, hk.cell h.2.1 hn, hk.cell h.2.2 hn⟩
theorem own_ne1 {v5 v : Value} {w : World} {D : Nat} (h : v5.ownBlock = v.ownBlock ∨ ∃ g, v5.ownBlock = some g ∧ w.heap.size ≤ g) (hv : ¬ v.ownBlock = some D) (hD : D < w.heap.size) : ¬ v5.ownBlock = some D := by
  intro e
  rcases h with h | ⟨g', h, hg'⟩
  · exact hv (by rw [← h, e])
  · rw [h] at e; cases e; omega
set_option maxRecDepth 100000 in
set_option maxHeartbeats 4000000 in
theorem made_any (w : World) (v : Value) (O : Ob) (h : ObAt w v O) (hf : Fit O) :
    Calls Try.prog 53 #[v] w fun e w' => ∃ v', e = .returned v' ∧ Sl w' w.heap.size 52 1 v' (encO O).length (flatOf uw (encO O)) ∧ New w w' := by
  obtain ⟨ti, hi, hzz⟩ := Option.map_eq_some_iff.1 word_info
  simp only [Prod.mk.injEq] at hzz
  have HT := hid (And.intro hi hzz)
  have HF := hid hf
  obtain ⟨a, b, c, d, rfl, ha, hb, hc, hd⟩ := h
  obtain ⟨a1, k1, ea, _⟩ := id ha
  obtain ⟨a2, k2, eb, _⟩ := id hb
  obtain ⟨a3, k3, ec, hk3, hk3m, _⟩ := id hc
  obtain ⟨a4, k4, ed, hk4, hk4m, _⟩ := id hd
  obtain ⟨m1, hm1⟩ : ∃ m, m = O.text.length := ⟨_, rfl⟩
  obtain ⟨m2, hm2⟩ : ∃ m, m = O.static.length := ⟨_, rfl⟩
  obtain ⟨m3, hm3⟩ : ∃ m, m = O.defs.length := ⟨_, rfl⟩
  obtain ⟨m4, hm4⟩ : ∃ m, m = O.links.length := ⟨_, rfl⟩
  rw [← hm1] at ea
  rw [← hm2] at eb
  rw [← hm3] at ec hk3
  rw [← hm4] at ed hk4
  subst ea eb ec ed
  have l1 : m1 ≤ 512 := by rw [hm1]; exact hf.text
  have l2 : m2 ≤ 64 := by rw [hm2]; exact hf.static
  have l3 : m3 ≤ 32 := by rw [hm3]; exact hf.ndefs
  have l4 : m4 ≤ 32 := by rw [hm4]; exact hf.nlinks
  have hB := Blk.new w 29 #[.slice a1 m1 k1, .slice a2 m2 k2, .slice a3 m3 k3, .slice a4 m4 k4]
  have hN1 := (New.refl w).alloc (.cells #[.slice a1 m1 k1, .slice a2 m2 k2, .slice a3 m3 k3, .slice a4 m4 k4] 29)
  have HA := hid (And.intro ha (And.intro hb (And.intro hc hd)))
  have HM := hid (And.intro hm1 (And.intro hm2 (And.intro hm3 hm4)))
  have HB := hid (And.intro hB hN1)
  clear ha hb hc hd hm1 hm2 hm3 hm4 hB hN1 hi hzz
  have hW1 := HB.out.2
  have hB1 := HB.out.1
  have hsz1 : (w.alloc (.cells #[.slice a1 m1 k1, .slice a2 m2 k2, .slice a3 m3 k3, .slice a4 m4 k4] 29)).heap.size = w.heap.size + 1 := World.size_alloc _ _
  have hC := concat_any ((w.alloc (.cells #[.slice a1 m1 k1, .slice a2 m2 k2, .slice a3 m3 k3, .slice a4 m4 k4] 29)).alloc (.cells #[.slice a1 m1 k1, .slice a2 m2 k2] 25)) (w.heap.size + 1) _ _ O.text O.static (by have := Blk.new (w.alloc (.cells #[.slice a1 m1 k1, .slice a2 m2 k2, .slice a3 m3 k3, .slice a4 m4 k4] 29)) 25 #[.slice a1 m1 k1, .slice a2 m2 k2]; rw [hsz1] at this; exact this) (HA.out.1.new_ (hW1.alloc _)) (HA.out.2.1.new_ (hW1.alloc _)) (by rw [← HM.out.1]; omega) (by rw [← HM.out.2.1]; omega)
  have HC := hid (And.intro hC (And.intro hsz1 hW1))
  clear hC hsz1 hW1 hB1
  go_enter Try.func53, Try.ntmps53
  go_wp2_with fail
  refine HC.out.1.mono ?_
  rintro e w2 ⟨v, rfl, hs, hn⟩
  generalize hw1 : w.alloc (.cells #[.slice a1 m1 k1, .slice a2 m2 k2, .slice a3 m3 k3, .slice a4 m4 k4] 29) = w1 at *
  have hn2 : New w1 w2 := ((New.refl w1).alloc _).step hn
  have HN := hid (And.intro hn2 (hs.mono (b' := w1.heap.size) (by rw [World.size_alloc]; omega)))
  obtain ⟨B, hB⟩ : ∃ B, B = w.heap.size := ⟨_, rfl⟩
  have HZ := hid (And.intro HC.out.2.1 (And.intro HC.out.2.2 hB))
  have HD : Hid (Blk w1 B 29 #[.slice a1 m1 k1, .slice a2 m2 k2, .slice a3 m3 k3, .slice a4 m4 k4] ∧ B < w1.heap.size) := ⟨by rw [hB]; exact HB.out.1, by rw [HZ.out.1, hB]; omega⟩
  rw [← hB]
  clear hs hn hn2 HC HB hw1 hB
  have e0 : w2.cell? ⟨B, 2, none⟩ = some (.slice a3 m3 k3) := by rw [(HD.out.1.new_ HN.out.1).cell]; rfl
  go_wp2_with fail
  go_loopw [3, 17] (fun v i wr => ∃ k : Nat, k ≤ m3 ∧ i = .int .i64 (k : Int) ∧ New w1 wr ∧ Sl wr w1.heap.size 52 1 v (preD O k).length (flatOf uw (preD O k))) (fun _ i _ => m3 - (intOf i).toNat)
  case atStart => exact ⟨0, Nat.zero_le _, rfl, HN.out.1, by have := HN.out.2; simpa [preD] using this⟩
  case round =>
    obtain ⟨k, hk, rfl, hnr, hsv⟩ := hrel
    by_cases hkn : k < m3
    · have w2' : IntKind.i64.wrap ((k : Int) + 1) = k + 1 := by rw [IntKind.wrap_i64]; omega
      have hNw := HZ.out.2.1.step hnr
      obtain ⟨bb, oo, x, rfl, hx, _, hcell⟩ := (HA.out.2.2.1.new_ hNw).get hkn
      have c0 := hcell 0 _ rfl
      have c1 := hcell 1 _ rfl
      rw [Nat.add_zero] at c0
      have j0 : (0 : Int) ≤ (k : Int) := by omega
      have j1 : (k : Int) < (m3 : Int) := by omega
      obtain ⟨a6, c6, rfl⟩ := hsv.val
      obtain ⟨nm, of⟩ := x
      obtain ⟨q1, q2, q3⟩ := HF.out.defs _ (List.mem_of_getElem? hx)
      obtain ⟨z, rfl⟩ := Int.eq_ofNat_of_zero_le q2
      have hnm : nm.length ≤ 32 := (signsB_len q1).2
      have hen := enc_len nm
      have hpre := HF.out.preD_len k
      have hz : z < 512 := by have := HF.out.text; simp only at q3; omega
      have z0 : IntKind.u64.wrap (z : Int) = z := by rw [IntKind.wrap_u64]; omega
      have hnew : preD O (k + 1) = (preD O k ++ enc nm) ++ [z] := by rw [preD_succ hx]; simp
      obtain ⟨n0, hn0⟩ : ∃ n0, n0 = (preD O k).length := ⟨_, rfl⟩
      obtain ⟨n5, hn5⟩ : ∃ n5, n5 = (preD O k ++ enc nm).length := ⟨_, rfl⟩
      have hn55 : n5 ≤ 3000 := by rw [hn5, List.length_append]; omega
      have hTx := fun X (hX : New wr X) => text_any X w1.heap.size _ (preD O k) (hsv.new_ hX) (Nat.le_trans hnr.size hX.size) (by omega) nm (by omega)
      have hlt := fun g hg => (hsv.lt g hg).2
      rw [← hn0] at hTx hlt hsv ⊢
      obtain ⟨D, hD⟩ : ∃ D, D = wr.heap.size := ⟨_, rfl⟩
      obtain ⟨w4, hw4⟩ : ∃ w4, w4 = wr.alloc (.cells #[.string ⟨nm.toArray⟩, .int .i64 (z : Int)] 104) := ⟨_, rfl⟩
      have hn4 : New wr w4 := by rw [hw4]; exact (New.refl _).alloc _
      have hbx : Blk w4 D 104 #[.string ⟨nm.toArray⟩, .int .i64 (z : Int)] := by rw [hw4, hD]; exact Blk.new _ _ _
      have hD4 : D < w4.heap.size := by rw [hw4, hD, World.size_alloc]; omega
      have HTx := hid hTx
      have HD1 : Hid (∀ X, New w4 X → X.cell? ⟨D, 1, none⟩ = some (.int .i64 (z : Int))) := fun X hX => by rw [(hbx.new_ hX).cell]; rfl
      have d0 : w4.cell? ⟨D, 0, none⟩ = some (.string ⟨nm.toArray⟩) := by rw [hbx.cell]; rfl
      have d1 : w4.cell? ⟨D, 1, none⟩ = some (.int .i64 (z : Int)) := by rw [hbx.cell]; rfl
      have da0 : ∀ o, (w4.alloc o).cell? ⟨D, 0, none⟩ = some (.string ⟨nm.toArray⟩) := fun o => by rw [(hbx.new_ ((New.refl _).alloc o)).cell]; rfl
      have da1 : ∀ o, (w4.alloc o).cell? ⟨D, 1, none⟩ = some (.int .i64 (z : Int)) := fun o => by rw [(hbx.new_ ((New.refl _).alloc o)).cell]; rfl
      have HNE : Hid (∀ g, D ≤ g → ¬ (Value.slice a6 n0 c6).ownBlock = some g) := fun g hg e => by have := hlt g e; omega
      have HK : Hid (∀ X w5, New w4 X → Keeps (fun k => (Value.slice a6 n0 c6).ownBlock = some k) X w5 → New w1 w5) := fun X w5 hX hk => (hnr.step (hn4.step hX)).kept hk (fun g hg => (hsv.lt g hg).1)
      have HX := hid (And.intro hx (And.intro hnr (And.intro hn4 (And.intro hn5 (And.intro hnew (And.intro hD4 hsv))))))
      clear hx hnr hsv hNw hcell e0 hTx hlt hbx hn4 hn0 hn5 hnew q1 q2 q3 hnm hen hpre hD4
      have HS4 : Hid (∀ X, New w4 X → X.cell? ⟨D, 0, none⟩ = some (.string ⟨nm.toArray⟩) ∧ X.cell? ⟨D, 1, none⟩ = some (.int .i64 (z : Int))) := fun X hX => ⟨hX.cellK d0, hX.cellK d1⟩
      have HSZ : Hid (∀ X, New w4 X → D < X.heap.size) := fun X hX => Nat.lt_of_lt_of_le HX.out.2.2.2.2.2.1 hX.size
      have HBX : Hid ((w4.alloc (.cells #[wv z] 52)).drew.cell? ⟨w4.heap.size, 0, none⟩ = some (wv z)) := by have := (Blk.new w4 52 #[wv z]).cell 0; exact this
      have q4 : n5 + 1 ≤ maxLen := by unfold maxLen; omega
      have q5 : (n5 + 1) * 8 ≤ 140737488355328 := by omega
      go_wp2_with fail
      rw [← hw4, ← hD]
      clear hw4 hD
      go_region_held3 (fun w' => w'.cell? ⟨D, 0, none⟩ = some (.string ⟨nm.toArray⟩) ∧ w'.cell? ⟨D, 1, none⟩ = some (.int .i64 (z : Int))) (first | exact HS4.out _ (by first | exact (New.refl _).drew | exact ((New.refl _).alloc _).drew | exact New.refl _) | exact hS6 | exact hS5 | exact hS5a _) (first
        | (go_at_call 67; refine (HTx.out _ (HX.out.2.2.1.step (by first | exact (New.refl _).drew | exact ((New.refl _).alloc _).drew))).mono ?_; rintro e w5 ⟨v5, rfl, hs5, hk5, ho5⟩; have hS5 := And.intro (hk5.cell (HS4.out _ (by first | exact (New.refl _).drew | exact ((New.refl _).alloc _).drew)).1 (HNE.out _ (Nat.le_refl _))) (hk5.cell (HS4.out _ (by first | exact (New.refl _).drew | exact ((New.refl _).alloc _).drew)).2 (HNE.out _ (Nat.le_refl _))); have hS5a := fun o => And.intro (((New.refl w5).alloc o).cellK hS5.1) (((New.refl w5).alloc o).cellK hS5.2); rw [← HX.out.2.2.2.1] at hs5; have hn5 := HK.out _ _ (by first | exact (New.refl _).drew | exact ((New.refl _).alloc _).drew) hk5; have hb5 := hn5.size; have he5 := own_ne ho5 HNE.out _ (Nat.le_refl _) (HSZ.out _ (by first | exact (New.refl _).drew | exact ((New.refl _).alloc _).drew)); obtain ⟨a5, c5, rfl⟩ := hs5.val)
        | (refine step_append_sl rfl (.tmp 24) (.tmp 28) 25 rfl w1.heap.size 52 ti _ 1 8 Try.underlying25 HT.out.1 HT.out.2.1 HT.out.2.2.1 HT.out.2.2.2 rfl (by decide) (.slice a5 n5 c5) n5 _ (by simp [Act.eval, Act.put]) (hs5.alloc _) ⟨w5.heap.size, 0, none⟩ 1 1 [wv z] (by simp [Act.eval, Act.put]) (by decide) rfl (news_w (by rw [(Blk.new w5 _ _).cell]; rfl)) (one_w z) q4 q5 (by rw [World.size_alloc]; omega) ?_; intro v6 w6 hs6 hg6 hb6; have hS6 := S_grown hg6 he5 (hS5a _))
        | (refine step_append_sl rfl (.tmp 24) (.tmp 28) 25 rfl w1.heap.size 52 ti _ 1 8 Try.underlying25 HT.out.1 HT.out.2.1 HT.out.2.2.1 HT.out.2.2.2 rfl (by decide) (.slice a5 n5 c5) n5 _ (by simp [Act.eval, Act.put]) hs5 ⟨w4.heap.size, 0, none⟩ 1 1 [wv z] (by simp [Act.eval, Act.put]) (by decide) rfl (news_w (hk5.cell HBX.out (HNE.out _ (Nat.le_of_lt HX.out.2.2.2.2.2.1)))) (one_w z) q4 q5 hb5 ?_; intro v6 w6 hs6 hg6 hb6; have hS6 := S_grown hg6 he5 hS5))
      all_goals
        have hn6 : New w1 w6 := by first | exact (hn5.alloc _).grown hg6 (fun g hg => (hs5.lt g hg).1) | exact hn5.grown hg6 (fun g hg => (hs5.lt g hg).1)
        have hs7 : Sl w6 w1.heap.size 52 1 v6 (preD O (k + 1)).length (flatOf uw (preD O (k + 1))) := by
          rw [HX.out.2.2.2.2.1, List.length_append, ← HX.out.2.2.2.1, flatOf_app]
          exact hs6
        have H7 := hid (And.intro hn6 hs7)
        clear hn6 hs7 hn5 hs6 hg6 hb6 hs5 hk5 ho5 hb5 hS6 hS5 hS5a he5 d0 d1 da0 da1
        go_wp2_with fail
        exact ⟨⟨k + 1, by omega, by go_num, H7.out.1, H7.out.2⟩, by simp [intOf]; omega⟩
    · have hke : m3 = k := by omega
      subst hke
      have hlt : ¬ (m3 : Int) < (m3 : Int) := by omega
      have hpre : preD O m3 = preL O 0 := by unfold preD preL; rw [HM.out.2.2.1, List.take_length]; simp
      rw [hpre] at hsv
      have e1 : wr.cell? ⟨B, 3, none⟩ = some (.slice a4 m4 k4) := by rw [(HD.out.1.new_ hnr).cell]; rfl
      have HN2 := hid (And.intro hnr hsv)
      clear hnr hsv hpre e0 HN
      go_wp2_with fail
      clear e1
      go_loopw [3, 34] (fun v i wr => ∃ k : Nat, k ≤ m4 ∧ i = .int .i64 (k : Int) ∧ New w1 wr ∧ Sl wr w1.heap.size 52 1 v (preL O k).length (flatOf uw (preL O k))) (fun _ i _ => m4 - (intOf i).toNat)
      case atStart => exact ⟨0, Nat.zero_le _, rfl, HN2.out.1, HN2.out.2⟩
      case round =>
        clear HN2
        obtain ⟨k, hk, rfl, hnr, hsv⟩ := hrel
        by_cases hkn : k < m4
        · have w2' : IntKind.i64.wrap ((k : Int) + 1) = k + 1 := by rw [IntKind.wrap_i64]; omega
          have hNw := HZ.out.2.1.step hnr
          obtain ⟨bb, oo, x, rfl, hx, _, hcell⟩ := (HA.out.2.2.2.new_ hNw).get hkn
          obtain ⟨sg, nm, of⟩ := x
          have c0 := hcell 0 _ rfl
          have c1 := hcell 1 _ rfl
          have c2 := hcell 2 _ rfl
          rw [Nat.add_zero] at c0
          have j0 : (0 : Int) ≤ (k : Int) := by omega
          have j1 : (k : Int) < (m4 : Int) := by omega
          obtain ⟨a6, c6, rfl⟩ := hsv.val
          obtain ⟨q0, q1, q2, q3⟩ := HF.out.links _ (List.mem_of_getElem? hx)
          obtain ⟨z, rfl⟩ := Int.eq_ofNat_of_zero_le q2
          have hsg : sg.length ≤ 32 := by
            rcases q0 with e | e
            · simp only at e; rw [e]; simp
            · exact (signsB_len e).2
          have hnm : nm.length ≤ 32 := (signsB_len q1).2
          have hen := enc_len sg
          have hen2 := enc_len nm
          have hpre := HF.out.preL_len k
          have hz : z < 300000 := by simp only at q3; omega
          have z0 : IntKind.u64.wrap (z : Int) = z := by rw [IntKind.wrap_u64]; omega
          have hnew : preL O (k + 1) = (preL O k ++ enc sg ++ enc nm) ++ [z] := by rw [preL_succ hx]; simp
          obtain ⟨n0, hn0⟩ : ∃ n0, n0 = (preL O k).length := ⟨_, rfl⟩
          obtain ⟨P5, hP5⟩ : ∃ P5, P5 = preL O k ++ enc sg := ⟨_, rfl⟩
          obtain ⟨n5, hn5⟩ : ∃ n5, n5 = P5.length := ⟨_, rfl⟩
          obtain ⟨n6, hn6⟩ : ∃ n6, n6 = (P5 ++ enc nm).length := ⟨_, rfl⟩
          have hn55 : n5 ≤ 6000 := by rw [hn5, hP5, List.length_append]; omega
          have hn66 : n6 ≤ 7000 := by rw [hn6, List.length_append, ← hn5]; omega
          have hTx := fun X (hX : New wr X) => text_any X w1.heap.size _ (preL O k) (hsv.new_ hX) (Nat.le_trans hnr.size hX.size) (by omega) sg (by omega)
          have hTy := fun X v (hs : Sl X w1.heap.size 52 1 v n5 (flatOf uw P5)) (hb : w1.heap.size ≤ X.heap.size) => text_any X w1.heap.size v P5 (by rw [← hn5]; exact hs) hb (by omega) nm (by omega)
          have hlt := fun g hg => (hsv.lt g hg).2
          rw [← hP5] at hnew hTx
          rw [← hn0] at hTx hlt hsv ⊢
          obtain ⟨D, hD⟩ : ∃ D, D = wr.heap.size := ⟨_, rfl⟩
          obtain ⟨w4, hw4⟩ : ∃ w4, w4 = wr.alloc (.cells #[.string ⟨sg.toArray⟩, .string ⟨nm.toArray⟩, .int .i64 (z : Int)] 38) := ⟨_, rfl⟩
          have hn4 : New wr w4 := by rw [hw4]; exact (New.refl _).alloc _
          have hbx : Blk w4 D 38 #[.string ⟨sg.toArray⟩, .string ⟨nm.toArray⟩, .int .i64 (z : Int)] := by rw [hw4, hD]; exact Blk.new _ _ _
          have hD4 : D < w4.heap.size := by rw [hw4, hD, World.size_alloc]; omega
          have HTx := hid hTx
          have HTy := hid hTy
          have HD1 : Hid (∀ X, New w4 X → X.cell? ⟨D, 1, none⟩ = some (.string ⟨nm.toArray⟩) ∧ X.cell? ⟨D, 2, none⟩ = some (.int .i64 (z : Int))) := fun X hX => ⟨by rw [(hbx.new_ hX).cell]; rfl, by rw [(hbx.new_ hX).cell]; rfl⟩
          have d0 : w4.cell? ⟨D, 0, none⟩ = some (.string ⟨sg.toArray⟩) := by rw [hbx.cell]; rfl
          have d1 : w4.cell? ⟨D, 1, none⟩ = some (.string ⟨nm.toArray⟩) := by rw [hbx.cell]; rfl
          have d2 : w4.cell? ⟨D, 2, none⟩ = some (.int .i64 (z : Int)) := by rw [hbx.cell]; rfl
          have da0 : ∀ o, (w4.alloc o).cell? ⟨D, 0, none⟩ = some (.string ⟨sg.toArray⟩) := fun o => by rw [(hbx.new_ ((New.refl _).alloc o)).cell]; rfl
          have da1 : ∀ o, (w4.alloc o).cell? ⟨D, 1, none⟩ = some (.string ⟨nm.toArray⟩) := fun o => by rw [(hbx.new_ ((New.refl _).alloc o)).cell]; rfl
          have da2 : ∀ o, (w4.alloc o).cell? ⟨D, 2, none⟩ = some (.int .i64 (z : Int)) := fun o => by rw [(hbx.new_ ((New.refl _).alloc o)).cell]; rfl
          have HNE : Hid (∀ g, D ≤ g → ¬ (Value.slice a6 n0 c6).ownBlock = some g) := fun g hg e => by have := hlt g e; omega
          have HK : Hid (∀ X w5, New w4 X → Keeps (fun k => (Value.slice a6 n0 c6).ownBlock = some k) X w5 → New w1 w5) := fun X w5 hX hk => (hnr.step (hn4.step hX)).kept hk (fun g hg => (hsv.lt g hg).1)
          have HX := hid (And.intro hx (And.intro hnr (And.intro hn4 (And.intro hn5 (And.intro hn6 (And.intro hnew (And.intro hD4 hsv)))))))
          clear hx hnr hsv hNw hcell hTx hTy hlt hbx hn4 hn0 hn5 hn6 hnew q0 q1 q2 q3 hsg hnm hen hen2 hpre hD4 hP5
          have HS4 : Hid (∀ X, New w4 X → X.cell? ⟨D, 0, none⟩ = some (.string ⟨sg.toArray⟩) ∧ X.cell? ⟨D, 1, none⟩ = some (.string ⟨nm.toArray⟩) ∧ X.cell? ⟨D, 2, none⟩ = some (.int .i64 (z : Int))) := fun X hX => ⟨hX.cellK d0, hX.cellK d1, hX.cellK d2⟩
          have HBX : Hid ((w4.alloc (.cells #[wv z] 52)).drew.cell? ⟨w4.heap.size, 0, none⟩ = some (wv z)) := by have := (Blk.new w4 52 #[wv z]).cell 0; exact this
          have HSZ : Hid (∀ X, New w4 X → D < X.heap.size) := fun X hX => Nat.lt_of_lt_of_le HX.out.2.2.2.2.2.2.1 hX.size
          have HDW : Hid (D ≤ w4.heap.size) := Nat.le_of_lt HX.out.2.2.2.2.2.2.1
          have q4 : n6 + 1 ≤ maxLen := by unfold maxLen; omega
          have q5 : (n6 + 1) * 8 ≤ 140737488355328 := by omega
          go_wp2_with fail
          rw [← hw4, ← hD]
          clear hw4 hD
          go_region_held3 (fun w' => w'.cell? ⟨D, 0, none⟩ = some (.string ⟨sg.toArray⟩) ∧ w'.cell? ⟨D, 1, none⟩ = some (.string ⟨nm.toArray⟩) ∧ w'.cell? ⟨D, 2, none⟩ = some (.int .i64 (z : Int))) (first | exact HS4.out _ (by first | exact (New.refl _).drew | exact ((New.refl _).alloc _).drew | exact New.refl _) | exact hS7 | exact hS6 | exact hS6a _ | exact hS5 | exact hS5a _) (first
            | (go_at_call 67; refine (HTy.out _ (.slice a5 n5 c5) (by first | exact hs5 | exact hs5.alloc _) (by first | exact hn5.size | exact (hn5.alloc _).size)).mono ?_; rintro e w6 ⟨v6, rfl, hs6, hk6, ho6⟩; have hS6 := (show w6.cell? ⟨D, 0, none⟩ = some (.string ⟨sg.toArray⟩) ∧ w6.cell? ⟨D, 1, none⟩ = some (.string ⟨nm.toArray⟩) ∧ w6.cell? ⟨D, 2, none⟩ = some (.int .i64 (z : Int)) from by first | exact S_keep3 hk6 he5 hS5 | exact S_keep3 hk6 he5 (hS5a _)); have hS6a := fun o => (show (w6.alloc o).cell? ⟨D, 0, none⟩ = _ ∧ (w6.alloc o).cell? ⟨D, 1, none⟩ = _ ∧ (w6.alloc o).cell? ⟨D, 2, none⟩ = _ from ⟨((New.refl w6).alloc o).cellK hS6.1, ((New.refl w6).alloc o).cellK hS6.2.1, ((New.refl w6).alloc o).cellK hS6.2.2⟩); have he6 := own_ne1 ho6 he5 (by first | exact hD5 | exact Nat.lt_of_lt_of_le hD5 (Nat.le_of_lt (by rw [World.size_alloc]; exact Nat.lt_succ_self _))); rw [← HX.out.2.2.2.2.1] at hs6; have hn6 := New.kept (by first | exact hn5 | exact hn5.alloc _) hk6 (fun g hg => (hs5.lt g hg).1); obtain ⟨a8, c8, rfl⟩ := hs6.val)
            | (go_at_call 67; refine (HTx.out _ (HX.out.2.2.1.step (by first | exact (New.refl _).drew | exact ((New.refl _).alloc _).drew))).mono ?_; rintro e w5 ⟨v5, rfl, hs5, hk5, ho5⟩; have hS5 := S_keep3 hk5 (HNE.out _ (Nat.le_refl _)) (HS4.out _ (by first | exact (New.refl _).drew | exact ((New.refl _).alloc _).drew)); have hS5a := fun o => (show (w5.alloc o).cell? ⟨D, 0, none⟩ = _ ∧ (w5.alloc o).cell? ⟨D, 1, none⟩ = _ ∧ (w5.alloc o).cell? ⟨D, 2, none⟩ = _ from ⟨((New.refl w5).alloc o).cellK hS5.1, ((New.refl w5).alloc o).cellK hS5.2.1, ((New.refl w5).alloc o).cellK hS5.2.2⟩); have he5g := own_ne ho5 HNE.out; have he5 := he5g _ (Nat.le_refl _) (HSZ.out _ (by first | exact (New.refl _).drew | exact ((New.refl _).alloc _).drew)); have hD5 := Nat.lt_of_lt_of_le (HSZ.out _ (by first | exact (New.refl _).drew | exact ((New.refl _).alloc _).drew)) hk5.size; rw [← HX.out.2.2.2.1] at hs5; have hn5 := HK.out _ _ (by first | exact (New.refl _).drew | exact ((New.refl _).alloc _).drew) hk5; obtain ⟨a5, c5, rfl⟩ := hs5.val)
            | (refine step_append_sl rfl (.tmp 44) (.tmp 48) 25 rfl w1.heap.size 52 ti _ 1 8 Try.underlying25 HT.out.1 HT.out.2.1 HT.out.2.2.1 HT.out.2.2.2 rfl (by decide) (.slice a8 n6 c8) n6 _ (by simp [Act.eval, Act.put]) (hs6.alloc _) ⟨w6.heap.size, 0, none⟩ 1 1 [wv z] (by simp [Act.eval, Act.put]) (by decide) rfl (news_w (by rw [(Blk.new w6 _ _).cell]; rfl)) (one_w z) q4 q5 (hn6.alloc _).size ?_; intro v7 w7 hs7 hg7 hb7; have hS7 := S_grown3 hg7 he6 (hS6a _))
            | (refine step_append_sl rfl (.tmp 44) (.tmp 48) 25 rfl w1.heap.size 52 ti _ 1 8 Try.underlying25 HT.out.1 HT.out.2.1 HT.out.2.2.1 HT.out.2.2.2 rfl (by decide) (.slice a8 n6 c8) n6 _ (by simp [Act.eval, Act.put]) hs6 ⟨w5.heap.size, 0, none⟩ 1 1 [wv z] (by simp [Act.eval, Act.put]) (by decide) rfl (news_w (hk6.cell (by rw [(Blk.new w5 _ _).cell]; rfl) (fun e => absurd (hs5.lt _ e).2 (Nat.lt_irrefl _)))) (one_w z) q4 q5 hn6.size ?_; intro v7 w7 hs7 hg7 hb7; have hS7 := S_grown3 hg7 he6 hS6)
            | (refine step_append_sl rfl (.tmp 44) (.tmp 48) 25 rfl w1.heap.size 52 ti _ 1 8 Try.underlying25 HT.out.1 HT.out.2.1 HT.out.2.2.1 HT.out.2.2.2 rfl (by decide) (.slice a8 n6 c8) n6 _ (by simp [Act.eval, Act.put]) hs6 ⟨w4.heap.size, 0, none⟩ 1 1 [wv z] (by simp [Act.eval, Act.put]) (by decide) rfl (news_w (hk6.cell (hk5.cell HBX.out (HNE.out _ HDW.out)) (he5g _ HDW.out (by rw [size_drew, World.size_alloc]; exact Nat.lt_succ_self _)))) (one_w z) q4 q5 hn6.size ?_; intro v7 w7 hs7 hg7 hb7; have hS7 := S_grown3 hg7 he6 hS6))
          all_goals
            have hn7 : New w1 w7 := by first | exact (hn6.alloc _).grown hg7 (fun g hg => (hs6.lt g hg).1) | exact hn6.grown hg7 (fun g hg => (hs6.lt g hg).1)
            have hs8 : Sl w7 w1.heap.size 52 1 v7 (preL O (k + 1)).length (flatOf uw (preL O (k + 1))) := by
              rw [HX.out.2.2.2.2.2.1, List.length_append, ← HX.out.2.2.2.2.1, flatOf_app]
              exact hs7
            have H7 := hid (And.intro hn7 hs8)
            clear hn7 hs8 hn6 hs7 hg7 hb7 hs6 hk6 ho6 hn5 hs5 hk5 ho5 hS7 hS6 hS6a hS5 hS5a he5 he5g he6 hD5 d0 d1 d2 da0 da1 da2
            go_wp2_with fail
            exact ⟨⟨k + 1, by omega, by go_num, H7.out.1, H7.out.2⟩, by simp [intOf]; omega⟩
        · have hke : k = m4 := by omega
          subst hke
          have hlt : ¬ (k : Int) < (k : Int) := by omega
          have hbw := HD.out.1.new_ hnr
          have e0 : wr.cell? ⟨B, 0, none⟩ = some (.slice a1 m1 k1) := by rw [hbw.cell]; rfl
          have e1 : wr.cell? ⟨B, 1, none⟩ = some (.slice a2 m2 k2) := by rw [hbw.cell]; rfl
          have e2 : wr.cell? ⟨B, 2, none⟩ = some (.slice a3 m3 k3) := by rw [hbw.cell]; rfl
          have e3 : wr.cell? ⟨B, 3, none⟩ = some (.slice a4 k k4) := by rw [hbw.cell]; rfl
          have hpre := HF.out.preL_len k
          obtain ⟨n0, hn0⟩ : ∃ n0, n0 = (preL O k).length := ⟨_, rfl⟩
          obtain ⟨a6, c6, rfl⟩ := hsv.val
          rw [← hn0] at hsv hpre ⊢
          have u1 : IntKind.u64.wrap (m1 : Int) = m1 := by rw [IntKind.wrap_u64]; omega
          have u2 : IntKind.u64.wrap (m2 : Int) = m2 := by rw [IntKind.wrap_u64]; omega
          have u3 : IntKind.u64.wrap (m3 : Int) = m3 := by rw [IntKind.wrap_u64]; omega
          have u4 : IntKind.u64.wrap (k : Int) = k := by rw [IntKind.wrap_u64]; omega
          have q4 : n0 + 5 ≤ maxLen := by unfold maxLen; omega
          have q5 : (n0 + 5) * 8 ≤ 140737488355328 := by omega
          have hone : ∀ u ∈ flatOf uw [m1, m2, m3, k, magic], u.oneCell' = true := fun u hu => by
            obtain ⟨y, _, hy⟩ := List.mem_flatMap.1 hu
            exact uw_one y u hy
          have HN3 := hid (And.intro hnr (And.intro hsv (And.intro hn0 hone)))
          clear hnr hsv hn0 hone hbw hpre
          go_wp2_with (at_builtin; refine wpList_append_sl _ rfl (.tmp 51) (.tmp 68) 25 rfl w1.heap.size 52 ti _ 1 8 Try.underlying25 HT.out.1 HT.out.2.1 HT.out.2.2.1 HT.out.2.2.2 rfl (by decide) (.slice a6 n0 c6) n0 _ rfl (HN3.out.2.1.alloc _) ⟨wr.heap.size, 0, none⟩ 5 5 (flatOf uw [m1, m2, m3, k, magic]) rfl (by decide) rfl (news_l (Blk.new wr _ _)) HN3.out.2.2.2 q4 q5 (HN3.out.1.alloc _).size ?_; intro v7 w7 hs7 hg7 hb7)
          have hfin : Sl w7 w.heap.size 52 1 v7 (encO O).length (flatOf uw (encO O)) := by
            have e : encO O = preL O k ++ [m1, m2, m3, k, magic] := by
              rw [encO_eq, ← HM.out.2.2.2]
              unfold tl
              rw [← HM.out.1, ← HM.out.2.1, ← HM.out.2.2.1, ← HM.out.2.2.2]
            rw [e, List.length_append, ← HN3.out.2.2.1, flatOf_app]
            exact hs7.mono (by rw [HZ.out.1]; omega)
          have hnew : New w w7 := HZ.out.2.1.step ((HN3.out.1.alloc _).grown hg7 (fun g hg => (HN3.out.2.1.lt g hg).1))
          have H7 := hid (And.intro hfin hnew)
          clear hfin hnew hs7 hg7 hb7
          go_wp2
          go_ret
          exact ⟨_, rfl, H7.out.1, H7.out.2⟩
end Go.Proofs.Yteakbhfegbghoaa.Obj
