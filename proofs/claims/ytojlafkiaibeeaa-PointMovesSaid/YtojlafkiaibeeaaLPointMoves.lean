/- The walk of PointMoves. -/
import Derived.Test.YtojlafkiaibeeaaPointAwake
import Derived.BigQuiet
import Derived.Deep.CutRange
namespace Go.Proofs.Ytojlafkiaibeeaa.Law
open Go Go.RowKit Go.ChangeShapes Go.WideShapes Go.Proofs.Ytojlafkiaibeeaa.Wd Go.Proofs.Ytojlafkiaibeeaa.Word Go.Proofs.Ytojlafkiaibeeaa.Kit Go.Proofs.Ytojlafkiaibeeaa.Point
set_option linter.unusedSimpArgs false
set_option linter.unusedVariables false
attribute [local go_sem] max_i min_i
theorem refRaise_any (a b c d r : Int) (w : World) : Calls Try.prog 29 #[pt a b c d, .int .i64 r] w fun e w' => e = .returned (pt a (mxZ b (mnZ (mxZ r 0) 7)) c d) ∧ New w w' := by
  go_enter Try.func29, Try.ntmps29
  go_wp2
  refine bodyPost_ret (v := pt a (mxZ b (mnZ (mxZ r 0) 7)) c d) (by simp [results, Try.results29, go_sem]) rfl ⟨rfl, ?_⟩
  (repeat (first | exact New.refl _ | (refine New.step ?_ (by assumption)) | apply New.alloc | apply New.drewN | apply New.drew))
theorem refPointMay_any (a b c d : Int) (w : World) : Calls Try.prog 30 #[pt a b c d] w fun e w' => e = .returned (.bool (mayB a b c d)) ∧ New w w' := by
  go_enter Try.func30, Try.ntmps30
  go_wp2
  all_goals
    go_ret
    refine ⟨ret_bool (Bool.eq_iff_iff.2 ?_), ?_⟩
    · rw [mayB_iff]; simp; try omega
    · (repeat (first | exact New.refl _ | (refine New.step ?_ (by assumption)) | apply New.alloc | apply New.drewN | apply New.drew))
def S4 (P : Nat) (a b c d : Int) (w : World) : Prop := w.cell? ⟨P, 0, none⟩ = some (.int .i64 a) ∧ w.cell? ⟨P, 1, none⟩ = some (.int .i64 b) ∧ w.cell? ⟨P, 2, none⟩ = some (.int .i64 c) ∧ w.cell? ⟨P, 3, none⟩ = some (.int .i64 d)
theorem S4.new_ {P : Nat} {a b c d : Int} {w w' : World} (h : S4 P a b c d w) (n : New w w') : w'.cell? ⟨P, 0, none⟩ = some (.int .i64 a) ∧ w'.cell? ⟨P, 1, none⟩ = some (.int .i64 b) ∧ w'.cell? ⟨P, 2, none⟩ = some (.int .i64 c) ∧ w'.cell? ⟨P, 3, none⟩ = some (.int .i64 d) := ⟨n.cellK h.1, n.cellK h.2.1, n.cellK h.2.2.1, n.cellK h.2.2.2⟩
theorem S_al {P : Nat} {a b c d : Int} {w : World} (o : Obj) (h : w.cell? ⟨P, 0, none⟩ = some (.int .i64 a) ∧ w.cell? ⟨P, 1, none⟩ = some (.int .i64 b) ∧ w.cell? ⟨P, 2, none⟩ = some (.int .i64 c) ∧ w.cell? ⟨P, 3, none⟩ = some (.int .i64 d)) : (w.alloc o).cell? ⟨P, 0, none⟩ = some (.int .i64 a) ∧ (w.alloc o).cell? ⟨P, 1, none⟩ = some (.int .i64 b) ∧ (w.alloc o).cell? ⟨P, 2, none⟩ = some (.int .i64 c) ∧ (w.alloc o).cell? ⟨P, 3, none⟩ = some (.int .i64 d) := (show S4 P a b c d w from h).new_ ((New.refl w).alloc o)
theorem S_dr {P : Nat} {a b c d : Int} {w : World} (h : w.cell? ⟨P, 0, none⟩ = some (.int .i64 a) ∧ w.cell? ⟨P, 1, none⟩ = some (.int .i64 b) ∧ w.cell? ⟨P, 2, none⟩ = some (.int .i64 c) ∧ w.cell? ⟨P, 3, none⟩ = some (.int .i64 d)) : w.drew.cell? ⟨P, 0, none⟩ = some (.int .i64 a) ∧ w.drew.cell? ⟨P, 1, none⟩ = some (.int .i64 b) ∧ w.drew.cell? ⟨P, 2, none⟩ = some (.int .i64 c) ∧ w.drew.cell? ⟨P, 3, none⟩ = some (.int .i64 d) := h
theorem S_nw {P : Nat} {a b c d : Int} {w w' : World} (n : New w w') (h : w.cell? ⟨P, 0, none⟩ = some (.int .i64 a) ∧ w.cell? ⟨P, 1, none⟩ = some (.int .i64 b) ∧ w.cell? ⟨P, 2, none⟩ = some (.int .i64 c) ∧ w.cell? ⟨P, 3, none⟩ = some (.int .i64 d)) : w'.cell? ⟨P, 0, none⟩ = some (.int .i64 a) ∧ w'.cell? ⟨P, 1, none⟩ = some (.int .i64 b) ∧ w'.cell? ⟨P, 2, none⟩ = some (.int .i64 c) ∧ w'.cell? ⟨P, 3, none⟩ = some (.int .i64 d) := (show S4 P a b c d w from h).new_ n
theorem S_st {P G : Nat} {a b c d : Int} {w : World} {p q r s : Value} (hne : ¬ P = G) (h : w.cell? ⟨P, 0, none⟩ = some (.int .i64 a) ∧ w.cell? ⟨P, 1, none⟩ = some (.int .i64 b) ∧ w.cell? ⟨P, 2, none⟩ = some (.int .i64 c) ∧ w.cell? ⟨P, 3, none⟩ = some (.int .i64 d)) : ((((w.setCell ⟨G, 0, none⟩ p).setCell ⟨G, 1, none⟩ q).setCell ⟨G, 2, none⟩ r).setCell ⟨G, 3, none⟩ s).cell? ⟨P, 0, none⟩ = some (.int .i64 a) ∧ ((((w.setCell ⟨G, 0, none⟩ p).setCell ⟨G, 1, none⟩ q).setCell ⟨G, 2, none⟩ r).setCell ⟨G, 3, none⟩ s).cell? ⟨P, 1, none⟩ = some (.int .i64 b) ∧ ((((w.setCell ⟨G, 0, none⟩ p).setCell ⟨G, 1, none⟩ q).setCell ⟨G, 2, none⟩ r).setCell ⟨G, 3, none⟩ s).cell? ⟨P, 2, none⟩ = some (.int .i64 c) ∧ ((((w.setCell ⟨G, 0, none⟩ p).setCell ⟨G, 1, none⟩ q).setCell ⟨G, 2, none⟩ r).setCell ⟨G, 3, none⟩ s).cell? ⟨P, 3, none⟩ = some (.int .i64 d) := by
  have hk : Keeps (fun k => k = G) w ((((w.setCell ⟨G, 0, none⟩ p).setCell ⟨G, 1, none⟩ q).setCell ⟨G, 2, none⟩ r).setCell ⟨G, 3, none⟩ s) :=
    Keeps.setCell (F := fun k => k = G) (Keeps.setCell (F := fun k => k = G) (Keeps.setCell (F := fun k => k = G) (Keeps.setCell (F := fun k => k = G) (Keeps.refl _ w) (.inr rfl) _) (.inr rfl) _) (.inr rfl) _) (.inr rfl) _
  exact ⟨hk.cell h.1 hne, hk.cell h.2.1 hne, hk.cell h.2.2.1 hne, hk.cell h.2.2.2 hne⟩
theorem N_st {G : Nat} {w1 w : World} {p q r s : Value} (hne : w1.heap.size ≤ G) (h : New w1 w) : New w1 ((((w.setCell ⟨G, 0, none⟩ p).setCell ⟨G, 1, none⟩ q).setCell ⟨G, 2, none⟩ r).setCell ⟨G, 3, none⟩ s) := (((h.setCell (p := ⟨G, 0, none⟩) hne p).setCell (p := ⟨G, 1, none⟩) hne q).setCell (p := ⟨G, 2, none⟩) hne r).setCell (p := ⟨G, 3, none⟩) hne s
theorem n1 {w1 o : World} {cs : Array Value} {t : TypeId} (h : New (w1.alloc (.cells cs t)) o) : New w1 o ∧ Blk o w1.heap.size t cs := ⟨((New.refl _).alloc _).step h, (Blk.new w1 _ _).new_ h⟩
theorem n2 {w1 o : World} {cs ds : Array Value} {t s : TypeId} (h : New ((w1.alloc (.cells cs t)).alloc (.cells ds s)) o) : New w1 o ∧ Blk o w1.heap.size t cs ∧ Blk o (w1.heap.size + 1) s ds := by
  refine ⟨(((New.refl _).alloc _).alloc _).step h, (Blk.new w1 _ _).new_ (((New.refl _).alloc _).step h), ?_⟩
  have := (Blk.new (w1.alloc (.cells cs t)) s ds).new_ h
  rw [World.size_alloc] at this
  exact this
theorem n1r {w1 o : World} {cs : Array Value} {t : TypeId} (h : New (w1.alloc (.cells cs t)).drew o) : Blk o w1.heap.size t cs ∧ True := ⟨(n1 (show New (w1.alloc (.cells cs t)) o from (New.refl _).drew.step h)).2, trivial⟩
theorem n2r {w1 o : World} {cs ds : Array Value} {t s : TypeId} (h : New ((w1.alloc (.cells cs t)).alloc (.cells ds s)).drew o) : Blk o w1.heap.size t cs ∧ Blk o (w1.heap.size + 1) s ds := (n2 (show New ((w1.alloc (.cells cs t)).alloc (.cells ds s)) o from (New.refl _).drew.step h)).2
theorem n1e {w1 o : World} {cs : Array Value} {t : TypeId} {C : Prop} (h : New (w1.alloc (.cells cs t)).drew o) (k : Blk o w1.heap.size t cs → C) : C := k (n1r h).1
theorem n2e {w1 o : World} {cs ds : Array Value} {t s : TypeId} {C : Prop} (h : New ((w1.alloc (.cells cs t)).alloc (.cells ds s)).drew o) (k : Blk o w1.heap.size t cs → Blk o (w1.heap.size + 1) s ds → C) : C := k (n2r h).1 (n2r h).2
theorem m2e {w1 o : World} {cs ds : Array Value} {t s : TypeId} {C : Prop} (h : New ((w1.alloc (.cells cs t)).alloc (.cells ds s)) o) (k : Blk o w1.heap.size t cs → Blk o (w1.heap.size + 1) s ds → C) : C := k (n2 h).2.1 (n2 h).2.2
theorem blk4 {w : World} {g : Nat} {t : TypeId} {a b c d : Value} (h : Blk w g t #[a, b, c, d]) : w.cell? ⟨g, 0, none⟩ = some a ∧ w.cell? ⟨g, 1, none⟩ = some b ∧ w.cell? ⟨g, 2, none⟩ = some c ∧ w.cell? ⟨g, 3, none⟩ = some d := by
  refine ⟨?_, ?_, ?_, ?_⟩ <;> rw [h.cell] <;> rfl
set_option maxRecDepth 100000 in
set_option maxHeartbeats 4000000 in
theorem pointMoves_walk (a b c d r o : Int) (w : World) :
    Calls Try.prog 11 #[pt a b c d, .int .i64 r, .int .i64 o] w fun e w' => e = .returned (.bool true) ∧ New w w' := by
  have he := fun (a b c d a' b' c' d' : Int) w => eql_pt a b c d a' b' c' d' w
  have q1 : Go.bits .and .i64 d 262143 = d % 262144 := and18 d
  have q2 : Go.bits .and .i64 o 262143 = o % 262144 := and18 o
  have q3 : Go.bits .and .i64 (d % 262144 + o % 262144) 262143 = (d + o) % 262144 := (and18 _).trans (by omega)
  have q4 : ∀ x y : Int, ptEq a x c y a x c y = true := fun x y => ptEq_iff.2 ⟨rfl, rfl, rfl, rfl⟩
  have q5 : b ≤ mxZ b (mnZ (mxZ r 0) 7) := by unfold mxZ; omega
  have q6 : mayB a b c d = true → mayB a b c ((d + o) % 262144) = true := by
    intro h; have := mayB_iff.1 h; exact mayB_iff.2 (by omega)
  have Q6 := hid q6
  clear q6
  go_enter Try.func11, Try.ntmps11
  go_wp2_with fail
  refine (awake2_any _).mono ?_
  rintro e w1 ⟨rfl, hn1⟩
  obtain ⟨hc1, hf1⟩ := New.cells hn1
  have hs1 := New.size hn1
  try simp only [World.size_alloc, size_drewN, size_drew, size_setCell] at hc1 hf1 hs1
  try have hz1_w : w.heap.size < w1.heap.size := by omega
  have kp0 : w1.cell? ⟨w.heap.size, 0, none⟩ = some (.int .i64 a) := by go_simp
  have kp1 : w1.cell? ⟨w.heap.size, 1, none⟩ = some (.int .i64 b) := by go_simp
  have kp2 : w1.cell? ⟨w.heap.size, 2, none⟩ = some (.int .i64 c) := by go_simp
  have kp3 : w1.cell? ⟨w.heap.size, 3, none⟩ = some (.int .i64 d) := by go_simp
  have hnow : New w w1 := by (repeat (first | exact New.refl _ | (refine New.step ?_ (by assumption)) | apply New.alloc | apply New.drewN | apply New.drew))
  have hp1 : w.heap.size < w1.heap.size := by omega
  clear hc1 hf1 hn1
  have keepP : ∀ w', New w1 w' → (fun w' => w'.cell? ⟨w.heap.size, 0, none⟩ = some (.int .i64 a) ∧ w'.cell? ⟨w.heap.size, 1, none⟩ = some (.int .i64 b) ∧ w'.cell? ⟨w.heap.size, 2, none⟩ = some (.int .i64 c) ∧ w'.cell? ⟨w.heap.size, 3, none⟩ = some (.int .i64 d) ∧ New w1 w') w' := fun w' h => ⟨h.cellK kp0, h.cellK kp1, h.cellK kp2, h.cellK kp3, h⟩
  go_upto_region 3 with fail
  go_cut [7, 8] from 12 to 17 (fun q m wx => ∃ gq gm : Nat, q = .pointer (some ⟨gq, 0, none⟩) ∧ m = .pointer (some ⟨gm, 0, none⟩) ∧ gq < wx.heap.size ∧ gm < wx.heap.size ∧ wx.cell? ⟨gq, 0, none⟩ = some (.int .i64 a) ∧ wx.cell? ⟨gq, 1, none⟩ = some (.int .i64 (mxZ b (mnZ (mxZ r 0) 7))) ∧ wx.cell? ⟨gq, 2, none⟩ = some (.int .i64 c) ∧ wx.cell? ⟨gq, 3, none⟩ = some (.int .i64 d) ∧ wx.cell? ⟨gm, 0, none⟩ = some (.int .i64 a) ∧ wx.cell? ⟨gm, 1, none⟩ = some (.int .i64 b) ∧ wx.cell? ⟨gm, 2, none⟩ = some (.int .i64 c) ∧ wx.cell? ⟨gm, 3, none⟩ = some (.int .i64 ((d + o) % 262144)) ∧ New w1 wx)
  case first =>
    have hK0 : S4 w.heap.size a b c d w1 := ⟨kp0, kp1, kp2, kp3⟩
    have hK := hid hK0
    have hPP : Hid (w.heap.size < w1.heap.size) := hp1
    clear hK0
    go_region_held3 (fun w' => w'.cell? ⟨w.heap.size, 0, none⟩ = some (.int .i64 a) ∧ w'.cell? ⟨w.heap.size, 1, none⟩ = some (.int .i64 b) ∧ w'.cell? ⟨w.heap.size, 2, none⟩ = some (.int .i64 c) ∧ w'.cell? ⟨w.heap.size, 3, none⟩ = some (.int .i64 d)) (((repeat (first | (with_reducible refine S_st (by omega) ?_) | with_reducible apply S_al | with_reducible refine S_dr ?_ | with_reducible refine S_nw hm ?_ | with_reducible refine S_nw hn ?_ | with_reducible exact hK.out.new_ (New.refl w1))); done)) (first | (go_at_call 27; (with_reducible refine (raise_any _ _ _ _ _ _).mono ?_); rintro e wr ⟨rfl, hn⟩; obtain ⟨hcwr, hfwr⟩ := New.cells hn; have hswr := New.size hn; (try simp only [World.size_alloc, size_drew, size_setCell] at hcwr hfwr hswr); (try have hzwr0 : w.heap.size < wr.heap.size := by omega); (try have hzwr1 : w1.heap.size < wr.heap.size := by omega); (try have hzwr2 : w1.heap.size + 1 < wr.heap.size := by omega); (first | (refine n2e hn ?_; intro b7 b8; obtain ⟨b70, b71, b72, b73⟩ := blk4 b7; obtain ⟨b80, b81, b82, b83⟩ := blk4 b8) | (refine n1e hn ?_; intro b7; obtain ⟨b70, b71, b72, b73⟩ := blk4 b7) | skip)) | (go_at_call 28; (with_reducible refine (move_any _ _ _ _ _ _).mono ?_); rintro e wm ⟨rfl, hm⟩; obtain ⟨hcwm, hfwm⟩ := New.cells hm; have hswm := New.size hm; (try simp only [World.size_alloc, size_drew, size_setCell] at hcwm hfwm hswm); (try have hzwm0 : w.heap.size < wm.heap.size := by omega); (try have hzwm1 : w1.heap.size < wm.heap.size := by omega); (try have hzwm2 : w1.heap.size + 1 < wm.heap.size := by omega); (try have hzwm3 : wr.heap.size < wm.heap.size := by omega); (try have hzwm4 : wr.heap.size + 1 < wm.heap.size := by omega); (try have hzwm5 : w1.heap.size < wr.heap.size + 1 := by omega); (try have hzwm6 : w1.heap.size + 1 < wr.heap.size + 1 := by omega); (first | (refine m2e hm ?_; intro c7 c8; clear hcwm hfwm; have c7f := c7.frozen; obtain ⟨c70, c71, c72, c73⟩ := blk4 c7; have c8f := c8.frozen; obtain ⟨c80, c81, c82, c83⟩ := blk4 c8) | skip)))
    all_goals
      clear hK hPP he q1 q2 q3 q4 q5 Q6
      go_wp2_with fail
      go_meet
      refine ⟨_, _, rfl, rfl, ?_, ?_, ?_, ?_, ?_, ?_, ?_, ?_, ?_, ?_, ?_⟩
      · simp only [World.size_alloc, size_setCell, size_drew]; omega
      · simp only [World.size_alloc, size_setCell, size_drew]; omega
      · go_simp
      · go_simp
      · go_simp
      · go_simp
      · go_simp
      · go_simp
      · go_simp
      · go_simp
      · repeat (first | (with_reducible refine N_st (by omega) ?_) | with_reducible apply New.alloc | with_reducible apply New.drew | (with_reducible refine New.step ?_ hm) | (with_reducible refine New.step ?_ hn) | with_reducible exact New.refl _)
  case rest =>
    obtain ⟨gq, gm, rfl, rfl, hgq, hgm, x0, x1, x2, x3, y0, y1, y2, y3, hnx⟩ := hcut
    have p0 := hnx.cellK kp0
    have p1 := hnx.cellK kp1
    have p2 := hnx.cellK kp2
    have p3 := hnx.cellK kp3
    have hnc : New w wc := hnow.step hnx
    have HN := hid hnc
    have hPQ : ¬ wc.heap.size = gq := by omega
    have hPM : ¬ wc.heap.size = gm := by omega
    have hP : w.heap.size < wc.heap.size := by have := hnx.size; omega
    clear hnx hnc kp0 kp1 kp2 kp3 keepP hnow hs1 hz1_w
    go_upto_region 6 with fail
    have hE : New wc (wc.alloc (.cells #[.int .i64 a, .int .i64 b, .int .i64 c, .int .i64 ((d + o) % 262144)] 47)) := (New.refl _).alloc _
    obtain ⟨n0, n1, n2, n3⟩ := blk4 (Blk.new wc 47 #[.int .i64 a, .int .i64 b, .int .i64 c, .int .i64 ((d + o) % 262144)])
    replace x0 := hE.cellK x0
    replace x1 := hE.cellK x1
    replace x2 := hE.cellK x2
    replace x3 := hE.cellK x3
    replace y0 := hE.cellK y0
    replace y1 := hE.cellK y1
    replace y2 := hE.cellK y2
    replace y3 := hE.cellK y3
    replace p0 := hE.cellK p0
    replace p1 := hE.cellK p1
    replace p2 := hE.cellK p2
    replace p3 := hE.cellK p3
    replace HN := hid (HN.out.step hE)
    clear hE hPQ hPM hP hgq hgm hp1 q1 q2 q3
    generalize wc.alloc (.cells #[.int .i64 a, .int .i64 b, .int .i64 c, .int .i64 ((d + o) % 262144)] 47) = wE at *
    generalize wc.heap.size = gn at *
    have q4 : ∀ x y z t : Int, ptEq x y z t x y z t = true := fun x y z t => ptEq_iff.2 ⟨rfl, rfl, rfl, rfl⟩
    have q5b : decide (b ≤ mxZ b (mnZ (mxZ r 0) 7)) = true := decide_eq_true q5
    have hR := fun X => refRaise_any a b c d r X
    generalize mxZ b (mnZ (mxZ r 0) 7) = M at *
    cases hmb : mayB a b c d with
    | false =>
      refine wp_region_quiet (C := fun w' => New wE w') (by kernel_rfl) (by kernel_rfl) (New.refl wE).drew ?_
      simp only [List.toList_toArray]
      repeat (first
        | go_big_quiet_skip
        | (go_big_quiet_want
           apply Exists.intro
           refine ⟨fun w' hw' => ?_, ?_⟩
           · have x0_ := hw'.cellK x0; have x1_ := hw'.cellK x1; have x2_ := hw'.cellK x2; have x3_ := hw'.cellK x3; have y0_ := hw'.cellK y0; have y1_ := hw'.cellK y1; have y2_ := hw'.cellK y2; have y3_ := hw'.cellK y3; have p0_ := hw'.cellK p0; have p1_ := hw'.cellK p1; have p2_ := hw'.cellK p2; have p3_ := hw'.cellK p3; have n0_ := hw'.cellK n0; have n1_ := hw'.cellK n1; have n2_ := hw'.cellK n2; have n3_ := hw'.cellK n3; go_simp; first | (with_reducible rfl) | (go_at_call 29; with_reducible exact ((hR _).mono (fun e w2 h => ⟨h.1, hw'.step h.2⟩))) | (go_at_call 30; with_reducible exact ((refPointMay_any _ _ _ _ _).mono (fun e w2 h => ⟨h.1, hw'.step h.2⟩)))
           go_big_quiet_on
           try simp only [Act.put, List.setIfInBounds_toArray, List.set_cons_zero, List.set_cons_succ]))
      refine wpQuiet_nil ?_
      intro wQ hwQ
      go_wp2_with fail
      go_ret
      exact ⟨rfl, HN.out.step hwQ⟩
    | true =>
      have hmc := Q6.out hmb
      refine wp_region_quiet (C := fun w' => New wE w') (by kernel_rfl) (by kernel_rfl) (New.refl wE).drew ?_
      simp only [List.toList_toArray]
      repeat (first
        | go_big_quiet_skip
        | (go_big_quiet_want
           apply Exists.intro
           refine ⟨fun w' hw' => ?_, ?_⟩
           · have x0_ := hw'.cellK x0; have x1_ := hw'.cellK x1; have x2_ := hw'.cellK x2; have x3_ := hw'.cellK x3; have y0_ := hw'.cellK y0; have y1_ := hw'.cellK y1; have y2_ := hw'.cellK y2; have y3_ := hw'.cellK y3; have p0_ := hw'.cellK p0; have p1_ := hw'.cellK p1; have p2_ := hw'.cellK p2; have p3_ := hw'.cellK p3; have n0_ := hw'.cellK n0; have n1_ := hw'.cellK n1; have n2_ := hw'.cellK n2; have n3_ := hw'.cellK n3; go_simp; first | (with_reducible rfl) | (go_at_call 29; with_reducible exact ((hR _).mono (fun e w2 h => ⟨h.1, hw'.step h.2⟩))) | (go_at_call 30; with_reducible exact ((refPointMay_any _ _ _ _ _).mono (fun e w2 h => ⟨h.1, hw'.step h.2⟩))) | (go_at_call 31; with_reducible exact ((may_any _ _ _ _ _).mono (fun e w2 h => ⟨h.1, hw'.step h.2⟩)))
           go_big_quiet_on
           try simp only [Act.put, List.setIfInBounds_toArray, List.set_cons_zero, List.set_cons_succ]))
      refine wpQuiet_nil ?_
      intro wQ hwQ
      go_wp2_with fail
      go_ret
      exact ⟨rfl, HN.out.step hwQ⟩
theorem pointMoves_row {H : Type} {enc : TypeId × Value → H} (W : World) {base : Nat}
    (v0 : Value) (d0 : DataW H) (p0 : List MemPlace) (k0 : Value.okWide Try.prog W .any base 47 v0) (h0 : DataW.Trod enc Try.prog W 0 (fun _ => true) true 47 v0 d0 p0) (l0 : ∀ x ∈ p0, x.block < W.heap.size)
    (v1 : Value) (d1 : DataW H) (p1 : List MemPlace) (k1 : Value.okWide Try.prog W .any base 3 v1) (h1 : DataW.Trod enc Try.prog W 0 (fun _ => true) true 3 v1 d1 p1) (l1 : ∀ x ∈ p1, x.block < W.heap.size)
    (v2 : Value) (d2 : DataW H) (p2 : List MemPlace) (k2 : Value.okWide Try.prog W .any base 3 v2) (h2 : DataW.Trod enc Try.prog W 0 (fun _ => true) true 3 v2 d2 p2) (l2 : ∀ x ∈ p2, x.block < W.heap.size)
    : Calls Try.prog 11 #[v0, v1, v2] W fun e W' => e = .returned (.bool true) ∧ Below W.heap.size W W' := by
  obtain ⟨a, b, c, d, rfl, _⟩ := open_pt k0 h0
  obtain ⟨r, rfl, rfl, rfl, _⟩ := open_int Try.underlying3 k1 h1
  obtain ⟨o, rfl, rfl, rfl, _⟩ := open_int Try.underlying3 k2 h2
  exact pointMoves_walk a b c d r o W
end Go.Proofs.Ytojlafkiaibeeaa.Law
