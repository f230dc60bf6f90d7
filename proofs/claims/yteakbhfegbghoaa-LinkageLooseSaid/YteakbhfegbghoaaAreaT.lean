/- The contract of area's Take. -/
import Derived.Test.YteakbhfegbghoaaAreaG
import Derived.Deep.OwnRows
import Derived.Deep.RegionWith
namespace Go.Proofs.Yteakbhfegbghoaa.Area
open Go Go.RowKit Go.Proofs.Yteakbhfegbghoaa.Kit
set_option linter.unusedSimpArgs false
set_option linter.unusedVariables false
theorem word_info : (Try.prog.info? 52).map (fun i => (i.zero, i.size, i.bytes)) = some (some (.int .u64 0), 1, 8) := by kernel_rfl
theorem wrow_made (n : Nat) : wrow (List.replicate n 0) = madeCells #[.int .u64 0] n := by
  apply Array.ext
  · simp [wrow, madeCells]
  · intro i h1 h2
    simp [wrow, madeCells, Nat.mod_one]
def insL (rs : List Room) (k : Nat) (x : Room) : List Room := rs.take k ++ x :: rs.drop k
theorem mem_insL {rs : List Room} {k : Nat} {x r : Room} (h : r ∈ insL rs k x) : r = x ∨ r ∈ rs := by
  rcases List.mem_append.1 h with h | h
  · exact .inr (List.mem_of_mem_take h)
  · rcases List.mem_cons.1 h with h | h
    · exact .inl h
    · exact .inr (List.mem_of_mem_drop h)
theorem insL_perm (rs : List Room) (k : Nat) (x : Room) : (insL rs k x).Perm (x :: rs) := by
  unfold insL
  refine List.perm_middle.trans ?_
  rw [List.take_append_drop]
theorem insL_len (rs : List Room) (k : Nat) (x : Room) : (insL rs k x).length = rs.length + 1 := by rw [(insL_perm rs k x).length_eq]; rfl
def TakenPost (w : World) (A N : Nat) (S : Nat → Prop) (lv : Value) (m : Nat) (rs' : List Room) (e : Ending) (w2 : World) : Prop :=
  ∃ a' c', e = .returned (.slice a' m c') ∧ (w2.cell? ⟨A, 1, none⟩ = some lv ∧ w2.frozen? ⟨A, 1, none⟩ = false) ∧ ∃ S' : Nat → Prop, Own (w2.setCell ⟨A, 1, none⟩ (.slice a' m c')) A N S' rs' ∧ Keeps S w (w2.setCell ⟨A, 1, none⟩ (.slice a' m c')) ∧ ∀ k, S' k → S k ∨ w.heap.size ≤ k
theorem take_ins (w : World) (A N : Nat) (S : Nat → Prop) (lv : Value) (rs : List Room) (har : Ar w A N lv rs) (hS : ∀ k, S k ↔ Foot A lv rs k) (hN : N ≤ 100000) (k q : Nat) (hf : Fit rs (q : Int) k) (hq : 1 ≤ q) (hr : (q : Int) ≤ (N : Int) - endOf rs k) :
    Calls Try.prog 54 #[lv, .int .i64 (k : Int), .slice (some ⟨w.heap.size + 1, 0, none⟩) 1 1]
      ((w.alloc (.cells (madeCells #[.int .u64 0] q) 52)).alloc (.cells #[.int .i64 (endOf rs k : Int), .slice (some ⟨w.heap.size, 0, none⟩) q q] 126)).drew
      (TakenPost w A N S lv (rs.length + 1) (insL rs k (endOf rs k, w.heap.size, List.replicate q 0))) := by
  obtain ⟨W, hW⟩ : ∃ W, W = ((w.alloc (.cells (madeCells #[.int .u64 0] q) 52)).alloc (.cells #[.int .i64 (endOf rs k : Int), .slice (some ⟨w.heap.size, 0, none⟩) q q] 126)).drew := ⟨_, rfl⟩
  obtain ⟨x, hx⟩ : ∃ x : Room, x = (endOf rs k, w.heap.size, List.replicate q 0) := ⟨_, rfl⟩
  have hn : New w W := by rw [hW]; exact (((New.refl w).alloc _).alloc _).drew
  have hrcx : (rc x).toArray = #[.int .i64 (endOf rs k : Int), .slice (some ⟨w.heap.size, 0, none⟩) q q] := by rw [hx]; simp [rc, rsl]
  have hb1 : Blk W (w.heap.size + 1) 126 (rc x).toArray := by
    rw [hrcx, hW]
    have := Blk.new (w.alloc (.cells (madeCells #[.int .u64 0] q) 52)) 126 #[.int .i64 (endOf rs k : Int), .slice (some ⟨w.heap.size, 0, none⟩) q q]
    rw [World.size_alloc] at this
    exact this.drew
  have hb0 : Blk W w.heap.size 52 (wrow (List.replicate q 0)) := by
    rw [wrow_made, hW]
    exact ((Blk.new w _ _).alloc _).drew
  rw [← hW, ← hx]
  have hlen := har.2.2.2.2.len
  refine (insert_any W 0 (Nat.zero_le _) lv (flatOf rc rs) rs.length k (har.2.1.new_ hn) (by omega) hf.1 (fun u hu => by
    obtain ⟨y, _, hy⟩ := List.mem_flatMap.1 hu
    exact rc_one y u hy) (w.heap.size + 1) (rc x) rfl hb1 (fun e => by have := (har.2.1.lt _ e).2; omega) (rc_one x)).mono ?_
  rintro e w2 ⟨v', rfl, h1, h2, h3⟩
  obtain ⟨a', c', rfl⟩ := h1.val
  rw [flatOf_take rc_len, flatOf_drop rc_len, ← flatOf_one (f := rc) x, ← flatOf_app, ← flatOf_app, show rs.take k ++ [x] ++ rs.drop k = insL rs k x by simp [insL]] at h1
  have hl2 := insL_len rs k x
  rw [← hl2] at h1
  have hAr := har.keeps (hn.keeps (fun _ => False)) (fun _ _ h => h)
  have hnd : ((insL rs k x).map (fun r => r.2.1)).Nodup := by
    rw [((insL_perm rs k x).map _).nodup_iff, List.map_cons, List.nodup_cons]
    refine ⟨fun h => ?_, har.2.2.2.1⟩
    obtain ⟨r, hr, e⟩ := List.mem_map.1 h
    have := (har.2.2.1 r hr).lt
    rw [hx] at e
    exact absurd (e ▸ this) (Nat.lt_irrefl _)
  have hord : Ord N (insL rs k x) := har.2.2.2.2.ins hf x (by rw [hx]) (by rw [hx]; simp) (by rw [hx]; simp; omega) (by rw [hx]; simp; omega)
  have hne : lv.ownBlock ≠ some w.heap.size := fun e => by have := (har.2.1.lt _ e).2; omega
  obtain ⟨q1, q2⟩ := hAr.relist h2 h1 (fun r hr => by
    rcases mem_insL hr with rfl | hr
    · rw [hx]
      exact hb0.keeps h2 hne
    · exact (hAr.2.2.1 r hr).keeps h2 (hAr.apart.2 r hr).2) hnd hord
  rw [hl2] at q2
  refine ⟨a', c', by rw [← hl2], q1, _, ⟨_, q2, fun k => Iff.rfl⟩, ?_, Foot.sub hS h3 hn.size (fun r hr => ?_)⟩
  · exact ((hn.keeps S).trans (h2.mono fun i _ h => (hS i).2 (.inr (.inl h))) (fun _ _ h => h)).setCell (.inr ((hS A).2 (.inl rfl))) _
  · rcases mem_insL hr with rfl | hr
    · rw [hx]; exact .inr (Nat.le_refl _)
    · exact .inl hr
def TakePost (w : World) (A N : Nat) (S : Nat → Prop) (rs : List Room) (n : Int) (e : Ending) (w' : World) : Prop :=
  (n < 1 ∧ e = .returned (.tuple #[.int .i64 0, .int .i64 1]) ∧ New w w') ∨ (1 ≤ n ∧ ∃ k, Fit rs n k ∧ (((N : Int) - endOf rs k < n ∧ e = .returned (.tuple #[.int .i64 0, .int .i64 7]) ∧ New w w') ∨
    (n ≤ (N : Int) - endOf rs k ∧ e = .returned (.tuple #[.int .i64 (endOf rs k : Int), .int .i64 0]) ∧ ∃ (g : Nat) (S' : Nat → Prop), Own w' A N S' (insL rs k (endOf rs k, g, List.replicate n.toNat 0)) ∧ Keeps S w w' ∧ ∀ k, S' k → S k ∨ w.heap.size ≤ k)))
set_option maxRecDepth 100000 in
set_option maxHeartbeats 8000000 in
theorem take_any (w : World) (A N : Nat) (S : Nat → Prop) (rs : List Room) (h : Own w A N S rs) (hN : N ≤ 100000) (n : Int) :
    Calls Try.prog 33 #[.pointer (some ⟨A, 0, none⟩), .int .i64 n] w (TakePost w A N S rs n) := by
  have H := hid h
  obtain ⟨lv, har, hS⟩ := h
  have HA := hid (And.intro har hS)
  obtain ⟨a, c, rfl⟩ := har.2.1.val
  have d0 : w.cell? ⟨A, 0, none⟩ = some (.int .i64 (N : Int)) := by rw [har.1.cell]; rfl
  have d1 : w.cell? ⟨A, 1, none⟩ = some (.slice a rs.length c) := by rw [har.1.cell]; rfl
  have hlen := har.2.2.2.2.len
  clear har hS
  by_cases hn1 : n < 1
  · have HF := hid (show TakePost w A N S rs n (.returned (.tuple #[.int .i64 0, .int .i64 1])) w from .inl ⟨hn1, rfl, New.refl _⟩)
    generalize rs.length = m at *
    go_enter Try.func33, Try.ntmps33
    go_wp2
    go_ret2
    exact HF.out
  · have q1 : decide (n < 1) = false := decide_eq_false hn1
    obtain ⟨m, hm⟩ : ∃ m, m = rs.length := ⟨_, rfl⟩
    rw [← hm] at d1 hlen
    have HL : Hid (LsAt 2 rc w (.slice a m c) rs) := by rw [hm]; exact LsAt.of_sl rc_len HA.out.1.2.1
    have HD : Hid (∀ X, New w X → X.cell? ⟨A, 0, none⟩ = some (.int .i64 (N : Int)) ∧ X.cell? ⟨A, 1, none⟩ = some (.slice a m c)) := fun X hX => ⟨hX.cellK d0, hX.cellK d1⟩
    have HM := hid hm
    clear hm d0 d1
    go_enter Try.func33, Try.ntmps33
    go_wp2_with fail
    go_loopw [6, 7] (fun s i wr => ∃ k : Nat, k ≤ m ∧ i = .int .i64 (k : Int) ∧ s = .int .i64 (endOf rs k : Int) ∧ (∀ (j : Nat) (r : Room), j < k → rs[j]? = some r → (r.1 : Int) - endOf rs j < n) ∧ New w wr) (fun _ i _ => m - (intOf i).toNat)
    case atStart => exact ⟨0, Nat.zero_le _, rfl, rfl, fun j r hj => absurd hj (by omega), New.refl _⟩
    case round =>
      obtain ⟨k, hk, rfl, rfl, hall, hnr⟩ := hrel
      obtain ⟨d0, d1⟩ := HD.out _ hnr
      have hend := HA.out.1.2.2.2.2.end_le k
      have HE := hid (And.intro hall hnr)
      have HH := hid hend
      have hout : Fit rs n k → TakePost w A N S rs n (.returned (.tuple #[.int .i64 0, .int .i64 7])) wr ∨ True := fun _ => .inr trivial
      clear hall
      obtain ⟨s, hs⟩ : ∃ s, s = endOf rs k := ⟨_, rfl⟩
      rw [← hs] at hend ⊢
      have HS := hid hs
      clear hs hout
      by_cases hkm : k < m
      · have w2' : IntKind.i64.wrap ((k : Int) + 1) = k + 1 := by rw [IntKind.wrap_i64]; omega
        obtain ⟨b, o, r, rfl, hx, _, hcell⟩ := (HL.out.new_ hnr).get hkm
        have c0 := hcell 0 _ rfl
        have c1 := hcell 1 _ rfl
        rw [Nat.add_zero] at c0
        unfold rsl at c1
        have j0 : (0 : Int) ≤ (k : Int) := by omega
        have j1 : (k : Int) < (m : Int) := by omega
        have j2 : decide (k < m) = true := decide_eq_true hkm
        have hr := HA.out.1.2.2.2.2 k r hx
        have hsx := endOf_succ hx
        have w3' : IntKind.i64.wrap ((r.1 : Int) - (s : Int)) = (r.1 : Int) - (s : Int) := by rw [IntKind.wrap_i64]; omega
        have w4' : IntKind.i64.wrap ((r.1 : Int) + (r.2.2.length : Int)) = (r.1 : Int) + (r.2.2.length : Int) := by rw [IntKind.wrap_i64]; omega
        have HX := hid (And.intro hx (And.intro hr hsx))
        clear hcell hx hr hsx hnr
        by_cases hfit : (r.1 : Int) - (s : Int) < n
        · go_wp2_with fail
          refine wp_region_quiet (C := fun w' => New wr w') (by kernel_rfl) (by kernel_rfl) (New.refl wr).drew ?_
          simp only [List.toList_toArray]
          repeat (first
            | go_big_quiet_skip
            | (go_big_quiet_want
               apply Exists.intro
               refine ⟨fun w' hw' => ?_, ?_⟩
               · have d0_ := hw'.cellK d0; have d1_ := hw'.cellK d1; have c0_ := hw'.cellK c0; have c1_ := hw'.cellK c1; go_simp; first | (with_reducible rfl)
               go_big_quiet_on
               try simp only [Act.put, List.setIfInBounds_toArray, List.set_cons_zero, List.set_cons_succ]))
          refine wpQuiet_nil ?_
          intro wQ hwQ
          go_wp2_with fail
          refine ⟨⟨k + 1, by omega, by go_num, ?_, fun j y hj hy => ?_, HE.out.2.step hwQ⟩, by simp [intOf]; omega⟩
          · rw [HX.out.2.2]; go_num
          · by_cases e : j = k
            · rw [e, HX.out.1] at hy
              cases hy
              rw [e, ← HS.out]
              exact hfit
            · exact HE.out.1 j y (by omega) hy
        · have hFit : Fit rs n k := ⟨by have := HM.out; omega, HE.out.1, fun y hy => by rw [HX.out.1] at hy; cases hy; rw [← HS.out]; omega⟩
          have w5' : IntKind.i64.wrap ((N : Int) - (s : Int)) = (N : Int) - (s : Int) := by rw [IntKind.wrap_i64]; omega
          by_cases hfull : (N : Int) - (s : Int) < n
          · have HF := hid (show TakePost w A N S rs n (.returned (.tuple #[.int .i64 0, .int .i64 7])) wr from .inr ⟨by omega, k, hFit, .inl ⟨by rw [← HS.out]; exact hfull, rfl, HE.out.2⟩⟩)
            clear hFit
            go_wp2
            go_ret2
            exact HF.out
          · obtain ⟨q, hq⟩ := Int.eq_ofNat_of_zero_le (show 0 ≤ n by omega)
            subst hq
            have hmk := fun X => run_make_row' (P := Try.prog) 25 52 (.int .u64 0) 8 Try.underlying25 word_info rfl .i64 .i64 q (by omega) (by omega) X
            have HK : Hid (∀ X, New wr X → X.cell? ⟨A, 1, none⟩ = some (.slice (some ⟨b, o, none⟩) m c) ∧ X.frozen? ⟨A, 1, none⟩ = false) := fun X hX => ⟨hX.cellK d1, ((HA.out.1.1.new_ HE.out.2).new_ hX).frozen 1⟩
            have HFit := hid hFit
            have HI := hid (take_ins wr A N S (.slice (some ⟨b, o, none⟩) m c) rs ((HM.out ▸ HA.out.1).keeps (HE.out.2.keeps (fun _ => False)) (fun _ _ h => h)) (by rw [HM.out]; exact HA.out.2) hN k q hFit (by omega) (by rw [← HS.out]; omega))
            rw [← HS.out, ← HM.out] at HI
            clear hFit
            have kA := fun o => (HK.out _ ((New.refl wr).alloc o)).1
            have kB := fun o o' => (HK.out _ (((New.refl wr).alloc o).alloc o')).1
            go_wp2_with fail
            go_region_with (first | (go_at_call 54; refine HI.out.mono ?_; rintro e w2 ⟨a', c', rfl, ⟨e2, e3⟩, hR⟩; have HR := hid hR; clear hR))
            all_goals
              have HT := hid (show TakePost w A N S rs (q : Int) (.returned (.tuple #[.int .i64 (s : Int), .int .i64 0])) (w2.setCell ⟨A, 1, none⟩ (.slice a' (m + 1) c')) from .inr ⟨by omega, k, HFit.out, .inr ⟨by rw [← HS.out]; omega, by rw [← HS.out], by
                obtain ⟨S', h1, h2, h3⟩ := HR.out
                exact ⟨wr.heap.size, S', by rw [← HS.out]; exact h1, (HE.out.2.keeps S).trans h2 (fun _ _ h => h), fun j hj => (h3 j hj).imp id fun h => Nat.le_trans HE.out.2.size h⟩⟩⟩)
              go_wp2
              go_ret2
              exact HT.out
      · have hkm' : k = m := by omega
        have hFit : Fit rs n k := ⟨by have := HM.out; omega, HE.out.1, fun y hy => absurd (List.getElem?_eq_some_iff.1 hy).1 (by have := HM.out; omega)⟩
        have w5' : IntKind.i64.wrap ((N : Int) - (s : Int)) = (N : Int) - (s : Int) := by rw [IntKind.wrap_i64]; omega
        subst hkm'
        by_cases hfull : (N : Int) - (s : Int) < n
        · have HF := hid (show TakePost w A N S rs n (.returned (.tuple #[.int .i64 0, .int .i64 7])) wr from .inr ⟨by omega, k, hFit, .inl ⟨by rw [← HS.out]; exact hfull, rfl, HE.out.2⟩⟩)
          clear hFit
          go_wp2
          go_ret2
          exact HF.out
        · obtain ⟨q, hq⟩ := Int.eq_ofNat_of_zero_le (show 0 ≤ n by omega)
          subst hq
          have hmk := fun X => run_make_row' (P := Try.prog) 25 52 (.int .u64 0) 8 Try.underlying25 word_info rfl .i64 .i64 q (by omega) (by omega) X
          have HK : Hid (∀ X, New wr X → X.cell? ⟨A, 1, none⟩ = some (.slice a k c) ∧ X.frozen? ⟨A, 1, none⟩ = false) := fun X hX => ⟨hX.cellK d1, ((HA.out.1.1.new_ HE.out.2).new_ hX).frozen 1⟩
          have HFit := hid hFit
          have HI := hid (take_ins wr A N S (.slice a k c) rs ((HM.out ▸ HA.out.1).keeps (HE.out.2.keeps (fun _ => False)) (fun _ _ h => h)) (by rw [HM.out]; exact HA.out.2) hN k q hFit (by omega) (by rw [← HS.out]; omega))
          rw [← HS.out, ← HM.out] at HI
          clear hFit
          have kA := fun o => (HK.out _ ((New.refl wr).alloc o)).1
          have kB := fun o o' => (HK.out _ (((New.refl wr).alloc o).alloc o')).1
          go_wp2_with fail
          go_region_with (first | (go_at_call 54; refine HI.out.mono ?_; rintro e w2 ⟨a', c', rfl, ⟨e2, e3⟩, hR⟩; have HR := hid hR; clear hR))
          all_goals
            have HT := hid (show TakePost w A N S rs (q : Int) (.returned (.tuple #[.int .i64 (s : Int), .int .i64 0])) (w2.setCell ⟨A, 1, none⟩ (.slice a' (k + 1) c')) from .inr ⟨by omega, k, HFit.out, .inr ⟨by rw [← HS.out]; omega, by rw [← HS.out], by
              obtain ⟨S', h1, h2, h3⟩ := HR.out
              exact ⟨wr.heap.size, S', by rw [← HS.out]; exact h1, (HE.out.2.keeps S).trans h2 (fun _ _ h => h), fun j hj => (h3 j hj).imp id fun h => Nat.le_trans HE.out.2.size h⟩⟩⟩)
            go_wp2
            go_ret2
            exact HT.out
end Go.Proofs.Yteakbhfegbghoaa.Area
