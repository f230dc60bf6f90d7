/- The walk of ReferPlays. -/
import Derived.Test.YtakhidieomalhaaReferPlay
import Derived.Test.YtakhidieomalhaaReferIns
import Derived.Test.YtakhidieomalhaaReferEnd
import Derived.BigQuiet
import Derived.Deep.CutRange
import Derived.Deep.CutBlock
import Derived.Deep.RegionWith
import Derived.Deep.RegionHeld3
namespace Go.Proofs.Ytakhidieomalhaa.Law
open Go Go.RowKit Go.ChangeMaps Go.ChangeShapes Go.WideShapes Go.Deep Go.Proofs.Ytakhidieomalhaa.Kit Go.Proofs.Ytakhidieomalhaa.Str Go.Proofs.Ytakhidieomalhaa.Names Go.Proofs.Ytakhidieomalhaa.Refer
set_option linter.unusedSimpArgs false
set_option linter.unusedVariables false
theorem nameMay_new3 (s : List UInt8) (hl : s.length ≤ 9223372036854775807) (w : World) : Calls Try.prog 10 #[st s] w fun e w' => e = .returned (.bool (signsB s 32)) ∧ New w w' :=
  (nameMay_any s hl w).mono fun e w' h => ⟨h.1, by obtain ⟨k, rfl⟩ := h.2; exact (New.refl w).drewN k⟩
theorem deed_keeps {w1 w w' : World} {A b D B : Nat} {L : List (Key × Int)} {v : Value} {P : List Dd} {T : TypeId} {cs : Array Value} (hr : Rf w1 w A b L) (hdl : Dl w B v P) (hB : Blk w D T cs) (hk : Keeps (fun i => i = b) w w') : Dl w' B v P ∧ Blk w' D T cs :=
  ⟨Sl.keepsB hdl hr.1 hk, hB.keeps hk (hr.1.2.1.ne_blk hB)⟩
set_option maxRecDepth 100000 in
set_option maxHeartbeats 40000000 in
theorem referPlays_walk (v : Value) (l : List Dd) (hl : ∀ d ∈ l, (Lit.int .i64 d.2.1).wf = true) (W : World) (h : LsAt 4 dc W v l) :
    Calls Try.prog 5 #[v] W fun e w' => e = .returned (.bool true) ∧ New W w' := by
  obtain ⟨a, c, hv, hlc, hcm, _⟩ := id h
  subst hv
  obtain ⟨L, hL⟩ : ∃ L, L = l.length := ⟨_, rfl⟩
  rw [← hL] at h ⊢
  have H := hid (And.intro h (And.intro hL hl))
  clear h hL hl hlc hcm
  go_enter Try.func5, Try.ntmps5
  go_wp2_with fail
  refine (awake_any W).mono ?_
  rintro e w1 ⟨rfl, n1⟩
  by_cases h200 : 200 < L
  · have h200' : (200 : Int) < (L : Int) := by omega
    go_wp2
    go_ret
    exact ⟨rfl, n1⟩
  have h200' : ¬ (200 : Int) < (L : Int) := by omega
  go_wp2_with fail
  refine (newR (New.refl w1)).mono ?_
  rintro e w2 ⟨rfl, h2, n2⟩
  obtain ⟨A, hA⟩ : ∃ A, A = w1.heap.size + 1 := ⟨_, rfl⟩
  obtain ⟨b, hb⟩ : ∃ b, b = w1.heap.size := ⟨_, rfl⟩
  rw [← hA, ← hb] at h2
  rw [← hA]
  have HN := hid n1
  have H2 := hid h2
  clear h2 n2 n1 hA hb
  go_wp2_with fail
  go_loopw [4, 5] (fun m i wr => ∃ (j : Nat) (P : List Dd), j ≤ L ∧ i = .int .i64 (j : Int) ∧ Rf w1 wr A b (toL P) ∧ Dl wr w1.heap.size m P ∧ P.length ≤ j) (fun _ i _ => L - (intOf i).toNat)
  case atStart => exact ⟨0, [], Nat.zero_le _, rfl, H2.out, Sl.nil _ _ _ _, Nat.le_refl _⟩
  case round =>
    clear H2
    obtain ⟨j, P, hj, rfl, hr, hdl, hPj⟩ := hrel
    by_cases hjl : j < L
    · have w1' : IntKind.i64.wrap ((j : Int) + 1) = j + 1 := by rw [IntKind.wrap_i64]; omega
      obtain ⟨bb, oo, d, rfl, hd, hbW, hcell⟩ := H.out.1.get hjl
      have hnW := HN.out.step hr.2.1
      have c0 : wr.cell? ⟨bb, oo + j * 4, none⟩ = some (.int .i64 d.1) := by have := hnW.cellK (hcell 0 _ rfl); simpa using this
      have c1 : wr.cell? ⟨bb, oo + j * 4 + 1, none⟩ = some (.int .i64 d.2.1) := hnW.cellK (hcell 1 _ rfl)
      have c2 : wr.cell? ⟨bb, oo + j * 4 + 2, none⟩ = some (.int .i64 d.2.2.1) := hnW.cellK (hcell 2 _ rfl)
      have c3 : wr.cell? ⟨bb, oo + j * 4 + 3, none⟩ = some (st d.2.2.2) := hnW.cellK (hcell 3 _ rfl)
      have i0 : (0 : Int) ≤ (j : Int) := by omega
      have i1 : (j : Int) < (L : Int) := by omega
      have hwf := H.out.2.2 d (List.mem_of_getElem? hd)
      obtain ⟨dd, rg, sg, nm⟩ := d
      have hlen : (ByteArray.mk nm.toArray).size = nm.length := by simp [ByteArray.size]
      obtain ⟨va, vc, rfl⟩ := hdl.val
      obtain ⟨M, hM⟩ : ∃ M, M = P.length := ⟨_, rfl⟩
      rw [← hM] at hdl hPj ⊢
      have hM200 : M ≤ 200 := by omega
      have hBD := Blk.new wr 41 #[.int .i64 dd, .int .i64 rg, .int .i64 sg, st nm]
      have hrD := hr.new_ ((New.refl wr).alloc (.cells #[.int .i64 dd, .int .i64 rg, .int .i64 sg, st nm] 41))
      have hdD := hdl.new_ ((New.refl wr).alloc (.cells #[.int .i64 dd, .int .i64 rg, .int .i64 sg, st nm] 41))
      have hvD : ∀ g, (Value.slice va M vc).ownBlock = some g → g ≠ wr.heap.size := fun g hg e => by have := (Sl.lt hdl g hg).2; omega
      by_cases hs100 : 100 < nm.length
      · have hs' : (100 : Int) < (nm.length : Int) := by omega
        have HX := hid (HN.out.step hrD.2.1)
        clear hr hdl hBD hrD hdD hvD hM hnW hcell
        go_wp2
        go_ret
        exact ⟨rfl, HX.out⟩
      have hs' : ¬ (100 : Int) < (nm.length : Int) := by omega
      have hok : okK (rg, nm) := ⟨hwf, by show nm.length ≤ maxLen; unfold maxLen; omega⟩
      have HM := hid (And.intro hM (And.intro hrD (And.intro hdD (And.intro hBD (And.intro hvD hok)))))
      clear hM hr hdl hBD hrD hdD hvD hok hwf hnW hcell hd
      go_upto_block 2 with fail
      generalize (wr.alloc (.cells #[.int .i64 dd, .int .i64 rg, .int .i64 sg, st nm] 41)) = wD at *
      generalize wr.heap.size = D at *
      clear c0 c1 c2 c3
      go_cut [7, 8] from 45 to 69 (fun at_ _ wx => ∃ ai : Int, at_ = .int .i64 ai ∧ AtIs P rg nm M ai ∧ New wD wx)
      case first =>
        as_aux_lemma => --[[ at
        go_wp2_with fail
        go_loopw [7, 8] (fun at_ k wx => ∃ (q : Nat) (ai : Int), q ≤ M ∧ k = .int .i64 (q : Int) ∧ at_ = .int .i64 ai ∧ AtIs P rg nm q ai ∧ New wD wx) (fun _ k _ => M - (intOf k).toNat)
        case atStart => exact ⟨0, -1, Nat.zero_le _, rfl, rfl, .inl ⟨rfl, fun i r hi => absurd hi (Nat.not_lt_zero _)⟩, New.refl _⟩
        case round =>
          obtain ⟨q, ai, hq, rfl, rfl, hat, hnx⟩ := hrel
          by_cases hqm : q < M
          · have w2' : IntKind.i64.wrap ((q : Int) + 1) = q + 1 := by rw [IntKind.wrap_i64]; omega
            obtain ⟨g, o', x, hg, hx, _, hcell⟩ := (HM.out.2.2.1.new_ hnx).ls.get hqm
            subst hg
            have hB := HM.out.2.2.2.1.new_ hnx
            have d1 : wr.cell? ⟨g, o' + q * 4 + 1, none⟩ = some (.int .i64 x.2.1) := hcell 1 _ rfl
            have d3 : wr.cell? ⟨g, o' + q * 4 + 3, none⟩ = some (st x.2.2.2) := hcell 3 _ rfl
            have e1 : wr.cell? ⟨D, 1, none⟩ = some (.int .i64 rg) := by rw [hB.cell]; rfl
            have e3 : wr.cell? ⟨D, 3, none⟩ = some (st nm) := by rw [hB.cell]; rfl
            have j0 : (0 : Int) ≤ (q : Int) := by omega
            have j1 : (q : Int) < (M : Int) := by omega
            have HQ := hid (And.intro hat (And.intro hx hnx))
            clear hat hx hnx hcell hB
            cases h1 : (x.2.1 == rg) with
            | true =>
              have h1d : decide (x.2.1 = rg) = true := decide_eq_true (beq_iff_eq.1 h1)
              cases h2 : (x.2.2.2 == nm) with
              | true =>
                have HE := hid (And.intro (beq_iff_eq.1 h1) (beq_iff_eq.1 h2))
                go_wp2_with fail
                go_quiet (fail)
                go_wp2_with fail
                exact ⟨⟨q + 1, q, by omega, by go_num, rfl, .hit HQ.out.2.1 HE.out.1 HE.out.2, HQ.out.2.2.drewN _⟩, by simp [intOf]; omega⟩
              | false =>
                have HE := hid (show ¬ (x.2.1 = rg ∧ x.2.2.2 = nm) from fun h => by rw [h.2] at h2; simp at h2)
                go_wp2_with fail
                go_quiet (fail)
                go_wp2_with fail
                exact ⟨⟨q + 1, ai, by omega, by go_num, rfl, HQ.out.1.miss HQ.out.2.1 HE.out, HQ.out.2.2.drewN _⟩, by simp [intOf]; omega⟩
            | false =>
              have h1d : decide (x.2.1 = rg) = false := decide_eq_false (beq_eq_false_iff_ne.1 h1)
              have HE := hid (show ¬ (x.2.1 = rg ∧ x.2.2.2 = nm) from fun h => by rw [h.1] at h1; simp at h1)
              go_wp2_with fail
              go_quiet (fail)
              go_wp2_with fail
              exact ⟨⟨q + 1, ai, by omega, by go_num, rfl, HQ.out.1.miss HQ.out.2.1 HE.out, HQ.out.2.2.drewN _⟩, by simp [intOf]; omega⟩
          · have hqe : q = M := by omega
            subst hqe
            have hlt : ¬ (q : Int) < (q : Int) := by omega
            go_wp2_with fail
            go_meet
            exact ⟨ai, rfl, hat, hnx⟩
        --]] at
      case rest =>
        obtain ⟨ai, rfl, hat, hnx⟩ := hcut
        have HQ := hid (And.intro hat hnx)
        clear hat hnx
        go_upto_block 4 with fail
        go_cut [4, 9, 10, 11, 12, 13] from 70 to 214 (fun m _ _ _ _ _ wx => ∃ P' : List Dd, Rf w1 wx A b (toL P') ∧ Dl wx w1.heap.size m P' ∧ P'.length ≤ j + 1 ∧ Blk wx D 41 #[.int .i64 dd, .int .i64 rg, .int .i64 sg, st nm])
        case first =>
          have hr := HM.out.2.1.new_ HQ.out.2
          have hdl := HM.out.2.2.1.new_ HQ.out.2
          have hB := HM.out.2.2.2.1.new_ HQ.out.2
          have e0 : wc.cell? ⟨D, 0, none⟩ = some (.int .i64 dd) := by rw [hB.cell]; rfl
          have e1 : wc.cell? ⟨D, 1, none⟩ = some (.int .i64 rg) := by rw [hB.cell]; rfl
          have e2 : wc.cell? ⟨D, 2, none⟩ = some (.int .i64 sg) := by rw [hB.cell]; rfl
          have e3 : wc.cell? ⟨D, 3, none⟩ = some (st nm) := by rw [hB.cell]; rfl
          have HP := hid (And.intro hr (And.intro hdl hB))
          clear hr hdl hB
          by_cases h4 : dd ≤ 4
          · by_cases r0 : rg < 0
            · as_aux_lemma => --[[ arg0
              have hq := bind_arg (P := P) (r := rg) (s := nm) (n := sg) (by omega)
              have HQ2 := hid (bindR HP.out.1 rg nm sg HM.out.2.2.2.2.2 hq.1 hq.2)
              clear hq
              go_wp2_with fail
              refine HQ2.out.mono ?_
              rintro e w4 ⟨rfl, h4', k4⟩
              have H4 := hid (And.intro h4' (deed_keeps HP.out.1 HP.out.2.1 HP.out.2.2 k4))
              clear h4' k4 e0 e1 e2 e3
              go_wp2_with fail
              go_meet
              exact ⟨P, H4.out.1, H4.out.2.1, by rw [← HM.out.1]; omega, H4.out.2.2⟩
              --]] arg0
            by_cases r1 : 7 < rg
            · as_aux_lemma => --[[ arg1
              have hq := bind_arg (P := P) (r := rg) (s := nm) (n := sg) (by omega)
              have HQ2 := hid (bindR HP.out.1 rg nm sg HM.out.2.2.2.2.2 hq.1 hq.2)
              clear hq
              go_wp2_with fail
              refine HQ2.out.mono ?_
              rintro e w4 ⟨rfl, h4', k4⟩
              have H4 := hid (And.intro h4' (deed_keeps HP.out.1 HP.out.2.1 HP.out.2.2 k4))
              clear h4' k4 e0 e1 e2 e3
              go_wp2_with fail
              go_meet
              exact ⟨P, H4.out.1, H4.out.2.1, by rw [← HM.out.1]; omega, H4.out.2.2⟩
              --]] arg1
            by_cases r2 : sg < 1
            · as_aux_lemma => --[[ arg2
              have hq := bind_arg (P := P) (r := rg) (s := nm) (n := sg) (by omega)
              have HQ2 := hid (bindR HP.out.1 rg nm sg HM.out.2.2.2.2.2 hq.1 hq.2)
              clear hq
              go_wp2_with fail
              refine HQ2.out.mono ?_
              rintro e w4 ⟨rfl, h4', k4⟩
              have H4 := hid (And.intro h4' (deed_keeps HP.out.1 HP.out.2.1 HP.out.2.2 k4))
              clear h4' k4 e0 e1 e2 e3
              go_wp2_with fail
              go_meet
              exact ⟨P, H4.out.1, H4.out.2.1, by rw [← HM.out.1]; omega, H4.out.2.2⟩
              --]] arg2
            by_cases r3 : 63 < sg
            · as_aux_lemma => --[[ arg3
              have hq := bind_arg (P := P) (r := rg) (s := nm) (n := sg) (by omega)
              have HQ2 := hid (bindR HP.out.1 rg nm sg HM.out.2.2.2.2.2 hq.1 hq.2)
              clear hq
              go_wp2_with fail
              refine HQ2.out.mono ?_
              rintro e w4 ⟨rfl, h4', k4⟩
              have H4 := hid (And.intro h4' (deed_keeps HP.out.1 HP.out.2.1 HP.out.2.2 k4))
              clear h4' k4 e0 e1 e2 e3
              go_wp2_with fail
              go_meet
              exact ⟨P, H4.out.1, H4.out.2.1, by rw [← HM.out.1]; omega, H4.out.2.2⟩
              --]] arg3
            have hrg : ¬ (rg < 0 ∨ 7 < rg ∨ sg < 1 ∨ 63 < sg) := by omega
            have hnm := fun w => nameMay_new3 nm (show nm.length ≤ 9223372036854775807 by omega) w
            cases hsg : signsB nm 32 with
            | false =>
              as_aux_lemma => --[[ name
              rw [hsg] at hnm
              have hq := bind_name (P := P) hrg hsg
              have HQ2 := hid (And.intro hnm hq)
              clear hq hnm hsg hrg
              go_wp2_with fail
              refine (HQ2.out.1 _).mono ?_
              rintro e w3 ⟨rfl, n3⟩
              have H3 := hid (And.intro (HP.out.1.new_ n3) (And.intro (HP.out.2.1.new_ n3) (HP.out.2.2.new_ n3)))
              have f1 : w3.cell? ⟨D, 1, none⟩ = some (.int .i64 rg) := n3.cellK e1
              have f2 : w3.cell? ⟨D, 2, none⟩ = some (.int .i64 sg) := n3.cellK e2
              have f3 : w3.cell? ⟨D, 3, none⟩ = some (st nm) := n3.cellK e3
              have HQ3 := hid (bindR H3.out.1 rg nm sg HM.out.2.2.2.2.2 HQ2.out.2.1 HQ2.out.2.2)
              clear e0 e1 e2 e3 n3
              go_wp2_with fail
              refine HQ3.out.mono ?_
              rintro e w4 ⟨rfl, h4', k4⟩
              have H4 := hid (And.intro h4' (deed_keeps H3.out.1 H3.out.2.1 H3.out.2.2 k4))
              clear h4' k4 f1 f2 f3
              go_wp2_with fail
              go_meet
              exact ⟨P, H4.out.1, H4.out.2.1, by rw [← HM.out.1]; omega, H4.out.2.2⟩
              --]] name
            | true =>
              rw [hsg] at hnm
              cases hai : decide (ai = -1) with
              | true =>
                as_aux_lemma => --[[ new
                have hai := of_decide_eq_true hai
                subst hai
                have hat := HQ.out.1
                rw [HM.out.1] at hat
                have hq := bind_new (P := P) (a := dd) hrg hsg hat.none
                have HQ2 := hid (And.intro hnm hq)
                clear hq hnm hsg hrg hat
                go_wp2_with fail
                refine (HQ2.out.1 _).mono ?_
                rintro e w3 ⟨rfl, n3⟩
                have H3 := hid (And.intro (HP.out.1.new_ n3) (And.intro (HP.out.2.1.new_ n3) (HP.out.2.2.new_ n3)))
                have f0 : w3.cell? ⟨D, 0, none⟩ = some (.int .i64 dd) := n3.cellK e0
                have f1 : w3.cell? ⟨D, 1, none⟩ = some (.int .i64 rg) := n3.cellK e1
                have f2 : w3.cell? ⟨D, 2, none⟩ = some (.int .i64 sg) := n3.cellK e2
                have f3 : w3.cell? ⟨D, 3, none⟩ = some (st nm) := n3.cellK e3
                clear e0 e1 e2 e3 n3
                go_wp2_with fail
                go_quiet (fail)
                obtain ⟨ti, hti, hzz⟩ := Option.map_eq_some_iff.1 deed_info
                simp only [Prod.mk.injEq] at hzz
                have HT := hid (And.intro hti hzz)
                have q1 : M + 1 ≤ maxLen := by unfold maxLen; omega
                have q2 : (M + 1) * 40 ≤ 140737488355328 := by omega
                have hnews := hid (news_deed (d := (dd, rg, sg, nm)) (Blk.new (w3.drewN nq) 41 (dc (dd, rg, sg, nm)).toArray))
                have HS := hid (show Sl (w3.drewN nq) w1.heap.size 41 4 (.slice va M vc) M (flatOf dc P) from by
                  have h5 := H3.out.2.1.new_ ((New.refl w3).drewN nq)
                  unfold Dl at h5
                  rw [← HM.out.1] at h5
                  exact h5)
                have hbs : Hid (w1.heap.size ≤ ((w3.drewN nq).alloc (.cells (dc (dd, rg, sg, nm)).toArray 41)).heap.size) := by
                  rw [World.size_alloc]
                  exact Nat.le_succ_of_le H3.out.1.2.1.size
                have HB3 := hid ((H3.out.2.2.new_ ((New.refl w3).drewN nq)).alloc (.cells (dc (dd, rg, sg, nm)).toArray 41))
                have HR3 := hid (Rf.new_ (H3.out.1.new_ ((New.refl w3).drewN nq)) ((New.refl _).alloc (.cells (dc (dd, rg, sg, nm)).toArray 41)))
                have HD6 : Hid (∀ w6 : World, ((w3.drewN nq).alloc (.cells (dc (dd, rg, sg, nm)).toArray 41)).grownBy w6 (Value.slice va M vc).ownBlock → Blk w6 D 41 #[.int .i64 dd, .int .i64 rg, .int .i64 sg, st nm]) := fun w6 hg => HB3.out.grown hg (fun e => HM.out.2.2.2.2.1 D e.symm rfl)
                rw [size_drewN] at hnews
                clear hti hzz f0 f1 f2 f3
                have f0 : (w3.drewN nq).cell? ⟨D, 0, none⟩ = some (.int .i64 dd) := by rw [(H3.out.2.2.new_ ((New.refl w3).drewN nq)).cell]; rfl
                have f1 : (w3.drewN nq).cell? ⟨D, 1, none⟩ = some (.int .i64 rg) := by rw [(H3.out.2.2.new_ ((New.refl w3).drewN nq)).cell]; rfl
                have f2 : (w3.drewN nq).cell? ⟨D, 2, none⟩ = some (.int .i64 sg) := by rw [(H3.out.2.2.new_ ((New.refl w3).drewN nq)).cell]; rfl
                have f3 : (w3.drewN nq).cell? ⟨D, 3, none⟩ = some (st nm) := by rw [(H3.out.2.2.new_ ((New.refl w3).drewN nq)).cell]; rfl
                go_wp2_with (at_builtin; refine wpList_append_sl _ rfl (.tmp 146) (.tmp 148) 39 rfl w1.heap.size 41 ti _ 4 40 Try.underlying39 HT.out.1 HT.out.2.1 HT.out.2.2.1 HT.out.2.2.2 rfl (by decide) (.slice va M vc) M _ rfl (HS.out.alloc _) ⟨w3.heap.size, 0, none⟩ 1 1 (dc (dd, rg, sg, nm)) rfl (by decide) rfl hnews.out (dc_one _) q1 q2 hbs.out ?_; intro v6 w6 hs6 hg6 hb6; obtain ⟨a6, c6, rfl⟩ := hs6.val; have g1 : w6.cell? ⟨D, 1, none⟩ = some (.int .i64 rg) := (HD6.out w6 hg6).cell 1; have g2 : w6.cell? ⟨D, 2, none⟩ = some (.int .i64 sg) := (HD6.out w6 hg6).cell 2; have g3 : w6.cell? ⟨D, 3, none⟩ = some (st nm) := (HD6.out w6 hg6).cell 3)
                have hR6 := HR3.out.grown (HS.out.alloc _) (by decide) hg6
                have HB6 := hid (HD6.out w6 hg6)
                have HS6 := hid (And.intro hR6 hs6)
                refine (bindR hR6 rg nm sg HM.out.2.2.2.2.2 HQ2.out.2.1 HQ2.out.2.2).mono ?_
                rintro e w7 ⟨rfl, h7, k7⟩
                have H7 := hid (And.intro h7 (And.intro (Sl.keepsB HS6.out.2 HS6.out.1.1 k7) (HB6.out.keeps k7 (HS6.out.1.1.2.1.ne_blk HB6.out))))
                clear h7 k7 hR6 hs6 hg6 hb6 g1 g2 g3 f0 f1 f2 f3
                go_wp2_with fail
                go_meet
                refine ⟨P ++ [(dd, rg, sg, nm)], H7.out.1, ?_, by rw [List.length_append, ← HM.out.1]; simp; omega, H7.out.2.2⟩
                have h8 := H7.out.2.1
                unfold Dl
                rw [List.length_append, flatOf_app, flatOf_one, ← HM.out.1]
                exact h8
                --]] new
              | false =>
                have hai' := of_decide_eq_false hai
                obtain ⟨i, x, hir, hx, hx1, hx2⟩ : ∃ (i : Nat) (x : Dd), ai = (i : Int) ∧ P[i]? = some x ∧ x.2.1 = rg ∧ x.2.2.2 = nm := by
                  rcases HQ.out.1 with ⟨e, _⟩ | ⟨i, x, _, e, h2, h3⟩
                  · exact absurd e hai'
                  · exact ⟨i, x, e, h2, h3⟩
                clear hai hai'
                subst hir
                have hiM : i < M := by rw [HM.out.1]; exact (List.getElem?_eq_some_iff.1 hx).1
                have hnd := HP.out.1.1.nodup
                have hg := at_some hnd hx hx1 hx2
                obtain ⟨g7, o7, x', hg7, hx', _, hcell⟩ := HP.out.2.1.ls.get hiM
                subst hg7
                rw [hx] at hx'
                cases hx'
                have d2 : wc.cell? ⟨g7, o7 + i * 4 + 2, none⟩ = some (.int .i64 x.2.2.1) := hcell 2 _ rfl
                have k0 : (0 : Int) ≤ (i : Int) := by omega
                have k1 : (i : Int) < (M : Int) := by omega
                have hiN : ¬ (i : Int) < 0 := by omega
                clear hcell hx hx1 hx2 hiM
                cases hv : (x.2.2.1 == sg) with
                | true =>
                  as_aux_lemma => --[[ same
                  have hvd : decide (x.2.2.1 = sg) = true := decide_eq_true (beq_iff_eq.1 hv)
                  have hg' := hg
                  rw [beq_iff_eq.1 hv] at hg'
                  have hq := bind_same (P := P) hrg hsg hnd hg'
                  have HQ2 := hid (And.intro hnm hq)
                  clear hq hnm hsg hrg hnd hg hg'
                  go_wp2_with fail
                  refine (HQ2.out.1 _).mono ?_
                  rintro e w3 ⟨rfl, n3⟩
                  have H3 := hid (And.intro (HP.out.1.new_ n3) (And.intro (HP.out.2.1.new_ n3) (HP.out.2.2.new_ n3)))
                  have f1 : w3.cell? ⟨D, 1, none⟩ = some (.int .i64 rg) := n3.cellK e1
                  have f2 : w3.cell? ⟨D, 2, none⟩ = some (.int .i64 sg) := n3.cellK e2
                  have f3 : w3.cell? ⟨D, 3, none⟩ = some (st nm) := n3.cellK e3
                  have f4 : w3.cell? ⟨g7, o7 + i * 4 + 2, none⟩ = some (.int .i64 x.2.2.1) := n3.cellK d2
                  clear e0 e1 e2 e3 n3 d2
                  go_wp2_with fail
                  go_quiet (fail)
                  have HR3 := hid (H3.out.1.new_ ((New.refl w3).drewN nq))
                  have HD3 := hid (H3.out.2.1.new_ ((New.refl w3).drewN nq))
                  have HB3 := hid (H3.out.2.2.new_ ((New.refl w3).drewN nq))
                  go_wp2_with fail
                  refine (bindR HR3.out rg nm sg HM.out.2.2.2.2.2 HQ2.out.2.1 HQ2.out.2.2).mono ?_
                  rintro e w4 ⟨rfl, h4', k4⟩
                  have H4 := hid (And.intro h4' (deed_keeps HR3.out HD3.out HB3.out k4))
                  clear h4' k4 f1 f2 f3 f4
                  go_wp2_with fail
                  go_meet
                  exact ⟨P, H4.out.1, H4.out.2.1, by rw [← HM.out.1]; omega, H4.out.2.2⟩
                  --]] same
                | false =>
                  as_aux_lemma => --[[ other
                  have hvd : decide (x.2.2.1 = sg) = false := decide_eq_false (beq_eq_false_iff_ne.1 hv)
                  have hq := bind_other (P := P) hrg hsg hg (beq_eq_false_iff_ne.1 hv)
                  have HQ2 := hid (And.intro hnm hq)
                  clear hq hnm hsg hrg hnd hg
                  go_wp2_with fail
                  refine (HQ2.out.1 _).mono ?_
                  rintro e w3 ⟨rfl, n3⟩
                  have H3 := hid (And.intro (HP.out.1.new_ n3) (And.intro (HP.out.2.1.new_ n3) (HP.out.2.2.new_ n3)))
                  have f1 : w3.cell? ⟨D, 1, none⟩ = some (.int .i64 rg) := n3.cellK e1
                  have f2 : w3.cell? ⟨D, 2, none⟩ = some (.int .i64 sg) := n3.cellK e2
                  have f3 : w3.cell? ⟨D, 3, none⟩ = some (st nm) := n3.cellK e3
                  have f4 : w3.cell? ⟨g7, o7 + i * 4 + 2, none⟩ = some (.int .i64 x.2.2.1) := n3.cellK d2
                  clear e0 e1 e2 e3 n3 d2
                  go_wp2_with fail
                  go_quiet (fail)
                  have HR3 := hid (H3.out.1.new_ ((New.refl w3).drewN nq))
                  have HD3 := hid (H3.out.2.1.new_ ((New.refl w3).drewN nq))
                  have HB3 := hid (H3.out.2.2.new_ ((New.refl w3).drewN nq))
                  go_wp2_with fail
                  refine (bindR HR3.out rg nm sg HM.out.2.2.2.2.2 HQ2.out.2.1 HQ2.out.2.2).mono ?_
                  rintro e w4 ⟨rfl, h4', k4⟩
                  have H4 := hid (And.intro h4' (deed_keeps HR3.out HD3.out HB3.out k4))
                  clear h4' k4 f1 f2 f3 f4
                  go_wp2_with fail
                  go_meet
                  exact ⟨P, H4.out.1, H4.out.2.1, by rw [← HM.out.1]; omega, H4.out.2.2⟩
                  --]] other
          · cases h5 : (dd == 5) with
            | true =>
              rw [beq_iff_eq.1 h5] at e0
              clear h5 h4
              cases hai : decide (ai = -1) with
              | true =>
                as_aux_lemma => --[[ dropno
                have hai := of_decide_eq_true hai
                subst hai
                have hat := HQ.out.1
                rw [HM.out.1] at hat
                have hq := drop_not hat.none
                have HQ2 := hid (dropR HP.out.1 rg nm HM.out.2.2.2.2.2 hq.1 hq.2.1 hq.2.2)
                clear hq hat
                go_wp2_with fail
                refine HQ2.out.mono ?_
                rintro e w4 ⟨rfl, h4', k4⟩
                have H4 := hid (And.intro h4' (deed_keeps HP.out.1 HP.out.2.1 HP.out.2.2 k4))
                clear h4' k4 e0 e1 e2 e3
                go_wp2_with fail
                go_meet
                exact ⟨P, H4.out.1, H4.out.2.1, by rw [← HM.out.1]; omega, H4.out.2.2⟩
                --]] dropno
              | false =>
                as_aux_lemma => --[[ drop
                have hai' := of_decide_eq_false hai
                obtain ⟨i, x, hir, hx, hx1, hx2⟩ : ∃ (i : Nat) (x : Dd), ai = (i : Int) ∧ P[i]? = some x ∧ x.2.1 = rg ∧ x.2.2.2 = nm := by
                  rcases HQ.out.1 with ⟨e, _⟩ | ⟨i, x, _, e, h2, h3⟩
                  · exact absurd e hai'
                  · exact ⟨i, x, e, h2, h3⟩
                clear hai hai'
                subst hir
                have hiM : i < M := by rw [HM.out.1]; exact (List.getElem?_eq_some_iff.1 hx).1
                have hnd := HP.out.1.1.nodup
                have hq := drop_at hnd hx hx1 hx2
                have HQ2 := hid (And.intro (dropR HP.out.1 rg nm HM.out.2.2.2.2.2 hq.1 hq.2.1 hq.2.2) hx)
                clear hq hnd hx hx1 hx2
                go_wp2_with fail
                refine HQ2.out.1.mono ?_
                rintro e w4 ⟨rfl, h4', k4⟩
                have H4 := hid (And.intro h4' (deed_keeps HP.out.1 HP.out.2.1 HP.out.2.2 k4))
                clear h4' k4 e0 e1 e2 e3
                obtain ⟨g7, o7, x', hg7, hx', _, hcell⟩ := H4.out.2.1.ls.get hiM
                subst hg7
                rw [HQ2.out.2] at hx'
                cases hx'
                have d2 : w4.cell? ⟨g7, o7 + i * 4 + 2, none⟩ = some (.int .i64 x.2.2.1) := hcell 2 _ rfl
                have k0 : (0 : Int) ≤ (i : Int) := by omega
                have k1 : (i : Int) < (M : Int) := by omega
                have hiN : ¬ (i : Int) < 0 := by omega
                have hcap : M ≤ vc := by
                  obtain ⟨_, _, q, e, _, _, h, _⟩ := Sl.form H4.out.2.1 (by rw [← HM.out.1]; omega)
                  cases e
                  rw [HM.out.1]; exact h
                have z3 : (i : Int) ≤ (vc : Int) := by omega
                have z5 : (0 : Int) ≤ (i : Int) + 1 := by omega
                have z6 : (i : Int) + 1 ≤ (M : Int) := by omega
                have z7 : ((i : Int) + 1).toNat = i + 1 := by omega
                have z8 : IntKind.i64.wrap ((i : Int) + 1) = (i : Int) + 1 := by rw [IntKind.wrap_i64]; omega
                have z9 : (M : Int) ≤ (vc : Int) := by omega
                obtain ⟨ti, hti, hzz⟩ := Option.map_eq_some_iff.1 deed_info
                simp only [Prod.mk.injEq] at hzz
                have HT := hid (And.intro hti hzz)
                have HS := hid (show Sl w4 w1.heap.size 41 4 (.slice (some ⟨g7, o7, none⟩) M vc) M (flatOf dc P) from by
                  have h5 := H4.out.2.1
                  unfold Dl at h5
                  rw [← HM.out.1] at h5
                  exact h5)
                have hcut2 := fun (a : Addr) (c : Nat) (ha : a = ⟨g7, o7 + (i + 1) * 4, none⟩ ∨ M - (i + 1) = 0) => cut_out (P := Try.prog) w4 w1.heap.size 39 39 41 ti _ 4 40 Try.underlying39 HT.out.1 HT.out.2.1 HT.out.2.2.1 HT.out.2.2.2 rfl (by decide) g7 o7 vc M i (flatOf dc P) HS.out hiM (dcs_one P) (by unfold maxLen; omega) (by omega) H4.out.1.2.1.size a c ha
                clear hti hzz hcell
                by_cases y7 : vc = i + 1
                · as_aux_lemma =>
                  have hj0 : M - (i + 1) = 0 := by omega
                  obtain ⟨b1, k1', w5, b2, k2, w6, r1, r2, s6, n6, hbb⟩ := hcut2 ⟨g7, o7, none⟩ 0 (.inr hj0)
                  have z11 : (i : Int) ≤ (i : Int) + 1 := by omega
                  have z12 : (M : Int) ≤ (i : Int) + 1 := by omega
                  subst y7
                  clear hcut2 hj0
                  go_wp2_with fail
                  go_region_held3 (fun _ => True) (exact trivial) (first | (refine step_append_run rfl (.tmp 205) (.tmp 208) 39 39 rfl (.slice (some ⟨w4.heap.size, 0, none⟩) 0 0) (.slice (some ⟨g7, o7, none⟩) i (i + 1)) (by simp [Act.eval, Act.put]) (by simp [Act.eval, Act.put]) r1 ?_) | (refine step_append_run rfl (.tmp 209) (.tmp 213) 39 39 rfl (.slice (some b1) i k1') (.slice (some ⟨g7, o7, none⟩) (M - (i + 1)) 0) (by simp [Act.eval, Act.put]) (by simp [Act.eval, Act.put] <;> omega) r2 ?_))
                  go_wp2_with fail
                  go_meet
                  refine ⟨P.take i ++ P.drop (i + 1), H4.out.1.new_ n6, ?_, by rw [List.length_append, List.length_take, List.length_drop, ← HM.out.1]; omega, H4.out.2.2.new_ n6⟩
                  exact Dl.cut (by rw [← HM.out.1]; exact hiM) (by rw [← HM.out.1]; exact s6)
                · as_aux_lemma =>
                  obtain ⟨b1, k1', w5, b2, k2, w6, r1, r2, s6, n6, hbb⟩ := hcut2 ⟨g7, o7 + (i + 1) * 4, none⟩ (vc - (i + 1)) (.inl rfl)
                  clear hcut2
                  go_wp2_with fail
                  go_region_held3 (fun _ => True) (exact trivial) (first | (refine step_append_run rfl (.tmp 205) (.tmp 208) 39 39 rfl (.slice (some ⟨w4.heap.size, 0, none⟩) 0 0) (.slice (some ⟨g7, o7, none⟩) i vc) (by simp [Act.eval, Act.put]) (by simp [Act.eval, Act.put]) r1 ?_) | (refine step_append_run rfl (.tmp 209) (.tmp 213) 39 39 rfl (.slice (some b1) i k1') (.slice (some ⟨g7, o7 + (i + 1) * 4, none⟩) (M - (i + 1)) (vc - (i + 1))) (by simp [Act.eval, Act.put]) (by simp [Act.eval, Act.put] <;> omega) r2 ?_))
                  go_wp2_with fail
                  go_meet
                  refine ⟨P.take i ++ P.drop (i + 1), H4.out.1.new_ n6, ?_, by rw [List.length_append, List.length_take, List.length_drop, ← HM.out.1]; omega, H4.out.2.2.new_ n6⟩
                  exact Dl.cut (by rw [← HM.out.1]; exact hiM) (by rw [← HM.out.1]; exact s6)
                --]] drop
            | false =>
              as_aux_lemma => --[[ forget
              have HF := hid (And.intro HP.out.2.2 (HM.out.1))
              go_wp2_with fail
              go_loopw [12, 13] (fun rest k wx => ∃ q : Nat, q ≤ M ∧ k = .int .i64 (q : Int) ∧ New wc wx ∧ Sl wx wc.heap.size 41 4 rest (keptP sg (P.take q)).length (flatOf dc (keptP sg (P.take q)))) (fun _ k _ => M - (intOf k).toNat)
              case atStart => exact ⟨0, Nat.zero_le _, rfl, New.refl _, Sl.nil _ _ _ _⟩
              case round =>
                clear e0 e1 e2 e3
                obtain ⟨q, hq, rfl, hn, hs⟩ := hrel
                obtain ⟨ra, rc, rfl⟩ := hs.val
                have hKq : (keptP sg (P.take q)).length ≤ q := kept_le sg P q
                obtain ⟨K, hK⟩ : ∃ K, K = (keptP sg (P.take q)).length := ⟨_, rfl⟩
                rw [← hK] at hs hKq ⊢
                by_cases hqm : q < M
                · have w2' : IntKind.i64.wrap ((q : Int) + 1) = q + 1 := by rw [IntKind.wrap_i64]; omega
                  obtain ⟨g, o', x, hg, hx, _, hcell⟩ := (HP.out.2.1.new_ hn).ls.get hqm
                  subst hg
                  have hB := HP.out.2.2.new_ hn
                  have d2 : wr.cell? ⟨g, o' + q * 4 + 2, none⟩ = some (.int .i64 x.2.2.1) := hcell 2 _ rfl
                  have e2 : wr.cell? ⟨D, 2, none⟩ = some (.int .i64 sg) := by rw [hB.cell]; rfl
                  have j0 : (0 : Int) ≤ (q : Int) := by omega
                  have j1 : (q : Int) < (M : Int) := by omega
                  cases h1 : (x.2.2.1 == sg) with
                  | true =>
                    have h1d : decide (x.2.2.1 = sg) = true := decide_eq_true (beq_iff_eq.1 h1)
                    have HQ2 := hid (And.intro hK (And.intro (kept_no (beq_iff_eq.1 h1) hx) (And.intro hn hs)))
                    clear hK hx hn hs hcell hB
                    go_wp2_with fail
                    go_quiet (fail)
                    go_wp2_with fail
                    exact ⟨⟨q + 1, by omega, by go_num, HQ2.out.2.2.1.drewN _, by rw [HQ2.out.2.1, ← HQ2.out.1]; exact HQ2.out.2.2.2.drewN _⟩, by simp [intOf]; omega⟩
                  | false =>
                    have h1d : decide (x.2.2.1 = sg) = false := decide_eq_false (beq_eq_false_iff_ne.1 h1)
                    have HQ2 := hid (And.intro hK (And.intro (kept_yes (beq_eq_false_iff_ne.1 h1) hx) (And.intro hn hs)))
                    have d0 : wr.cell? ⟨g, o' + q * 4, none⟩ = some (.int .i64 x.1) := by have := hcell 0 _ rfl; simpa using this
                    have d1 : wr.cell? ⟨g, o' + q * 4 + 1, none⟩ = some (.int .i64 x.2.1) := hcell 1 _ rfl
                    have d3 : wr.cell? ⟨g, o' + q * 4 + 3, none⟩ = some (st x.2.2.2) := hcell 3 _ rfl
                    clear hK hx hn hs hcell hB
                    go_wp2_with fail
                    go_quiet (fail)
                    obtain ⟨ti, hti, hzz⟩ := Option.map_eq_some_iff.1 deed_info
                    simp only [Prod.mk.injEq] at hzz
                    have HT := hid (And.intro hti hzz)
                    have q1 : K + 1 ≤ maxLen := by unfold maxLen; omega
                    have q2 : (K + 1) * 40 ≤ 140737488355328 := by omega
                    have hnews := hid (news_deed (d := x) (Blk.new (wr.drewN nq) 41 (dc x).toArray))
                    have hbs : Hid (wc.heap.size ≤ ((wr.drewN nq).alloc (.cells (dc x).toArray 41)).heap.size) := by
                      rw [World.size_alloc]
                      exact Nat.le_succ_of_le HQ2.out.2.2.1.size
                    have HN2 := hid (((HQ2.out.2.2.1.drewN nq)).alloc (.cells (dc x).toArray 41))
                    rw [size_drewN] at hnews
                    clear hti hzz
                    go_wp2_with (at_builtin; refine wpList_append_sl _ rfl (.tmp 84) (.tmp 89) 39 rfl wc.heap.size 41 ti _ 4 40 Try.underlying39 HT.out.1 HT.out.2.1 HT.out.2.2.1 HT.out.2.2.2 rfl (by decide) (.slice ra K rc) K _ rfl ((HQ2.out.2.2.2.drewN nq).alloc _) ⟨wr.heap.size, 0, none⟩ 1 1 (dc x) rfl (by decide) rfl hnews.out (dc_one _) q1 q2 hbs.out ?_; intro v6 w6 hs6 hg6 hb6; obtain ⟨a6, c6, rfl⟩ := hs6.val)
                    refine ⟨⟨q + 1, by omega, by go_num, HN2.out.grown hg6 (fun k hk => ((HQ2.out.2.2.2).lt k hk).1), ?_⟩, by simp [intOf]; omega⟩
                    rw [HQ2.out.2.1, List.length_append, flatOf_app, flatOf_one, ← HQ2.out.1]
                    exact hs6
                · have hqe : q = M := by omega
                  subst hqe
                  have hlt : ¬ (q : Int) < (q : Int) := by omega
                  have hPt : P.take q = P := by rw [HM.out.1, List.take_length]
                  rw [hPt] at hK hs
                  obtain ⟨U, hU⟩ : ∃ U : Nat, U + K = q := ⟨q - K, by omega⟩
                  have hwU : IntKind.i64.wrap ((q : Int) - (K : Int)) = (U : Int) := by rw [IntKind.wrap_i64]; omega
                  have hB := HP.out.2.2.new_ hn
                  have hr := HP.out.1.new_ hn
                  have e2 : wr.cell? ⟨D, 2, none⟩ = some (.int .i64 sg) := by rw [hB.cell]; rfl
                  have hfl : (toL P).length = q := by rw [toL_len]; exact HM.out.1.symm
                  have hfo := forgetR hr sg (by rw [hfl]; omega) (L' := toL (keptP sg P)) (forget_toL sg) (x := (U : Int)) (by rw [hfl, toL_len, ← hK]; omega)
                  have HQ2 := hid (And.intro hfo (And.intro hK (And.intro (hs.mono (HP.out.1.2.1.size)) (And.intro hr hB))))
                  clear hK hs hr hB hn hPt hfl hfo hU hKq
                  go_wp2_with fail
                  refine HQ2.out.1.mono ?_
                  rintro e w4 ⟨rfl, h4', k4⟩
                  have H4 := hid (And.intro h4' (And.intro (Sl.keepsB HQ2.out.2.2.1 HQ2.out.2.2.2.1.1 k4) (HQ2.out.2.2.2.2.keeps k4 (HQ2.out.2.2.2.1.1.2.1.ne_blk HQ2.out.2.2.2.2))))
                  clear h4' k4 e2
                  go_wp2_with fail
                  go_meet
                  exact ⟨keptP sg P, H4.out.1, by unfold Dl; rw [← HQ2.out.2.1]; exact H4.out.2.1, by have := kept_len sg P; rw [← HM.out.1] at this; omega, H4.out.2.2⟩
              --]] forget
        case rest =>
          as_aux_lemma => --[[ rest
          obtain ⟨P', hr', hdl', hP', hB'⟩ := hcut
          obtain ⟨va', vc', rfl⟩ := hdl'.val
          obtain ⟨M', hM'⟩ : ∃ M', M' = P'.length := ⟨_, rfl⟩
          rw [← hM'] at hdl' hP' ⊢
          have hM201 : M' ≤ 201 := by omega
          have e1 : wc.cell? ⟨D, 1, none⟩ = some (.int .i64 rg) := by rw [hB'.cell]; rfl
          have e3 : wc.cell? ⟨D, 3, none⟩ = some (st nm) := by rw [hB'.cell]; rfl
          obtain ⟨V0, hV0⟩ : ∃ V, V = findV (toL P') (rg, nm) := ⟨_, rfl⟩
          obtain ⟨Bo0, hBo0⟩ : ∃ B, B = (get? (toL P') (rg, nm)).isSome := ⟨_, rfl⟩
          have HFi := hid (findR hr' rg nm HM.out.2.2.2.2.2 hV0.symm hBo0.symm)
          have HV := hid (And.intro hV0 hBo0)
          have HP := hid (And.intro hr' (And.intro hdl' (And.intro hB' hM')))
          clear hr' hdl' hB' hM' hV0 hBo0
          go_wp2_with fail
          refine HFi.out.mono ?_
          rintro e w4 ⟨rfl, hw4⟩
          subst hw4
          clear e1 e3
          go_wp2_with fail
          go_loopw [16, 17, 18, 19] (fun want is names k wx => ∃ (q : Nat) (V : Int) (Bo : Bool) (Ns : List (List UInt8)), q ≤ M' ∧ want = .int .i64 V ∧ is = .bool Bo ∧ k = .int .i64 (q : Int) ∧ FoundIs P' rg nm q V Bo ∧ NamesIs P' rg sg q Ns ∧ Sl wx w4.heap.size 9 1 names Ns.length (Ns.map st) ∧ New w4 wx) (fun _ _ _ k _ => M' - (intOf k).toNat)
          case atStart => exact ⟨0, 0, false, [], Nat.zero_le _, rfl, rfl, rfl, .zero, .zero, Sl.nil _ _ _ _, New.refl _⟩
          case round =>
            obtain ⟨q, V, Bo, Ns, hq, rfl, rfl, rfl, hfo, hna, hsl, hnx⟩ := hrel
            obtain ⟨na, nc, rfl⟩ := hsl.val
            obtain ⟨K, hK⟩ : ∃ K, K = Ns.length := ⟨_, rfl⟩
            rw [← hK] at hsl ⊢
            have hKq : K ≤ q := by rw [hK]; exact hna.len
            by_cases hqm : q < M'
            · as_aux_lemma => --[[ scan
              have w2' : IntKind.i64.wrap ((q : Int) + 1) = q + 1 := by rw [IntKind.wrap_i64]; omega
              obtain ⟨g, o', x, hg, hx, _, hcell⟩ := (HP.out.2.1.new_ hnx).ls.get hqm
              subst hg
              have hB := HP.out.2.2.1.new_ hnx
              have d1 : wr.cell? ⟨g, o' + q * 4 + 1, none⟩ = some (.int .i64 x.2.1) := hcell 1 _ rfl
              have d2 : wr.cell? ⟨g, o' + q * 4 + 2, none⟩ = some (.int .i64 x.2.2.1) := hcell 2 _ rfl
              have d3 : wr.cell? ⟨g, o' + q * 4 + 3, none⟩ = some (st x.2.2.2) := hcell 3 _ rfl
              have e1 : wr.cell? ⟨D, 1, none⟩ = some (.int .i64 rg) := by rw [hB.cell]; rfl
              have e2 : wr.cell? ⟨D, 2, none⟩ = some (.int .i64 sg) := by rw [hB.cell]; rfl
              have e3 : wr.cell? ⟨D, 3, none⟩ = some (st nm) := by rw [hB.cell]; rfl
              have j0 : (0 : Int) ≤ (q : Int) := by omega
              have j1 : (q : Int) < (M' : Int) := by omega
              have HQ := hid (And.intro hfo (And.intro hna (And.intro hsl (And.intro hnx hx))))
              have HK := hid (And.intro hK hKq)
              have HC := hid (And.intro (And.intro d1 (And.intro d2 d3)) (And.intro e1 (And.intro e2 e3)))
              clear hfo hna hsl hnx hx hcell hB hK hKq e2 d2
              go_upto_region 54 with fail
              go_cut [247] from 230 to 247 (fun c wx => ∃ hb : Bool, c = .bool hb ∧ (hb = true ↔ x.2.1 = rg ∧ x.2.2.2 = nm) ∧ New wr wx)
              case first =>
                as_aux_lemma => --[[ tname
                cases h1 : (x.2.1 == rg) with
                | true =>
                  have h1d : decide (x.2.1 = rg) = true := decide_eq_true (beq_iff_eq.1 h1)
                  cases h2 : (x.2.2.2 == nm) with
                  | true =>
                    have HE := hid (And.intro (beq_iff_eq.1 h1) (beq_iff_eq.1 h2))
                    go_quiet (fail)
                    go_wp2_with fail
                    go_meet
                    exact ⟨true, rfl, ⟨fun _ => HE.out, fun _ => rfl⟩, (New.refl wr).drewN _⟩
                  | false =>
                    have HE := hid (show ¬ (x.2.1 = rg ∧ x.2.2.2 = nm) from fun h => by rw [h.2] at h2; simp at h2)
                    go_quiet (fail)
                    go_wp2_with fail
                    go_meet
                    exact ⟨false, rfl, ⟨fun h => absurd h (by decide), fun h => absurd h HE.out⟩, (New.refl wr).drewN _⟩
                | false =>
                  have h1d : decide (x.2.1 = rg) = false := decide_eq_false (beq_eq_false_iff_ne.1 h1)
                  have HE := hid (show ¬ (x.2.1 = rg ∧ x.2.2.2 = nm) from fun h => by rw [h.1] at h1; simp at h1)
                  go_quiet (fail)
                  go_wp2_with fail
                  go_meet
                  exact ⟨false, rfl, ⟨fun h => absurd h (by decide), fun h => absurd h HE.out⟩, (New.refl wr).drewN _⟩
                --]] tname
              case rest =>
                obtain ⟨hb, rfl, hbi, hn1⟩ := hcut
                clear d1 d3 e1 e3
                have d2 := hn1.cellK HC.out.1.2.1
                have HB1 := hid (And.intro hbi hn1)
                clear hbi hn1
                go_upto_if 247 with fail
                go_cut [16, 17] from 248 to 252 (fun want is wx => ∃ (V' : Int) (Bo' : Bool), want = .int .i64 V' ∧ is = .bool Bo' ∧ FoundIs P' rg nm (q + 1) V' Bo' ∧ New wr wx)
                case first =>
                  as_aux_lemma => --[[ found
                  cases hb with
                  | true =>
                    have h2 := hid (HB1.out.1.1 rfl)
                    have hn2 := hid HB1.out.2
                    clear HB1
                    go_wp2_with fail
                    go_meet
                    exact ⟨_, true, rfl, rfl, FoundIs.hit HP.out.1.1.nodup HQ.out.2.2.2.2 h2.out.1 h2.out.2, hn2.out⟩
                  | false =>
                    have h2 := hid (show ¬ (x.2.1 = rg ∧ x.2.2.2 = nm) from fun h => absurd (HB1.out.1.2 h) (by decide))
                    have hn2 := hid HB1.out.2
                    clear HB1
                    go_wp2_with fail
                    go_meet
                    exact ⟨_, _, rfl, rfl, HQ.out.1.miss HQ.out.2.2.2.2 h2.out, hn2.out⟩
                  --]] found
                case rest =>
                  obtain ⟨V2, Bo2, rfl, rfl, hfo2, hn2⟩ := hcut
                  clear d2
                  have d1 := hn2.cellK HC.out.1.1
                  have d2 := hn2.cellK HC.out.1.2.1
                  have e1 := hn2.cellK HC.out.2.1
                  have e2 := hn2.cellK HC.out.2.2.1
                  have HF := hid (And.intro hfo2 hn2)
                  clear hfo2 hn2
                  go_upto_region 56 with fail
                  go_cut [270] from 253 to 270 (fun c wx => ∃ hs : Bool, c = .bool hs ∧ (hs = true ↔ x.2.1 = rg ∧ x.2.2.1 = sg) ∧ New wr wx)
                  case first =>
                    as_aux_lemma => --[[ tseg
                    cases h1 : (x.2.1 == rg) with
                    | true =>
                      have h1d : decide (x.2.1 = rg) = true := decide_eq_true (beq_iff_eq.1 h1)
                      cases h2 : (x.2.2.1 == sg) with
                      | true =>
                        have h2d : decide (x.2.2.1 = sg) = true := decide_eq_true (beq_iff_eq.1 h2)
                        have HE := hid (And.intro (beq_iff_eq.1 h1) (beq_iff_eq.1 h2))
                        go_quiet (fail)
                        go_wp2_with fail
                        go_meet
                        exact ⟨true, rfl, ⟨fun _ => HE.out, fun _ => rfl⟩, HF.out.2.drewN _⟩
                      | false =>
                        have h2d : decide (x.2.2.1 = sg) = false := decide_eq_false (beq_eq_false_iff_ne.1 h2)
                        have HE := hid (show ¬ (x.2.1 = rg ∧ x.2.2.1 = sg) from fun h => by rw [h.2] at h2; simp at h2)
                        go_quiet (fail)
                        go_wp2_with fail
                        go_meet
                        exact ⟨false, rfl, ⟨fun h => absurd h (by decide), fun h => absurd h HE.out⟩, HF.out.2.drewN _⟩
                    | false =>
                      have h1d : decide (x.2.1 = rg) = false := decide_eq_false (beq_eq_false_iff_ne.1 h1)
                      have HE := hid (show ¬ (x.2.1 = rg ∧ x.2.2.1 = sg) from fun h => by rw [h.1] at h1; simp at h1)
                      go_quiet (fail)
                      go_wp2_with fail
                      go_meet
                      exact ⟨false, rfl, ⟨fun h => absurd h (by decide), fun h => absurd h HE.out⟩, HF.out.2.drewN _⟩
                    --]] tseg
                  case rest =>
                    obtain ⟨hs, rfl, hsi, hn3⟩ := hcut
                    clear d1 d2 e1 e2
                    cases hs with
                    | false =>
                      as_aux_lemma => --[[ out
                      have hno : ¬ (x.2.1 = rg ∧ x.2.2.1 = sg) := fun h => absurd (hsi.2 h) (by decide)
                      have HS3 := hid (And.intro hno hn3)
                      clear hsi hno hn3
                      go_wp2_with fail
                      exact ⟨⟨q + 1, V2, Bo2, Ns, by omega, rfl, rfl, by go_num, HF.out.1, HQ.out.2.1.miss HQ.out.2.2.2.2 HS3.out.1, by rw [← HK.out.1]; exact HQ.out.2.2.1.new_ HS3.out.2, HQ.out.2.2.2.1.step HS3.out.2⟩, by simp [intOf]; omega⟩
                      --]] out
                    | true =>
                      have hyes := hsi.1 rfl
                      have HS3 := hid (And.intro hyes hn3)
                      have HKl := hid (show K ≤ 201 from by have := HK.out.2; omega)
                      clear hsi hyes hn3
                      go_upto_block 10 with fail
                      go_cut [20] from 273 to 289 (fun jv wx => ∃ J : Nat, J ≤ K ∧ jv = .int .i64 (J : Int) ∧ (∀ i y, i < J → Ns[i]? = some y → ltB x.2.2.2 y = false) ∧ PlaceIs Ns x.2.2.2 J ∧ New wr wx)
                      case first =>
                        as_aux_lemma => --[[ place
                        go_wp2_with fail
                        go_loopw [20] (fun jv wx => ∃ J : Nat, J ≤ K ∧ jv = .int .i64 (J : Int) ∧ PlaceIs Ns x.2.2.2 J ∧ New wr wx) (fun jv _ => (intOf jv).toNat)
                        case atStart => exact ⟨K, Nat.le_refl _, rfl, by rw [HK.out.1]; exact PlaceIs.top, HS3.out.2⟩
                        case round =>
                          obtain ⟨J, hJ, rfl, hpl, hn4⟩ := hrel
                          by_cases hJ0 : J = 0
                          · subst hJ0
                            have HX := hid (And.intro hpl hn4)
                            clear hpl hn4
                            go_wp2_with fail
                            go_quiet (fail)
                            go_wp2_with fail
                            go_meet
                            exact ⟨0, Nat.zero_le _, rfl, fun i y hi _ => absurd hi (Nat.not_lt_zero _), HX.out.1, HX.out.2.drewN _⟩
                          · obtain ⟨J1, hJ1⟩ : ∃ J1, J = J1 + 1 := ⟨J - 1, by omega⟩
                            have hJK : J1 < K := by omega
                            have hKl := HKl.out
                            obtain ⟨g2, o2, y, hg2, hy, _, hcy⟩ := (names_ls (by rw [← HK.out.1]; exact HQ.out.2.2.1.new_ hn4)).get hJK
                            subst hg2
                            have c1 : wr.cell? ⟨g2, o2 + J1, none⟩ = some (st y) := by have := hcy 0 _ rfl; simpa using this
                            have c3 := hn4.cellK HC.out.1.2.2
                            have hgt : decide ((0 : Int) < (J : Int)) = true := decide_eq_true (by omega)
                            have hgt' : (0 : Int) < (J : Int) := by omega
                            have hgtN : 0 < J := by omega
                            have hgtD : decide (0 < J) = true := decide_eq_true hgtN
                            have w3' : IntKind.i64.wrap ((J : Int) - 1) = (J1 : Int) := by rw [IntKind.wrap_i64]; omega
                            have k0 : (0 : Int) ≤ (J1 : Int) := by omega
                            have k1 : (J1 : Int) < (K : Int) := by omega
                            have HX := hid (And.intro hpl (And.intro hn4 (And.intro hJ1 hy)))
                            have hs2 := HQ.out.2.1.2
                            cases hlt : ltB x.2.2.2 y with
                            | true =>
                              have HLt := hid hlt
                              clear hpl hn4 hJ1 hy hcy hs2 hJ0 hJK hKl
                              go_wp2_with fail
                              go_quiet (fail)
                              go_wp2_with fail
                              exact ⟨⟨J1, by have := HX.out.2.2.1; omega, by go_num, (show PlaceIs Ns x.2.2.2 (J1 + 1) from by rw [← HX.out.2.2.1]; exact HX.out.1).down HX.out.2.2.2 HLt.out, HX.out.2.1.drewN _⟩, by have := HX.out.2.2.1; simp [intOf]; omega⟩
                            | false =>
                              have HLt := hid (low_of hs2 hy hlt)
                              clear hpl hn4 hJ1 hy hcy hs2 hJ0 hJK hKl
                              go_wp2_with fail
                              go_quiet (fail)
                              go_wp2_with fail
                              go_meet
                              exact ⟨J, hJ, rfl, by rw [HX.out.2.2.1]; exact HLt.out, HX.out.1, HX.out.2.1.drewN _⟩
                        --]] place
                      case rest =>
                        obtain ⟨J, hJ, rfl, hlow, hpl, hn4⟩ := hcut
                        have hKl := HKl.out
                        have c3 : wc.cell? ⟨g, o' + q * 4 + 3, none⟩ = some (st x.2.2.2) := hn4.cellK HC.out.1.2.2
                        have HC3 : Hid (∀ X, New wc X → X.cell? ⟨g, o' + q * 4 + 3, none⟩ = some (st x.2.2.2)) := fun X h => h.cellK c3
                        have HS4 := hid (HQ.out.2.2.1.new_ hn4)
                        have HEnd : Hid (∀ (W : World) (v : Value), Sl W w4.heap.size 9 1 v (K + 1) ((Ns.map st).take J ++ st x.2.2.2 :: (Ns.map st).drop J) → New wc W → ∃ Ns2, NamesIs P' rg sg (q + 1) Ns2 ∧ Sl W w4.heap.size 9 1 v Ns2.length (Ns2.map st) ∧ New w4 W) := by
                          intro W v h1 h2
                          refine ⟨_, HQ.out.2.1.hit HQ.out.2.2.2.2 HS3.out.1.1 HS3.out.1.2 hlow hpl, ?_, (HQ.out.2.2.2.1.step hn4).step h2⟩
                          rw [ins_len (by rw [← HK.out.1]; exact hJ), ← names_ins, ← HK.out.1]
                          exact h1
                        obtain ⟨ti, hti, hzz⟩ := Option.map_eq_some_iff.1 str_info
                        simp only [Prod.mk.injEq] at hzz
                        have hins := fun (xa : Option Addr) (xc : Nat) (ya : Option Addr) (yc : Nat) hx hy => ins_runs (P := Try.prog) wc w4.heap.size 22 22 9 ti _ 16 Try.underlying22 hti hzz.1 hzz.2.1 hzz.2.2 rfl (Ns.map st) (names_one Ns) K (by rw [List.length_map]; exact HK.out.1.symm) J hJ (by unfold maxLen; omega) (by omega) (HQ.out.2.2.2.1.step hn4).size (st x.2.2.2) rfl xa xc ya yc hx hy
                        clear hti hlow hpl hn4
                        rcases na with _ | ad
                        · as_aux_lemma => --[[ insnil
                          obtain ⟨hK0, hc0⟩ := Sl.none0 HS4.out
                          have hJ0 : J = 0 := by omega
                          subst hc0 hK0 hJ0
                          obtain ⟨⟨b11, k11, w15, b12, k12, w17, b13, k13, w18, r11, r12, r13, s18, n18, n15, n17⟩, ⟨b21, k21, w25, b22, k22, w27, b23, k23, w28, r21, r22, r23, s28, n28, n25, n27⟩, ⟨b31, k31, w35, b32, k32, w37, b33, k33, w38, r31, r32, r33, s38, n38, n35, n37⟩⟩ := hins none 0 none 0 (.inl rfl) (.inl rfl)
                          clear hins hzz
                          go_upto_region 60 with fail
                          go_region_held3 (fun w' => w'.cell? ⟨g, o' + q * 4 + 3, none⟩ = some (st x.2.2.2)) (first | exact c3 | (refine HC3 _ ?_; repeat (first | assumption | exact New.refl _ | with_reducible apply New.drew | with_reducible apply New.alloc))) (first
                            | (refine step_append_run rfl (.tmp 290) (.tmp 293) 22 22 rfl (.slice (some ⟨wc.heap.size + 1, 0, none⟩) 0 0) (.slice none 0 0) (by simp [Act.eval, Act.put]) (by simp [Act.eval, Act.put]) r11 ?_)
                            | (refine step_append_run rfl (.tmp 294) (.tmp 300) 22 22 rfl (.slice (some b11) 0 k11) (.slice (some ⟨wc.heap.size, 0, none⟩) 1 1) (by simp [Act.eval, Act.put]) (by simp [Act.eval, Act.put]) r12 ?_)
                            | (refine step_append_run rfl (.tmp 301) (.tmp 304) 22 22 rfl (.slice (some b12) (0 + 1) k12) (.slice none (0 - 0) 0) (by simp [Act.eval, Act.put]) (by simp [Act.eval, Act.put]) r13 ?_)
                            | (refine step_append_run rfl (.tmp 290) (.tmp 293) 22 22 rfl (.slice (some ⟨wc.heap.size, 0, none⟩) 0 0) (.slice none 0 0) (by simp [Act.eval, Act.put]) (by simp [Act.eval, Act.put]) r21 ?_)
                            | (refine step_append_run rfl (.tmp 294) (.tmp 300) 22 22 rfl (.slice (some b21) 0 k21) (.slice (some ⟨wc.heap.size + 1, 0, none⟩) 1 1) (by simp [Act.eval, Act.put]) (by simp [Act.eval, Act.put]) r22 ?_)
                            | (refine step_append_run rfl (.tmp 301) (.tmp 304) 22 22 rfl (.slice (some b22) (0 + 1) k22) (.slice none (0 - 0) 0) (by simp [Act.eval, Act.put]) (by simp [Act.eval, Act.put]) r23 ?_)
                            | (refine step_append_run rfl (.tmp 290) (.tmp 293) 22 22 rfl (.slice (some ⟨wc.heap.size, 0, none⟩) 0 0) (.slice none 0 0) (by simp [Act.eval, Act.put]) (by simp [Act.eval, Act.put]) r31 ?_)
                            | (refine step_append_run rfl (.tmp 294) (.tmp 300) 22 22 rfl (.slice (some b31) 0 k31) (.slice (some ⟨w35.heap.size, 0, none⟩) 1 1) (by simp [Act.eval, Act.put]) (by simp [Act.eval, Act.put]) r32 ?_)
                            | (refine step_append_run rfl (.tmp 301) (.tmp 304) 22 22 rfl (.slice (some b32) (0 + 1) k32) (.slice none (0 - 0) 0) (by simp [Act.eval, Act.put]) (by simp [Act.eval, Act.put]) r33 ?_))
                          all_goals go_wp2_with fail
                          all_goals (first
                            | (obtain ⟨Ns2, z1, z2, z3⟩ := HEnd w18 _ s18 n18; exact ⟨⟨q + 1, V2, Bo2, Ns2, by omega, rfl, rfl, by go_num, HF.out.1, z1, z2, z3⟩, by simp [intOf]; omega⟩)
                            | (obtain ⟨Ns2, z1, z2, z3⟩ := HEnd w28 _ s28 n28; exact ⟨⟨q + 1, V2, Bo2, Ns2, by omega, rfl, rfl, by go_num, HF.out.1, z1, z2, z3⟩, by simp [intOf]; omega⟩)
                            | (obtain ⟨Ns2, z1, z2, z3⟩ := HEnd w38 _ s38 n38; exact ⟨⟨q + 1, V2, Bo2, Ns2, by omega, rfl, rfl, by go_num, HF.out.1, z1, z2, z3⟩, by simp [intOf]; omega⟩))
                          --]] insnil
                        · obtain ⟨g2, o2, rfl, hKc, _, hcell2⟩ := Sl.form' HS4.out
                          have z1 : (0 : Int) ≤ (J : Int) := by omega
                          have z2 : (J : Int) ≤ (K : Int) := by omega
                          have z3 : (J : Int) ≤ (nc : Int) := by omega
                          have z4 : (K : Int) ≤ (nc : Int) := by omega
                          by_cases y7 : nc = J
                          · as_aux_lemma => --[[ insfull
                            have hJK : J = K := by omega
                            subst y7
                            clear hKc z3 z4 z2
                            subst hJK
                            have z2 : (nc : Int) ≤ (nc : Int) := Int.le_refl _
                            obtain ⟨⟨b11, k11, w15, b12, k12, w17, b13, k13, w18, r11, r12, r13, s18, n18, n15, n17⟩, ⟨b21, k21, w25, b22, k22, w27, b23, k23, w28, r21, r22, r23, s28, n28, n25, n27⟩, ⟨b31, k31, w35, b32, k32, w37, b33, k33, w38, r31, r32, r33, s38, n38, n35, n37⟩⟩ := hins (some ⟨g2, o2, none⟩) nc (some ⟨g2, o2, none⟩) 0 (.inr ⟨g2, o2, rfl, hcell2⟩) (.inl (Nat.sub_self _))
                            clear hins hzz
                            go_upto_region 60 with fail
                            go_region_held3 (fun w' => w'.cell? ⟨g, o' + q * 4 + 3, none⟩ = some (st x.2.2.2)) (first | exact c3 | (refine HC3 _ ?_; repeat (first | assumption | exact New.refl _ | with_reducible apply New.drew | with_reducible apply New.alloc))) (first
                              | (refine step_append_run rfl (.tmp 290) (.tmp 293) 22 22 rfl (.slice (some ⟨wc.heap.size + 1, 0, none⟩) 0 0) (.slice (some ⟨g2, o2, none⟩) nc nc) (by simp [Act.eval, Act.put]) (by simp [Act.eval, Act.put]) r11 ?_)
                              | (refine step_append_run rfl (.tmp 294) (.tmp 300) 22 22 rfl (.slice (some b11) nc k11) (.slice (some ⟨wc.heap.size, 0, none⟩) 1 1) (by simp [Act.eval, Act.put]) (by simp [Act.eval, Act.put]) r12 ?_)
                              | (refine step_append_run rfl (.tmp 301) (.tmp 304) 22 22 rfl (.slice (some b12) (nc + 1) k12) (.slice (some ⟨g2, o2, none⟩) (nc - nc) 0) (by simp [Act.eval, Act.put]) (by simp [Act.eval, Act.put] <;> omega) r13 ?_)
                              | (refine step_append_run rfl (.tmp 290) (.tmp 293) 22 22 rfl (.slice (some ⟨wc.heap.size, 0, none⟩) 0 0) (.slice (some ⟨g2, o2, none⟩) nc nc) (by simp [Act.eval, Act.put]) (by simp [Act.eval, Act.put]) r21 ?_)
                              | (refine step_append_run rfl (.tmp 294) (.tmp 300) 22 22 rfl (.slice (some b21) nc k21) (.slice (some ⟨wc.heap.size + 1, 0, none⟩) 1 1) (by simp [Act.eval, Act.put]) (by simp [Act.eval, Act.put]) r22 ?_)
                              | (refine step_append_run rfl (.tmp 301) (.tmp 304) 22 22 rfl (.slice (some b22) (nc + 1) k22) (.slice (some ⟨g2, o2, none⟩) (nc - nc) 0) (by simp [Act.eval, Act.put]) (by simp [Act.eval, Act.put] <;> omega) r23 ?_)
                              | (refine step_append_run rfl (.tmp 290) (.tmp 293) 22 22 rfl (.slice (some ⟨wc.heap.size, 0, none⟩) 0 0) (.slice (some ⟨g2, o2, none⟩) nc nc) (by simp [Act.eval, Act.put]) (by simp [Act.eval, Act.put]) r31 ?_)
                              | (refine step_append_run rfl (.tmp 294) (.tmp 300) 22 22 rfl (.slice (some b31) nc k31) (.slice (some ⟨w35.heap.size, 0, none⟩) 1 1) (by simp [Act.eval, Act.put]) (by simp [Act.eval, Act.put]) r32 ?_)
                              | (refine step_append_run rfl (.tmp 301) (.tmp 304) 22 22 rfl (.slice (some b32) (nc + 1) k32) (.slice (some ⟨g2, o2, none⟩) (nc - nc) 0) (by simp [Act.eval, Act.put]) (by simp [Act.eval, Act.put] <;> omega) r33 ?_))
                            all_goals go_wp2_with fail
                            all_goals (first
                              | (obtain ⟨Ns2, z1, z2, z3⟩ := HEnd w18 _ s18 n18; exact ⟨⟨q + 1, V2, Bo2, Ns2, by omega, rfl, rfl, by go_num, HF.out.1, z1, z2, z3⟩, by simp [intOf]; omega⟩)
                              | (obtain ⟨Ns2, z1, z2, z3⟩ := HEnd w28 _ s28 n28; exact ⟨⟨q + 1, V2, Bo2, Ns2, by omega, rfl, rfl, by go_num, HF.out.1, z1, z2, z3⟩, by simp [intOf]; omega⟩)
                              | (obtain ⟨Ns2, z1, z2, z3⟩ := HEnd w38 _ s38 n38; exact ⟨⟨q + 1, V2, Bo2, Ns2, by omega, rfl, rfl, by go_num, HF.out.1, z1, z2, z3⟩, by simp [intOf]; omega⟩))
                            --]] insfull
                          · as_aux_lemma => --[[ ins
                            clear hKc
                            obtain ⟨⟨b11, k11, w15, b12, k12, w17, b13, k13, w18, r11, r12, r13, s18, n18, n15, n17⟩, ⟨b21, k21, w25, b22, k22, w27, b23, k23, w28, r21, r22, r23, s28, n28, n25, n27⟩, ⟨b31, k31, w35, b32, k32, w37, b33, k33, w38, r31, r32, r33, s38, n38, n35, n37⟩⟩ := hins (some ⟨g2, o2, none⟩) nc (some ⟨g2, o2 + J, none⟩) (nc - J) (.inr ⟨g2, o2, rfl, hcell2⟩) (.inr ⟨g2, o2, rfl, hcell2⟩)
                            clear hins hzz
                            go_upto_region 60 with fail
                            go_region_held3 (fun w' => w'.cell? ⟨g, o' + q * 4 + 3, none⟩ = some (st x.2.2.2)) (first | exact c3 | (refine HC3 _ ?_; repeat (first | assumption | exact New.refl _ | with_reducible apply New.drew | with_reducible apply New.alloc))) (first
                              | (refine step_append_run rfl (.tmp 290) (.tmp 293) 22 22 rfl (.slice (some ⟨wc.heap.size + 1, 0, none⟩) 0 0) (.slice (some ⟨g2, o2, none⟩) J nc) (by simp [Act.eval, Act.put]) (by simp [Act.eval, Act.put]) r11 ?_)
                              | (refine step_append_run rfl (.tmp 294) (.tmp 300) 22 22 rfl (.slice (some b11) J k11) (.slice (some ⟨wc.heap.size, 0, none⟩) 1 1) (by simp [Act.eval, Act.put]) (by simp [Act.eval, Act.put]) r12 ?_)
                              | (refine step_append_run rfl (.tmp 301) (.tmp 304) 22 22 rfl (.slice (some b12) (J + 1) k12) (.slice (some ⟨g2, o2 + J, none⟩) (K - J) (nc - J)) (by simp [Act.eval, Act.put]) (by simp [Act.eval, Act.put] <;> omega) r13 ?_)
                              | (refine step_append_run rfl (.tmp 290) (.tmp 293) 22 22 rfl (.slice (some ⟨wc.heap.size, 0, none⟩) 0 0) (.slice (some ⟨g2, o2, none⟩) J nc) (by simp [Act.eval, Act.put]) (by simp [Act.eval, Act.put]) r21 ?_)
                              | (refine step_append_run rfl (.tmp 294) (.tmp 300) 22 22 rfl (.slice (some b21) J k21) (.slice (some ⟨wc.heap.size + 1, 0, none⟩) 1 1) (by simp [Act.eval, Act.put]) (by simp [Act.eval, Act.put]) r22 ?_)
                              | (refine step_append_run rfl (.tmp 301) (.tmp 304) 22 22 rfl (.slice (some b22) (J + 1) k22) (.slice (some ⟨g2, o2 + J, none⟩) (K - J) (nc - J)) (by simp [Act.eval, Act.put]) (by simp [Act.eval, Act.put] <;> omega) r23 ?_)
                              | (refine step_append_run rfl (.tmp 290) (.tmp 293) 22 22 rfl (.slice (some ⟨wc.heap.size, 0, none⟩) 0 0) (.slice (some ⟨g2, o2, none⟩) J nc) (by simp [Act.eval, Act.put]) (by simp [Act.eval, Act.put]) r31 ?_)
                              | (refine step_append_run rfl (.tmp 294) (.tmp 300) 22 22 rfl (.slice (some b31) J k31) (.slice (some ⟨w35.heap.size, 0, none⟩) 1 1) (by simp [Act.eval, Act.put]) (by simp [Act.eval, Act.put]) r32 ?_)
                              | (refine step_append_run rfl (.tmp 301) (.tmp 304) 22 22 rfl (.slice (some b32) (J + 1) k32) (.slice (some ⟨g2, o2 + J, none⟩) (K - J) (nc - J)) (by simp [Act.eval, Act.put]) (by simp [Act.eval, Act.put] <;> omega) r33 ?_))
                            all_goals go_wp2_with fail
                            all_goals (first
                              | (obtain ⟨Ns2, z1, z2, z3⟩ := HEnd w18 _ s18 n18; exact ⟨⟨q + 1, V2, Bo2, Ns2, by omega, rfl, rfl, by go_num, HF.out.1, z1, z2, z3⟩, by simp [intOf]; omega⟩)
                              | (obtain ⟨Ns2, z1, z2, z3⟩ := HEnd w28 _ s28 n28; exact ⟨⟨q + 1, V2, Bo2, Ns2, by omega, rfl, rfl, by go_num, HF.out.1, z1, z2, z3⟩, by simp [intOf]; omega⟩)
                              | (obtain ⟨Ns2, z1, z2, z3⟩ := HEnd w38 _ s38 n38; exact ⟨⟨q + 1, V2, Bo2, Ns2, by omega, rfl, rfl, by go_num, HF.out.1, z1, z2, z3⟩, by simp [intOf]; omega⟩))
                            --]] ins
              --]] scan
            · as_aux_lemma => --[[ tail
              have hqe : q = M' := by omega
              subst hqe
              have hlt : ¬ (q : Int) < (q : Int) := by omega
              have hv := (show FoundIs P' rg nm P'.length V Bo from by rw [← HP.out.2.2.2]; exact hfo).all
              have hV : V0 = V := HV.out.1.trans hv.1
              have hBo : Bo0 = Bo := HV.out.2.trans hv.2
              subst hV hBo
              have hSo := (show NamesIs P' rg sg P'.length Ns from by rw [← HP.out.2.2.2]; exact hna).all
              have hr := HP.out.1.new_ hnx
              have hB := HP.out.2.2.1.new_ hnx
              have hdl := HP.out.2.1.new_ hnx
              have e1 : wr.cell? ⟨D, 1, none⟩ = some (.int .i64 rg) := by rw [hB.cell]; rfl
              have e2 : wr.cell? ⟨D, 2, none⟩ = some (.int .i64 sg) := by rw [hB.cell]; rfl
              have hlen : (toL P').length = q := by rw [toL_len]; exact HP.out.2.2.2.symm
              have hof := ofR hr rg sg (by rw [hlen]; omega) hSo
              rw [← hK] at hof
              have HQ := hid (And.intro hof (And.intro hr (And.intro hdl (And.intro hsl hK))))
              have HLen := hid hlen
              clear hof hr hdl hB hsl hK hnx hlen hSo hna hfo hv
              go_wp2_with fail
              refine HQ.out.1.mono ?_
              rintro e w5 ⟨v5, rfl, hs5, n5⟩
              obtain ⟨va5, vc5, rfl⟩ := hs5.val
              have hr5 := HQ.out.2.1.new_ n5
              have H5 := hid (And.intro hr5 (And.intro (HQ.out.2.2.1.new_ n5) (And.intro (HQ.out.2.2.2.1.new_ n5) hs5)))
              clear n5 hs5 hr5 e1 e2
              go_wp2_with fail
              refine (lenR H5.out.1 HLen.out).mono ?_
              rintro e w6 ⟨rfl, hw6⟩
              subst hw6
              go_wp2_with fail
              go_loopw [22] (fun i wx => ∃ p : Nat, p ≤ K ∧ i = .int .i64 (p : Int) ∧ New w6 wx) (fun i _ => K - (intOf i).toNat)
              case atStart => exact ⟨0, Nat.zero_le _, rfl, New.refl w6⟩
              case round =>
                obtain ⟨p, hp, rfl, hx⟩ := hrel
                by_cases hpK : p < K
                · have w3' : IntKind.i64.wrap ((p : Int) + 1) = p + 1 := by rw [IntKind.wrap_i64]; omega
                  obtain ⟨g5, o5, y, hg5, hy, _, hcy⟩ := (names_ls (by rw [← HQ.out.2.2.2.2]; exact H5.out.2.2.2.new_ hx)).get hpK
                  obtain ⟨g6, o6, y', hg6, hy', _, hcy'⟩ := (names_ls (by rw [← HQ.out.2.2.2.2]; exact H5.out.2.2.1.new_ hx)).get hpK
                  subst hg5 hg6
                  rw [hy] at hy'
                  cases hy'
                  have c1 : wr.cell? ⟨g5, o5 + p, none⟩ = some (st y) := by have := hcy 0 _ rfl; simpa using this
                  have c2 : wr.cell? ⟨g6, o6 + p, none⟩ = some (st y) := by have := hcy' 0 _ rfl; simpa using this
                  have j0 : (0 : Int) ≤ (p : Int) := by omega
                  have j1 : (p : Int) < (K : Int) := by omega
                  have hyy : (y == y) = true := beq_self_eq_true y
                  have HX := hid hx
                  clear hcy hcy' hy hx
                  go_wp2_with fail
                  go_quiet (fail)
                  go_wp2_with fail
                  exact ⟨⟨p + 1, by omega, by go_num, HX.out.drewN _⟩, by simp [intOf]; omega⟩
                · have hpe : ¬ (p : Int) < (K : Int) := by omega
                  have HX := hid hx
                  clear hx
                  go_wp2_with fail
                  exact ⟨⟨j + 1, P', by omega, by go_num, H5.out.1.new_ HX.out, H5.out.2.1.new_ HX.out, by rw [← HP.out.2.2.2]; omega⟩, by simp [intOf]; omega⟩
              --]] tail
          --]] rest
    · as_aux_lemma => --[[ exit
      have hje : ¬ (j : Int) < (L : Int) := by omega
      have HX := hid (HN.out.step hr.2.1)
      clear hr hdl hPj
      go_wp2
      go_ret
      exact ⟨rfl, HX.out⟩
      --]] exit
end Go.Proofs.Ytakhidieomalhaa.Law
