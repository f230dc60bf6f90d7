/- The contracts of the references: plain, UserMay, ListMay, SetTerm, Find. -/
import Derived.Test.YtaapfkfijahbmaaAclPure
import Derived.Test.YtaapfkfijahbmaaAclOpen
namespace Go.Proofs.Ytaapfkfijahbmaa.Acl
open Go Go.RowKit Go.Proofs.Ytaapfkfijahbmaa.Kit Go.Proofs.Ytaapfkfijahbmaa.Str Go.Proofs.Ytaapfkfijahbmaa.Term Go.Proofs.Ytaapfkfijahbmaa.Names
set_option linter.unusedSimpArgs false
set_option linter.unusedVariables false
set_option maxRecDepth 100000 in
set_option maxHeartbeats 4000000 in
theorem plain_any (l : List UInt8) (most : Nat) (hm : most ≤ 1000) (hl : l.length ≤ 9223372036854775807) (w : World) :
    Calls Try.prog 24 #[st l, .int .i64 (most : Int)] w fun e w' => e = .returned (.bool (signsB l most)) ∧ ∃ k, w' = w.drewN k := by
  by_cases h1 : l.length < 1
  · have e : signsB l most = false := by simp [signsB]; omega
    rw [e]
    have h1' : (l.length : Int) < 1 := by omega
    clear e
    go_enter Try.func24, Try.ntmps24
    go_wp2
    go_ret
    exact ⟨rfl, 0, rfl⟩
  by_cases h2 : most < l.length
  · have e : signsB l most = false := by simp [signsB]; omega
    rw [e]
    clear e
    have h1' : ¬ (l.length : Int) < 1 := by omega
    have h2' : (most : Int) < (l.length : Int) := by omega
    go_enter Try.func24, Try.ntmps24
    go_wp2
    go_ret
    exact ⟨rfl, 0, rfl⟩
  have h62 : (((ByteArray.mk #[62])[0]'(by decide)).toNat : Int) = 62 := rfl
  have h1' : ¬ (l.length : Int) < 1 := by omega
  have h2' : ¬ (most : Int) < (l.length : Int) := by omega
  go_enter Try.func24, Try.ntmps24
  go_wp2_with fail
  go_loopw [5] (fun i wr => ∃ j k : Nat, j ≤ l.length ∧ i = .int .i64 (j : Int) ∧ (l.take j).all okB = true ∧ wr = w.drewN k) (fun i _ => l.length - (intOf i).toNat)
  case atStart => exact ⟨0, 0, Nat.zero_le _, rfl, rfl, rfl⟩
  case round =>
    obtain ⟨j, k, hj, rfl, hall, rfl⟩ := hrel
    have w1 : IntKind.i64.wrap ((j : Int) + 1) = j + 1 := by rw [IntKind.wrap_i64]; omega
    by_cases hjl : j < l.length
    · have hjs : j < (ByteArray.mk l.toArray).size := by show j < l.toArray.size; rw [List.size_toArray]; exact hjl
      obtain ⟨c, hc⟩ : ∃ c, c = l[j] := ⟨_, rfl⟩
      have hby : (((ByteArray.mk l.toArray)[j]'hjs).toNat : Int) = (c.toNat : Int) := by rw [hc]; rfl
      have i0 : (0 : Int) ≤ (j : Int) := by omega
      have i1 : (j : Int) < (l.length : Int) := by omega
      have htk : l.take (j + 1) = l.take j ++ [c] := by rw [hc, List.take_succ_eq_append_getElem hjl]
      have hcl := c.toNat_lt
      have HA := hid (And.intro hall htk)
      have hC := hid hc
      clear hall htk hc
      by_cases c1 : c.toNat < 33
      · have c1' : decide ((c.toNat : Int) < 33) = true := by simp; omega
        have hbad : okB c = false := by simp [okB]; omega
        have HB := hid hbad
        clear hbad
        go_wp2_with fail
        go_ret
        refine ⟨ret_bool ?_, k, by first | rfl | simp⟩
        have : l.all okB = false := by
          rw [List.all_eq_false]
          exact ⟨c, by rw [hC.out]; exact List.getElem_mem hjl, by rw [HB.out]; decide⟩
        simp [signsB, this]
      · have c1' : decide ((c.toNat : Int) < 33) = false := by simp; omega
        by_cases c2 : 126 < c.toNat
        · have c2' : decide ((126 : Int) < c.toNat) = true := by simp; omega
          have hbad : okB c = false := by simp [okB]; omega
          have HB := hid hbad
          clear hbad
          go_wp2_with fail
          go_ret
          refine ⟨ret_bool ?_, k, by first | rfl | simp⟩
          have : l.all okB = false := by
            rw [List.all_eq_false]
            exact ⟨c, by rw [hC.out]; exact List.getElem_mem hjl, by rw [HB.out]; decide⟩
          simp [signsB, this]
        · have c2' : decide ((126 : Int) < c.toNat) = false := by simp; omega
          by_cases c3 : c.toNat = 62
          · have c3' : ((c.toNat : Int) == 62) = true := by simp; omega
            have hbad : okB c = false := by simp [okB]; omega
            have HB := hid hbad
            clear hbad c3
            go_wp2_with fail
            go_ret
            refine ⟨ret_bool ?_, k, by first | rfl | simp⟩
            have : l.all okB = false := by
              rw [List.all_eq_false]
              exact ⟨c, by rw [hC.out]; exact List.getElem_mem hjl, by rw [HB.out]; decide⟩
            simp [signsB, this]
          · have c3' : ((c.toNat : Int) == 62) = false := by simp; omega
            have hok : okB c = true := by simp [okB]; omega
            have HB := hid hok
            clear hok
            go_wp2_with fail
            refine ⟨⟨j + 1, k, by omega, by go_num, ?_, by first | rfl | simp⟩, by simp [intOf]; omega⟩
            rw [HA.out.2, List.all_append, HA.out.1]
            simp [HB.out]
    · have ej : j = l.length := by omega
      have he : signsB l most = true := by
        rw [ej, List.take_length] at hall
        simp [signsB, hall]
        omega
      have HE := hid he
      clear hall he
      go_wp2_with fail
      go_ret
      exact ⟨ret_bool HE.out.symm, _, rfl⟩
theorem usermay_any (l : List UInt8) (hl : l.length ≤ 9223372036854775807) (w : World) : Calls Try.prog 13 #[st l] w fun e w' => e = .returned (.bool (signsB l 16)) ∧ ∃ k, w' = w.drewN k := by
  go_enter Try.func13, Try.ntmps13
  go_wp2_with fail
  refine (plain_any l 16 (by omega) hl _).mono ?_
  rintro e w' ⟨rfl, k, rfl⟩
  go_wp2
  go_ret
  exact ⟨rfl, k, rfl⟩
theorem usermay_new (l : List UInt8) (hl : l.length ≤ 9223372036854775807) (w : World) : Calls Try.prog 13 #[st l] w fun e w' => e = .returned (.bool (signsB l 16)) ∧ New w w' :=
  (usermay_any l hl w).mono fun e w' h => ⟨h.1, by obtain ⟨k, rfl⟩ := h.2; exact (New.refl w).drewN k⟩
def MayTo (l : List Tm) (k : Nat) : Prop := ∀ (i : Nat) (t : Tm), i < k → l[i]? = some t → userB t.1 = true ∧ ∀ s : Tm, 0 < i → l[i - 1]? = some s → ltB s.1 t.1 = true
set_option maxRecDepth 100000 in
set_option maxHeartbeats 4000000 in
theorem listmay_any (v : Value) (l : List Tm) (hu : ∀ t ∈ l, t.1.length ≤ 9223372036854775807) (w : World) (h : LsAt 4 tc w v l) : Calls Try.prog 16 #[v] w fun e w' => e = .returned (.bool (mayL l)) ∧ New w w' := by
  obtain ⟨a, c, hv, hlc, hcm, _⟩ := id h
  subst hv
  unfold maxLen at hcm
  obtain ⟨n, hn⟩ : ∃ n, n = l.length := ⟨_, rfl⟩
  rw [← hn] at hlc h ⊢
  have H := hid (And.intro h (And.intro hn hu))
  clear h hn hu
  by_cases h16 : 16 < n
  · have hno : Hid (mayL l = false) := mayL_no.2 fun hm => by have := hm.1; have := H.out.2.1; omega
    have h16' : (16 : Int) < (n : Int) := by omega
    go_enter Try.func16, Try.ntmps16
    go_wp2
    go_ret
    exact ⟨ret_bool hno.out.symm, New.refl _⟩
  have h16' : ¬ (16 : Int) < (n : Int) := by omega
  go_enter Try.func16, Try.ntmps16
  go_wp2_with fail
  go_loopw [3] (fun i wr => ∃ j : Nat, j ≤ n ∧ i = .int .i64 (j : Int) ∧ MayTo l j ∧ New w wr) (fun i _ => n - (intOf i).toNat)
  case atStart => exact ⟨0, Nat.zero_le _, rfl, fun i t hi => absurd hi (by omega), New.refl w⟩
  case round =>
    obtain ⟨j, hj, rfl, hall, hnr⟩ := hrel
    by_cases hjl : j < n
    · have w1 : IntKind.i64.wrap ((j : Int) + 1) = j + 1 := by rw [IntKind.wrap_i64]; omega
      obtain ⟨b, o, t, rfl, hx, _, hcell⟩ := (H.out.1.new_ hnr).get hjl
      have c0 := hcell 0 _ rfl
      rw [Nat.add_zero] at c0
      have htl : t.1.length ≤ 9223372036854775807 := H.out.2.2 t (List.mem_of_getElem? hx)
      have HX := hid (And.intro hx (And.intro hall hnr))
      have i0 : (0 : Int) ≤ (j : Int) := by omega
      have i1 : (j : Int) < (n : Int) := by omega
      clear hcell hx hall hnr
      have hU := fun X => usermay_new t.1 htl X
      cases hs : signsB t.1 16 with
      | false =>
        rw [hs] at hU
        cases h42 : (t.1 == [42]) with
        | false =>
          have hno : Hid (mayL l = false) := mayL_no.2 (fun hm => by
            have := (hm.2 j t HX.out.1).1
            unfold userB at this
            rw [hs, h42] at this; cases this)
          clear hs
          go_wp2_with fail
          refine wp_region_quiet (C := fun w' => New wr w') (by kernel_rfl) (by kernel_rfl) (New.refl wr).drew ?_
          simp only [List.toList_toArray]
          repeat (first
            | go_big_quiet_skip
            | (go_big_quiet_want
               apply Exists.intro
               refine ⟨fun w' hw' => ?_, ?_⟩
               · have c0_ := hw'.cellK c0; go_simp; first | (with_reducible rfl) | (go_at_call 13; with_reducible exact ((hU _).mono (fun e w2 h => ⟨h.1, hw'.step h.2⟩)))
               go_big_quiet_on
               try simp only [Act.put, List.setIfInBounds_toArray, List.set_cons_zero, List.set_cons_succ]))
          refine wpQuiet_nil ?_
          intro wQ hwQ
          go_wp2_with fail
          go_ret
          exact ⟨ret_bool hno.out.symm, HX.out.2.2.step hwQ⟩
        | true =>
          have huB : userB t.1 = true := by unfold userB; rw [h42]; rfl
          have Hu := hid huB
          clear huB
          by_cases hj0 : j = 0
          · subst hj0
            have hz : decide ((0 : Int) < 0) = false := by decide
            rw [Nat.zero_mul, Nat.add_zero] at c0
            go_wp2_with fail
            refine wp_region_quiet (C := fun w' => New wr w') (by kernel_rfl) (by kernel_rfl) (New.refl wr).drew ?_
            simp only [List.toList_toArray]
            repeat (first
              | go_big_quiet_skip
              | (go_big_quiet_want
                 apply Exists.intro
                 refine ⟨fun w' hw' => ?_, ?_⟩
                 · have c0_ := hw'.cellK c0; go_simp; first | (with_reducible rfl) | (go_at_call 13; with_reducible exact ((hU _).mono (fun e w2 h => ⟨h.1, hw'.step h.2⟩)))
                 go_big_quiet_on
                 try simp only [Act.put, List.setIfInBounds_toArray, List.set_cons_zero, List.set_cons_succ]))
            refine wpQuiet_nil ?_
            intro wQ hwQ
            go_wp2_with fail
            refine ⟨⟨1, by omega, rfl, fun i s hi hs => ?_, HX.out.2.2.step hwQ⟩, by simp [intOf]; omega⟩
            obtain rfl : i = 0 := by omega
            rw [HX.out.1] at hs
            cases hs
            exact ⟨Hu.out, fun _ h => absurd h (by omega)⟩
          · obtain ⟨i, hi⟩ : ∃ i, j = i + 1 := ⟨j - 1, by omega⟩
            have w2 : IntKind.i64.wrap ((j : Int) - 1) = (i : Int) := by rw [IntKind.wrap_i64]; omega
            obtain ⟨b2, o2, p, hv2, hx2, _, hcell2⟩ := (H.out.1.new_ HX.out.2.2).get (show i < n by omega)
            injection hv2 with hv21
            injection hv21 with hv22 hv23
            subst hv22 hv23
            have p0 := hcell2 0 _ rfl
            rw [Nat.add_zero] at p0
            have hpos : decide (0 < j) = true := decide_eq_true (by omega)
            have i2 : (0 : Int) ≤ (i : Int) := by omega
            have i3 : (i : Int) < (n : Int) := by omega
            have Hi := hid hi
            have HP := hid hx2
            clear hi hj0 hcell2 hx2
            cases hlt : ltB p.1 t.1 with
            | true =>
              have e1 : ltB t.1 p.1 = false := ltB_asymm hlt
              have e2 : (t.1 == p.1) = false := beq_eq_false_iff_ne.2 fun e => ltB_ne hlt e.symm
              have Hlt := hid hlt
              clear hlt
              go_wp2_with fail
              refine wp_region_quiet (C := fun w' => New wr w') (by kernel_rfl) (by kernel_rfl) (New.refl wr).drew ?_
              simp only [List.toList_toArray]
              repeat (first
                | go_big_quiet_skip
                | (go_big_quiet_want
                   apply Exists.intro
                   refine ⟨fun w' hw' => ?_, ?_⟩
                   · have c0_ := hw'.cellK c0; have p0_ := hw'.cellK p0; go_simp; first | (with_reducible rfl) | (go_at_call 13; with_reducible exact ((hU _).mono (fun e w2 h => ⟨h.1, hw'.step h.2⟩)))
                   go_big_quiet_on
                   try simp only [Act.put, List.setIfInBounds_toArray, List.set_cons_zero, List.set_cons_succ]))
              refine wpQuiet_nil ?_
              intro wQ hwQ
              go_wp2_with fail
              refine ⟨⟨j + 1, by omega, by go_num, fun q s hq hs => ?_, HX.out.2.2.step hwQ⟩, by simp [intOf]; omega⟩
              by_cases e : q = j
              · rw [e] at hs ⊢
                rw [HX.out.1] at hs
                cases hs
                refine ⟨Hu.out, fun s h0 hs => ?_⟩
                rw [show j - 1 = i by have := Hi.out; omega, HP.out] at hs
                cases hs
                exact Hlt.out
              · exact HX.out.2.1 q s (by omega) hs
            | false =>
              have hno : Hid (mayL l = false) := mayL_no.2 (fun hm => by
                have h1 := (hm.2 j t HX.out.1).2 p (by have := Hi.out; omega) (by rw [show j - 1 = i by have := Hi.out; omega]; exact HP.out)
                rw [hlt] at h1
                cases h1)
              cases he : (t.1 == p.1) with
              | true =>
                clear hlt
                go_wp2_with fail
                refine wp_region_quiet (C := fun w' => New wr w') (by kernel_rfl) (by kernel_rfl) (New.refl wr).drew ?_
                simp only [List.toList_toArray]
                repeat (first
                  | go_big_quiet_skip
                  | (go_big_quiet_want
                     apply Exists.intro
                     refine ⟨fun w' hw' => ?_, ?_⟩
                     · have c0_ := hw'.cellK c0; have p0_ := hw'.cellK p0; go_simp; first | (with_reducible rfl) | (go_at_call 13; with_reducible exact ((hU _).mono (fun e w2 h => ⟨h.1, hw'.step h.2⟩)))
                     go_big_quiet_on
                     try simp only [Act.put, List.setIfInBounds_toArray, List.set_cons_zero, List.set_cons_succ]))
                refine wpQuiet_nil ?_
                intro wQ hwQ
                go_wp2_with fail
                go_ret
                exact ⟨ret_bool hno.out.symm, HX.out.2.2.step hwQ⟩
              | false =>
                have e1 : ltB t.1 p.1 = true := ltB_total (fun e => (beq_eq_false_iff_ne.1 he) e.symm) hlt
                clear hlt
                go_wp2_with fail
                refine wp_region_quiet (C := fun w' => New wr w') (by kernel_rfl) (by kernel_rfl) (New.refl wr).drew ?_
                simp only [List.toList_toArray]
                repeat (first
                  | go_big_quiet_skip
                  | (go_big_quiet_want
                     apply Exists.intro
                     refine ⟨fun w' hw' => ?_, ?_⟩
                     · have c0_ := hw'.cellK c0; have p0_ := hw'.cellK p0; go_simp; first | (with_reducible rfl) | (go_at_call 13; with_reducible exact ((hU _).mono (fun e w2 h => ⟨h.1, hw'.step h.2⟩)))
                     go_big_quiet_on
                     try simp only [Act.put, List.setIfInBounds_toArray, List.set_cons_zero, List.set_cons_succ]))
                refine wpQuiet_nil ?_
                intro wQ hwQ
                go_wp2_with fail
                go_ret
                exact ⟨ret_bool hno.out.symm, HX.out.2.2.step hwQ⟩
      | true =>
        rw [hs] at hU
        have huB : userB t.1 = true := by unfold userB; rw [hs, Bool.or_true]
        cases h42 : (t.1 == [42]) with
        | false =>
          have Hu := hid huB
          clear huB
          by_cases hj0 : j = 0
          · subst hj0
            have hz : decide ((0 : Int) < 0) = false := by decide
            rw [Nat.zero_mul, Nat.add_zero] at c0
            go_wp2_with fail
            refine wp_region_quiet (C := fun w' => New wr w') (by kernel_rfl) (by kernel_rfl) (New.refl wr).drew ?_
            simp only [List.toList_toArray]
            repeat (first
              | go_big_quiet_skip
              | (go_big_quiet_want
                 apply Exists.intro
                 refine ⟨fun w' hw' => ?_, ?_⟩
                 · have c0_ := hw'.cellK c0; go_simp; first | (with_reducible rfl) | (go_at_call 13; with_reducible exact ((hU _).mono (fun e w2 h => ⟨h.1, hw'.step h.2⟩)))
                 go_big_quiet_on
                 try simp only [Act.put, List.setIfInBounds_toArray, List.set_cons_zero, List.set_cons_succ]))
            refine wpQuiet_nil ?_
            intro wQ hwQ
            go_wp2_with fail
            refine ⟨⟨1, by omega, rfl, fun i s hi hs => ?_, HX.out.2.2.step hwQ⟩, by simp [intOf]; omega⟩
            obtain rfl : i = 0 := by omega
            rw [HX.out.1] at hs
            cases hs
            exact ⟨Hu.out, fun _ h => absurd h (by omega)⟩
          · obtain ⟨i, hi⟩ : ∃ i, j = i + 1 := ⟨j - 1, by omega⟩
            have w2 : IntKind.i64.wrap ((j : Int) - 1) = (i : Int) := by rw [IntKind.wrap_i64]; omega
            obtain ⟨b2, o2, p, hv2, hx2, _, hcell2⟩ := (H.out.1.new_ HX.out.2.2).get (show i < n by omega)
            injection hv2 with hv21
            injection hv21 with hv22 hv23
            subst hv22 hv23
            have p0 := hcell2 0 _ rfl
            rw [Nat.add_zero] at p0
            have hpos : decide (0 < j) = true := decide_eq_true (by omega)
            have i2 : (0 : Int) ≤ (i : Int) := by omega
            have i3 : (i : Int) < (n : Int) := by omega
            have Hi := hid hi
            have HP := hid hx2
            clear hi hj0 hcell2 hx2
            cases hlt : ltB p.1 t.1 with
            | true =>
              have e1 : ltB t.1 p.1 = false := ltB_asymm hlt
              have e2 : (t.1 == p.1) = false := beq_eq_false_iff_ne.2 fun e => ltB_ne hlt e.symm
              have Hlt := hid hlt
              clear hlt
              go_wp2_with fail
              refine wp_region_quiet (C := fun w' => New wr w') (by kernel_rfl) (by kernel_rfl) (New.refl wr).drew ?_
              simp only [List.toList_toArray]
              repeat (first
                | go_big_quiet_skip
                | (go_big_quiet_want
                   apply Exists.intro
                   refine ⟨fun w' hw' => ?_, ?_⟩
                   · have c0_ := hw'.cellK c0; have p0_ := hw'.cellK p0; go_simp; first | (with_reducible rfl) | (go_at_call 13; with_reducible exact ((hU _).mono (fun e w2 h => ⟨h.1, hw'.step h.2⟩)))
                   go_big_quiet_on
                   try simp only [Act.put, List.setIfInBounds_toArray, List.set_cons_zero, List.set_cons_succ]))
              refine wpQuiet_nil ?_
              intro wQ hwQ
              go_wp2_with fail
              refine ⟨⟨j + 1, by omega, by go_num, fun q s hq hs => ?_, HX.out.2.2.step hwQ⟩, by simp [intOf]; omega⟩
              by_cases e : q = j
              · rw [e] at hs ⊢
                rw [HX.out.1] at hs
                cases hs
                refine ⟨Hu.out, fun s h0 hs => ?_⟩
                rw [show j - 1 = i by have := Hi.out; omega, HP.out] at hs
                cases hs
                exact Hlt.out
              · exact HX.out.2.1 q s (by omega) hs
            | false =>
              have hno : Hid (mayL l = false) := mayL_no.2 (fun hm => by
                have h1 := (hm.2 j t HX.out.1).2 p (by have := Hi.out; omega) (by rw [show j - 1 = i by have := Hi.out; omega]; exact HP.out)
                rw [hlt] at h1
                cases h1)
              cases he : (t.1 == p.1) with
              | true =>
                clear hlt
                go_wp2_with fail
                refine wp_region_quiet (C := fun w' => New wr w') (by kernel_rfl) (by kernel_rfl) (New.refl wr).drew ?_
                simp only [List.toList_toArray]
                repeat (first
                  | go_big_quiet_skip
                  | (go_big_quiet_want
                     apply Exists.intro
                     refine ⟨fun w' hw' => ?_, ?_⟩
                     · have c0_ := hw'.cellK c0; have p0_ := hw'.cellK p0; go_simp; first | (with_reducible rfl) | (go_at_call 13; with_reducible exact ((hU _).mono (fun e w2 h => ⟨h.1, hw'.step h.2⟩)))
                     go_big_quiet_on
                     try simp only [Act.put, List.setIfInBounds_toArray, List.set_cons_zero, List.set_cons_succ]))
                refine wpQuiet_nil ?_
                intro wQ hwQ
                go_wp2_with fail
                go_ret
                exact ⟨ret_bool hno.out.symm, HX.out.2.2.step hwQ⟩
              | false =>
                have e1 : ltB t.1 p.1 = true := ltB_total (fun e => (beq_eq_false_iff_ne.1 he) e.symm) hlt
                clear hlt
                go_wp2_with fail
                refine wp_region_quiet (C := fun w' => New wr w') (by kernel_rfl) (by kernel_rfl) (New.refl wr).drew ?_
                simp only [List.toList_toArray]
                repeat (first
                  | go_big_quiet_skip
                  | (go_big_quiet_want
                     apply Exists.intro
                     refine ⟨fun w' hw' => ?_, ?_⟩
                     · have c0_ := hw'.cellK c0; have p0_ := hw'.cellK p0; go_simp; first | (with_reducible rfl) | (go_at_call 13; with_reducible exact ((hU _).mono (fun e w2 h => ⟨h.1, hw'.step h.2⟩)))
                     go_big_quiet_on
                     try simp only [Act.put, List.setIfInBounds_toArray, List.set_cons_zero, List.set_cons_succ]))
                refine wpQuiet_nil ?_
                intro wQ hwQ
                go_wp2_with fail
                go_ret
                exact ⟨ret_bool hno.out.symm, HX.out.2.2.step hwQ⟩
        | true =>
          have Hu := hid huB
          clear huB
          by_cases hj0 : j = 0
          · subst hj0
            have hz : decide ((0 : Int) < 0) = false := by decide
            rw [Nat.zero_mul, Nat.add_zero] at c0
            go_wp2_with fail
            refine wp_region_quiet (C := fun w' => New wr w') (by kernel_rfl) (by kernel_rfl) (New.refl wr).drew ?_
            simp only [List.toList_toArray]
            repeat (first
              | go_big_quiet_skip
              | (go_big_quiet_want
                 apply Exists.intro
                 refine ⟨fun w' hw' => ?_, ?_⟩
                 · have c0_ := hw'.cellK c0; go_simp; first | (with_reducible rfl) | (go_at_call 13; with_reducible exact ((hU _).mono (fun e w2 h => ⟨h.1, hw'.step h.2⟩)))
                 go_big_quiet_on
                 try simp only [Act.put, List.setIfInBounds_toArray, List.set_cons_zero, List.set_cons_succ]))
            refine wpQuiet_nil ?_
            intro wQ hwQ
            go_wp2_with fail
            refine ⟨⟨1, by omega, rfl, fun i s hi hs => ?_, HX.out.2.2.step hwQ⟩, by simp [intOf]; omega⟩
            obtain rfl : i = 0 := by omega
            rw [HX.out.1] at hs
            cases hs
            exact ⟨Hu.out, fun _ h => absurd h (by omega)⟩
          · obtain ⟨i, hi⟩ : ∃ i, j = i + 1 := ⟨j - 1, by omega⟩
            have w2 : IntKind.i64.wrap ((j : Int) - 1) = (i : Int) := by rw [IntKind.wrap_i64]; omega
            obtain ⟨b2, o2, p, hv2, hx2, _, hcell2⟩ := (H.out.1.new_ HX.out.2.2).get (show i < n by omega)
            injection hv2 with hv21
            injection hv21 with hv22 hv23
            subst hv22 hv23
            have p0 := hcell2 0 _ rfl
            rw [Nat.add_zero] at p0
            have hpos : decide (0 < j) = true := decide_eq_true (by omega)
            have i2 : (0 : Int) ≤ (i : Int) := by omega
            have i3 : (i : Int) < (n : Int) := by omega
            have Hi := hid hi
            have HP := hid hx2
            clear hi hj0 hcell2 hx2
            cases hlt : ltB p.1 t.1 with
            | true =>
              have e1 : ltB t.1 p.1 = false := ltB_asymm hlt
              have e2 : (t.1 == p.1) = false := beq_eq_false_iff_ne.2 fun e => ltB_ne hlt e.symm
              have Hlt := hid hlt
              clear hlt
              go_wp2_with fail
              refine wp_region_quiet (C := fun w' => New wr w') (by kernel_rfl) (by kernel_rfl) (New.refl wr).drew ?_
              simp only [List.toList_toArray]
              repeat (first
                | go_big_quiet_skip
                | (go_big_quiet_want
                   apply Exists.intro
                   refine ⟨fun w' hw' => ?_, ?_⟩
                   · have c0_ := hw'.cellK c0; have p0_ := hw'.cellK p0; go_simp; first | (with_reducible rfl) | (go_at_call 13; with_reducible exact ((hU _).mono (fun e w2 h => ⟨h.1, hw'.step h.2⟩)))
                   go_big_quiet_on
                   try simp only [Act.put, List.setIfInBounds_toArray, List.set_cons_zero, List.set_cons_succ]))
              refine wpQuiet_nil ?_
              intro wQ hwQ
              go_wp2_with fail
              refine ⟨⟨j + 1, by omega, by go_num, fun q s hq hs => ?_, HX.out.2.2.step hwQ⟩, by simp [intOf]; omega⟩
              by_cases e : q = j
              · rw [e] at hs ⊢
                rw [HX.out.1] at hs
                cases hs
                refine ⟨Hu.out, fun s h0 hs => ?_⟩
                rw [show j - 1 = i by have := Hi.out; omega, HP.out] at hs
                cases hs
                exact Hlt.out
              · exact HX.out.2.1 q s (by omega) hs
            | false =>
              have hno : Hid (mayL l = false) := mayL_no.2 (fun hm => by
                have h1 := (hm.2 j t HX.out.1).2 p (by have := Hi.out; omega) (by rw [show j - 1 = i by have := Hi.out; omega]; exact HP.out)
                rw [hlt] at h1
                cases h1)
              cases he : (t.1 == p.1) with
              | true =>
                clear hlt
                go_wp2_with fail
                refine wp_region_quiet (C := fun w' => New wr w') (by kernel_rfl) (by kernel_rfl) (New.refl wr).drew ?_
                simp only [List.toList_toArray]
                repeat (first
                  | go_big_quiet_skip
                  | (go_big_quiet_want
                     apply Exists.intro
                     refine ⟨fun w' hw' => ?_, ?_⟩
                     · have c0_ := hw'.cellK c0; have p0_ := hw'.cellK p0; go_simp; first | (with_reducible rfl) | (go_at_call 13; with_reducible exact ((hU _).mono (fun e w2 h => ⟨h.1, hw'.step h.2⟩)))
                     go_big_quiet_on
                     try simp only [Act.put, List.setIfInBounds_toArray, List.set_cons_zero, List.set_cons_succ]))
                refine wpQuiet_nil ?_
                intro wQ hwQ
                go_wp2_with fail
                go_ret
                exact ⟨ret_bool hno.out.symm, HX.out.2.2.step hwQ⟩
              | false =>
                have e1 : ltB t.1 p.1 = true := ltB_total (fun e => (beq_eq_false_iff_ne.1 he) e.symm) hlt
                clear hlt
                go_wp2_with fail
                refine wp_region_quiet (C := fun w' => New wr w') (by kernel_rfl) (by kernel_rfl) (New.refl wr).drew ?_
                simp only [List.toList_toArray]
                repeat (first
                  | go_big_quiet_skip
                  | (go_big_quiet_want
                     apply Exists.intro
                     refine ⟨fun w' hw' => ?_, ?_⟩
                     · have c0_ := hw'.cellK c0; have p0_ := hw'.cellK p0; go_simp; first | (with_reducible rfl) | (go_at_call 13; with_reducible exact ((hU _).mono (fun e w2 h => ⟨h.1, hw'.step h.2⟩)))
                     go_big_quiet_on
                     try simp only [Act.put, List.setIfInBounds_toArray, List.set_cons_zero, List.set_cons_succ]))
                refine wpQuiet_nil ?_
                intro wQ hwQ
                go_wp2_with fail
                go_ret
                exact ⟨ret_bool hno.out.symm, HX.out.2.2.step hwQ⟩
    · have ej : j = n := by omega
      have hres : Hid (mayL l = true) := mayL_iff.2 ⟨by have := H.out.2.1; omega, fun i t hi => hall i t (by rw [ej, H.out.2.1]; exact (List.getElem?_eq_some_iff.1 hi).1) hi⟩
      have i1 : ¬ (j : Int) < (n : Int) := by omega
      have HX := hid (And.intro hall hnr)
      clear hall hnr ej
      go_wp2_with fail
      go_ret
      exact ⟨ret_bool hres.out.symm, HX.out.2⟩
/-- What SetTerm's own list holds behind k rounds. -/
def midT (l : List Tm) (t : Tm) (k : Nat) : List Tm := (l.take k).filter (fun x => ltB x.1 t.1) ++ (if (l.take k).any (fun x => !ltB x.1 t.1) = true then t :: (l.take k).filter (fun x => ltB t.1 x.1) else [])
def putT (l : List Tm) (t : Tm) (k : Nat) : Bool := (l.take k).any (fun x => !ltB x.1 t.1)
theorem putT_succ {l : List Tm} {t x : Tm} {k : Nat} (hx : l[k]? = some x) : putT l t (k + 1) = (putT l t k || !ltB x.1 t.1) := by
  unfold putT
  rw [List.take_add_one, hx]
  simp
theorem putT_lt {l : List Tm} {t x : Tm} {k : Nat} (hs : Srt l) (hx : l[k]? = some x) (hp : putT l t k = true) : ltB t.1 x.1 = true := by
  unfold putT at hp
  rw [List.any_eq_true] at hp
  obtain ⟨y, hy, h1⟩ := hp
  obtain ⟨i, hi⟩ := List.getElem?_of_mem hy
  have hik : i < k := by
    have := (List.getElem?_eq_some_iff.1 hi).1
    rw [List.length_take] at this; omega
  rw [List.getElem?_take_of_lt hik] at hi
  have hyx := hs.asc.lt (k - i - 1) i y x hi (by rw [show i + (k - i - 1) + 1 = k by omega]; exact hx)
  have h1' : ltB y.1 t.1 = false := by simpa using h1
  by_cases e : y.1 = t.1
  · rw [← e]; exact hyx
  · exact ltB_trans (ltB_total e h1') hyx
theorem midT_less {l : List Tm} {t x : Tm} {k : Nat} (hs : Srt l) (hx : l[k]? = some x) (h : ltB x.1 t.1 = true) : putT l t k = false ∧ midT l t (k + 1) = midT l t k ++ [x] := by
  have hp : putT l t k = false := by
    cases hp : putT l t k with
    | false => rfl
    | true => have := ltB_asymm (putT_lt hs hx hp); rw [h] at this; cases this
  refine ⟨hp, ?_⟩
  have hp2 := putT_succ (t := t) hx
  rw [hp, h] at hp2
  unfold putT at hp hp2
  unfold midT
  rw [hp, hp2, List.take_add_one, hx]
  simp [h]
theorem midT_same {l : List Tm} {t x : Tm} {k : Nat} (hs : Srt l) (hx : l[k]? = some x) (h : x.1 = t.1) : putT l t k = false ∧ midT l t (k + 1) = midT l t k ++ [t] := by
  have hp : putT l t k = false := by
    cases hp : putT l t k with
    | false => rfl
    | true => have := putT_lt hs hx hp; rw [h, ltB_irrefl] at this; cases this
  refine ⟨hp, ?_⟩
  have hl : ltB x.1 t.1 = false := by rw [h]; exact ltB_irrefl _
  have hl2 : ltB t.1 x.1 = false := by rw [h]; exact ltB_irrefl _
  have hp2 := putT_succ (t := t) hx
  rw [hp, hl] at hp2
  have hno : (l.take k).filter (fun x => ltB t.1 x.1) = [] := by
    unfold putT at hp
    rw [List.any_eq_false] at hp
    rw [List.filter_eq_nil_iff]
    intro y hy
    have := hp y hy
    have : ltB y.1 t.1 = true := by simpa using this
    rw [ltB_asymm this]; decide
  unfold putT at hp hp2
  unfold midT
  rw [hp, hp2, List.take_add_one, hx]
  simp [hl, hl2, hno]
theorem midT_more {l : List Tm} {t x : Tm} {k : Nat} (hs : Srt l) (hx : l[k]? = some x) (h : ltB t.1 x.1 = true) : midT l t (k + 1) = (if putT l t k = true then midT l t k else midT l t k ++ [t]) ++ [x] := by
  have hl : ltB x.1 t.1 = false := ltB_asymm h
  have hp2 := putT_succ (t := t) hx
  rw [hl, Bool.not_false, Bool.or_true] at hp2
  cases hp : putT l t k with
  | true =>
    unfold putT at hp hp2
    unfold midT
    rw [hp, hp2, List.take_add_one, hx]
    simp [hl, h]
  | false =>
    have hno : (l.take k).filter (fun x => ltB t.1 x.1) = [] := by
      unfold putT at hp
      rw [List.any_eq_false] at hp
      rw [List.filter_eq_nil_iff]
      intro y hy
      have := hp y hy
      have : ltB y.1 t.1 = true := by simpa using this
      rw [ltB_asymm this]; decide
    unfold putT at hp hp2
    unfold midT
    rw [hp, hp2, List.take_add_one, hx]
    simp [hl, h, hno]
theorem midT_end {l : List Tm} {t : Tm} {k : Nat} (hk : l.length ≤ k) : setL l t = if putT l t k = true then midT l t k else midT l t k ++ [t] := by
  have e := List.take_of_length_le hk
  cases hp : putT l t k with
  | true =>
    unfold putT at hp
    unfold midT setL
    rw [hp, e]
    simp
  | false =>
    have hno : l.filter (fun x => ltB t.1 x.1) = [] := by
      unfold putT at hp
      rw [e, List.any_eq_false] at hp
      rw [List.filter_eq_nil_iff]
      intro y hy
      have := hp y hy
      have : ltB y.1 t.1 = true := by simpa using this
      rw [ltB_asymm this]; decide
    unfold putT at hp
    unfold midT setL
    rw [hp, e, hno]
    simp
theorem midT_len (l : List Tm) (t : Tm) (k : Nat) : (midT l t k).length ≤ 2 * l.length + 1 := by
  unfold midT
  have h1 := List.length_filter_le (fun x : Tm => ltB x.1 t.1) (l.take k)
  have h2 := List.length_filter_le (fun x : Tm => ltB t.1 x.1) (l.take k)
  have h3 : (l.take k).length ≤ l.length := by rw [List.length_take]; omega
  rw [List.length_append]
  split
  · rw [List.length_cons]; omega
  · simp; omega
end Go.Proofs.Ytaapfkfijahbmaa.Acl
