/- The contracts of package acl. -/
import Derived.Test.YtaapfkfijahbmaaNames
import Derived.Test.YtaapfkfijahbmaaTerm
import Derived.Laws.StructEq
import Derived.Laws.Externs
import Derived.WalkSpells
import Derived.BigQuiet
namespace Go.Proofs.Ytaapfkfijahbmaa.Acl
open Go Go.RowKit Go.Proofs.Ytaapfkfijahbmaa.Kit Go.Proofs.Ytaapfkfijahbmaa.Str Go.Proofs.Ytaapfkfijahbmaa.Term Go.Proofs.Ytaapfkfijahbmaa.Names
set_option linter.unusedSimpArgs false
set_option linter.unusedVariables false
theorem user_any (l : List UInt8) (hl : l.length ≤ 9223372036854775807) (w : World) : Calls Try.prog 19 #[st l] w fun e w' => e = .returned (.bool (userB l)) ∧ ∃ k, w' = w.drewN k := by
  cases h : (l == [42]) with
  | true =>
    have e : userB l = true := by simp [userB, h]
    rw [e]
    clear e
    go_enter Try.func19, Try.ntmps19
    go_wp2
    go_ret
    exact ⟨rfl, 0, rfl⟩
  | false =>
    have e : userB l = signsB l 16 := by simp [userB, h]
    rw [e]
    clear e
    go_enter Try.func19, Try.ntmps19
    go_wp2_with fail
    refine (Names.user_any l hl _).mono ?_
    rintro e w' ⟨rfl, k, rfl⟩
    go_wp2
    go_ret
    exact ⟨rfl, k, rfl⟩
theorem user_new (l : List UInt8) (hl : l.length ≤ 9223372036854775807) (w : World) : Calls Try.prog 19 #[st l] w fun e w' => e = .returned (.bool (userB l)) ∧ New w w' :=
  (user_any l hl w).mono fun e w' h => ⟨h.1, by obtain ⟨k, rfl⟩ := h.2; exact (New.refl w).drewN k⟩
theorem bytealg_any (a b : List UInt8) (w : World) : Calls Try.prog 33 #[st a, st b] w fun e w' => e = .returned (.int .i64 (Lib.compareBytes a b)) ∧ w = w' := by
  go_enter Try.func33, Try.ntmps33
  go_wp2_with fail
  rw [run_callFunc_extern Try.func35 (by kernel_rfl) (by kernel_rfl) (by kernel_rfl) (e := Extern.BytealgCompare.compare) (by kernel_rfl), Lib.run_compareString]
  simp only [Result.andThen]
  rw [Oper.upon_value]
  go_wp2
  go_ret
  exact ⟨rfl, rfl⟩
theorem strcmp_any (a b : List UInt8) (w : World) : Calls Try.prog 28 #[st a, st b] w fun e w' => e = .returned (.int .i64 (Lib.compareBytes a b)) ∧ w = w' := by
  go_enter Try.func28, Try.ntmps28
  go_wp2_with fail
  refine (bytealg_any a b _).mono ?_
  rintro e w' ⟨rfl, rfl⟩
  go_wp2
  go_ret
  exact ⟨rfl, rfl⟩
theorem compare_any (a b : Tm) (w : World) : Calls Try.prog 22 #[tv a, tv b] w fun e w' => e = .returned (.int .i64 (Lib.compareBytes a.1 b.1)) ∧ New w w' := by
  go_enter Try.func22, Try.ntmps22
  go_wp2_with fail
  refine (strcmp_any a.1 b.1 _).mono ?_
  rintro e w' ⟨rfl, rfl⟩
  go_wp2
  go_ret
  exact ⟨rfl, by (repeat (first | exact New.refl _ | (refine New.step ?_ (by assumption)) | apply New.alloc | apply New.drewN | apply New.drew))⟩
set_option maxRecDepth 100000 in
set_option maxHeartbeats 4000000 in
theorem may_any (v : Value) (l : List Tm) (hu : ∀ t ∈ l, t.1.length ≤ 9223372036854775807) (w : World) (h : LsAt 4 tc w v l) : Calls Try.prog 12 #[v] w fun e w' => e = .returned (.bool (mayL l)) ∧ New w w' := by
  have hcells := h
  obtain ⟨a, c, rfl, hlc, hcm, _⟩ := h
  unfold maxLen at hcm
  have H := hid (And.intro hcells hu)
  obtain ⟨n, hn⟩ : ∃ n, n = l.length := ⟨_, rfl⟩
  rw [← hn] at hlc ⊢
  have HN := hid hn
  clear hcells hn hu
  go_enter Try.func12, Try.ntmps12
  go_wp2_with fail
  go_loopw [7] (fun i wr => ∃ j : Nat, j ≤ n ∧ i = .int .i64 (j : Int) ∧ (∀ (i : Nat) (t : Tm), i < j → l[i]? = some t → userB t.1 = true ∧ ∀ s : Tm, 0 < i → l[i - 1]? = some s → ltB s.1 t.1 = true) ∧ New w wr) (fun i _ => n - (intOf i).toNat)
  case atStart => exact ⟨0, Nat.zero_le _, rfl, fun i t hi => absurd hi (by omega), New.refl w⟩
  case round =>
    obtain ⟨j, hj, rfl, hall, hnr⟩ := hrel
    by_cases hjl : j < n
    · have w1 : IntKind.i64.wrap ((j : Int) + 1) = j + 1 := by rw [IntKind.wrap_i64]; omega
      obtain ⟨b, o, c', t, hv, _, _, hx, hcell⟩ := (H.out.1.new_ hnr).at (i := j) (by rw [← HN.out]; exact hjl)
      injection hv with hv1 _ hv3
      subst hv1
      have c0 := hcell 0 _ rfl
      have c1 := hcell 1 _ rfl
      have c2 := hcell 2 _ rfl
      have c3 := hcell 3 _ rfl
      rw [Nat.add_zero] at c0
      have htl : t.1.length ≤ 9223372036854775807 := H.out.2 t (List.mem_of_getElem? hx)
      have HX := hid (And.intro hx (And.intro hall hnr))
      have i0 : (0 : Int) ≤ (j : Int) := by omega
      have i1 : (j : Int) < (n : Int) := by omega
      clear hcell hx hall hv3 hnr
      go_wp2_with fail
      have d0 : (wr.alloc (.cells #[st t.1, .bool t.2.1, .bool t.2.2.1, .bool t.2.2.2] 26)).cell? ⟨wr.heap.size, 0, none⟩ = some (st t.1) := by rw [(Blk.new wr _ _).cell]; rfl
      have d1 : (wr.alloc (.cells #[st t.1, .bool t.2.1, .bool t.2.2.1, .bool t.2.2.2] 26)).cell? ⟨wr.heap.size, 1, none⟩ = some (.bool t.2.1) := by rw [(Blk.new wr _ _).cell]; rfl
      have d2 : (wr.alloc (.cells #[st t.1, .bool t.2.1, .bool t.2.2.1, .bool t.2.2.2] 26)).cell? ⟨wr.heap.size, 2, none⟩ = some (.bool t.2.2.1) := by rw [(Blk.new wr _ _).cell]; rfl
      have d3 : (wr.alloc (.cells #[st t.1, .bool t.2.1, .bool t.2.2.1, .bool t.2.2.2] 26)).cell? ⟨wr.heap.size, 3, none⟩ = some (.bool t.2.2.2) := by rw [(Blk.new wr _ _).cell]; rfl
      have hnD := (New.refl wr).alloc (.cells #[st t.1, .bool t.2.1, .bool t.2.2.1, .bool t.2.2.2] 26)
      generalize (wr.alloc (.cells #[st t.1, .bool t.2.1, .bool t.2.2.1, .bool t.2.2.2] 26)) = wD at *
      generalize wr.heap.size = D at *
      have HD := hid (HX.out.2.2.step hnD)
      have HnD := hid hnD
      clear hnD c0 c1 c2 c3
      have hU := fun X => user_new t.1 htl X
      cases hu : userB t.1 with
      | false =>
        rw [hu] at hU
        have hno : Hid (mayL l = false) := mayL_no.2 (fun hm => by
          have := (hm.2 j t HX.out.1).1
          rw [hu] at this; cases this)
        clear hu
        refine wp_region_quiet (C := fun w' => New wD w') (by kernel_rfl) (by kernel_rfl) (New.refl wD).drew ?_
        simp only [List.toList_toArray]
        repeat (first
          | go_big_quiet_skip
          | (go_big_quiet_want
             apply Exists.intro
             refine ⟨fun w' hw' => ?_, ?_⟩
             · have d0_ := hw'.cellK d0; have d1_ := hw'.cellK d1; have d2_ := hw'.cellK d2; have d3_ := hw'.cellK d3; go_simp; first | (with_reducible rfl) | (go_at_call 19; with_reducible exact ((hU _).mono (fun e w2 h => ⟨h.1, hw'.step h.2⟩)))
             go_big_quiet_on
             try simp only [Act.put, List.setIfInBounds_toArray, List.set_cons_zero, List.set_cons_succ]))
        refine wpQuiet_nil ?_
        intro wQ hwQ
        go_wp2_with fail
        go_ret
        exact ⟨ret_bool hno.out.symm, HD.out.step hwQ⟩
      | true =>
        rw [hu] at hU
        by_cases hj0 : j = 0
        · subst hj0
          have hz : decide ((0 : Int) < 0) = false := by decide
          have Hu := hid hu
          clear hu
          refine wp_region_quiet (C := fun w' => New wD w') (by kernel_rfl) (by kernel_rfl) (New.refl wD).drew ?_
          simp only [List.toList_toArray]
          repeat (first
            | go_big_quiet_skip
            | (go_big_quiet_want
               apply Exists.intro
               refine ⟨fun w' hw' => ?_, ?_⟩
               · have d0_ := hw'.cellK d0; have d1_ := hw'.cellK d1; have d2_ := hw'.cellK d2; have d3_ := hw'.cellK d3; go_simp; first | (with_reducible rfl) | (go_at_call 19; with_reducible exact ((hU _).mono (fun e w2 h => ⟨h.1, hw'.step h.2⟩)))
               go_big_quiet_on
               try simp only [Act.put, List.setIfInBounds_toArray, List.set_cons_zero, List.set_cons_succ]))
          refine wpQuiet_nil ?_
          intro wQ hwQ
          go_wp2_with fail
          refine ⟨⟨1, by omega, rfl, fun i s hi hs => ?_, HD.out.step hwQ⟩, by simp [intOf]; omega⟩
          obtain rfl : i = 0 := by omega
          rw [HX.out.1] at hs
          cases hs
          exact ⟨Hu.out, fun _ h => absurd h (by omega)⟩
        · obtain ⟨i, hi⟩ : ∃ i, j = i + 1 := ⟨j - 1, by omega⟩
          have w2 : IntKind.i64.wrap ((j : Int) - 1) = (i : Int) := by rw [IntKind.wrap_i64]; omega
          obtain ⟨b2, o2, c2, p, hv2, _, _, hx2, hcell2⟩ := (H.out.1.new_ HD.out).at (i := i) (by rw [← HN.out]; omega)
          injection hv2 with hv21 _ _
          injection hv21 with hv21
          injection hv21 with hv22 hv23
          subst hv22 hv23
          have p0 := hcell2 0 _ rfl
          have p1 := hcell2 1 _ rfl
          have p2 := hcell2 2 _ rfl
          have p3 := hcell2 3 _ rfl
          rw [Nat.add_zero] at p0
          have hpos : decide (0 < j) = true := decide_eq_true (by omega)
          have i2 : (0 : Int) ≤ (i : Int) := by omega
          have i3 : (i : Int) < (n : Int) := by omega
          have hC := fun X => compare_any p t X
          have Hu := hid hu
          have Hi := hid hi
          have HP := hid hx2
          clear hu hi hj0 hcell2 hx2
          rcases cmp_val p.1 t.1 with ⟨hlt, hc⟩ | ⟨heq, hc⟩ | ⟨hgt, hc⟩
          · rw [hc] at hC
            have Hlt := hid hlt
            clear hlt hc
            refine wp_region_quiet (C := fun w' => New wD w') (by kernel_rfl) (by kernel_rfl) (New.refl wD).drew ?_
            simp only [List.toList_toArray]
            repeat (first
              | go_big_quiet_skip
              | (go_big_quiet_want
                 apply Exists.intro
                 refine ⟨fun w' hw' => ?_, ?_⟩
                 · have d0_ := hw'.cellK d0; have d1_ := hw'.cellK d1; have d2_ := hw'.cellK d2; have d3_ := hw'.cellK d3; have p0_ := hw'.cellK p0; have p1_ := hw'.cellK p1; have p2_ := hw'.cellK p2; have p3_ := hw'.cellK p3; go_simp; first | (with_reducible rfl) | (go_at_call 19; with_reducible exact ((hU _).mono (fun e w2 h => ⟨h.1, hw'.step h.2⟩))) | (go_at_call 22; with_reducible exact ((hC _).mono (fun e w2 h => ⟨h.1, hw'.step h.2⟩)))
                 go_big_quiet_on
                 try simp only [Act.put, List.setIfInBounds_toArray, List.set_cons_zero, List.set_cons_succ]))
            refine wpQuiet_nil ?_
            intro wQ hwQ
            go_wp2_with fail
            refine ⟨⟨j + 1, by omega, by go_num, fun q s hq hs => ?_, HD.out.step hwQ⟩, by simp [intOf]; omega⟩
            by_cases e : q = j
            · rw [e] at hs ⊢
              rw [HX.out.1] at hs
              cases hs
              refine ⟨Hu.out, fun s h0 hs => ?_⟩
              rw [show j - 1 = i by have := Hi.out; omega, HP.out] at hs
              cases hs
              exact Hlt.out
            · exact HX.out.2.1 q s (by omega) hs
          all_goals
            rw [hc] at hC
            have hno : Hid (mayL l = false) := mayL_no.2 (fun hm => by
              have h1 := (hm.2 j t HX.out.1).2 p (by have := Hi.out; omega) (by rw [show j - 1 = i by have := Hi.out; omega]; exact HP.out)
              have h2 := cmp_lt.2 h1
              rw [hc] at h2
              cases h2)
            clear hc
            first | clear heq | clear hgt
            refine wp_region_quiet (C := fun w' => New wD w') (by kernel_rfl) (by kernel_rfl) (New.refl wD).drew ?_
            simp only [List.toList_toArray]
            repeat (first
              | go_big_quiet_skip
              | (go_big_quiet_want
                 apply Exists.intro
                 refine ⟨fun w' hw' => ?_, ?_⟩
                 · have d0_ := hw'.cellK d0; have d1_ := hw'.cellK d1; have d2_ := hw'.cellK d2; have d3_ := hw'.cellK d3; have p0_ := hw'.cellK p0; have p1_ := hw'.cellK p1; have p2_ := hw'.cellK p2; have p3_ := hw'.cellK p3; go_simp; first | (with_reducible rfl) | (go_at_call 19; with_reducible exact ((hU _).mono (fun e w2 h => ⟨h.1, hw'.step h.2⟩))) | (go_at_call 22; with_reducible exact ((hC _).mono (fun e w2 h => ⟨h.1, hw'.step h.2⟩)))
                 go_big_quiet_on
                 try simp only [Act.put, List.setIfInBounds_toArray, List.set_cons_zero, List.set_cons_succ]))
            refine wpQuiet_nil ?_
            intro wQ hwQ
            go_wp2_with fail
            go_ret
            exact ⟨ret_bool hno.out.symm, HD.out.step hwQ⟩
    · have ej : j = n := by omega
      have hres : Hid (mayL l = decide (n ≤ 16)) := by
        cases h16 : decide (n ≤ 16) with
        | true =>
          refine mayL_iff.2 ⟨by rw [← HN.out]; exact of_decide_eq_true h16, fun i t hi => hall i t ?_ hi⟩
          rw [ej, HN.out]; exact (List.getElem?_eq_some_iff.1 hi).1
        | false => exact mayL_no.2 (fun hm => by have := of_decide_eq_false h16; rw [HN.out] at this; exact this hm.1)
      have e16 : decide ((n : Int) ≤ 16) = decide (n ≤ 16) := by rw [decide_eq_decide]; omega
      have i1 : ¬ (j : Int) < (n : Int) := by omega
      have HX := hid (And.intro hall (And.intro hnr e16))
      clear hall hnr ej e16
      go_wp2_with fail
      go_ret
      exact ⟨ret_bool (by rw [hres.out, HX.out.2.2]), HX.out.2.1⟩
end Go.Proofs.Ytaapfkfijahbmaa.Acl
