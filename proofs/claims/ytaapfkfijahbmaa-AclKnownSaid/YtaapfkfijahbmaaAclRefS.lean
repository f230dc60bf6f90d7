/- The contract of the reference's SetTerm. -/
import Derived.Test.YtaapfkfijahbmaaAclRef
namespace Go.Proofs.Ytaapfkfijahbmaa.Acl
open Go Go.RowKit Go.Proofs.Ytaapfkfijahbmaa.Kit Go.Proofs.Ytaapfkfijahbmaa.Str Go.Proofs.Ytaapfkfijahbmaa.Term Go.Proofs.Ytaapfkfijahbmaa.Names
set_option linter.unusedSimpArgs false
set_option linter.unusedVariables false
theorem news_tm {w : World} {g : Nat} {t : Tm} (h : Blk w g 26 #[st t.1, .bool t.2.1, .bool t.2.2.1, .bool t.2.2.2]) : ∀ j u, (tc t)[j]? = some u → w.cell? ((⟨g, 0, none⟩ : Addr).add j) = some u := by
  intro j u hu
  rw [Addr.add_lit, Nat.zero_add, h.cell]
  have : (#[st t.1, .bool t.2.1, .bool t.2.2.1, .bool t.2.2.2] : Array Value) = (tc t).toArray := rfl
  rw [this, List.getElem?_toArray]
  exact hu
/-- One more behind a slice of the call's own, as the law of append leaves it. -/
theorem grown_one {w3 wr w6 : World} {v : Value} {n base : Nat} {cs : List Value} {o : Obj} (hn : New w3 wr) (hs : Sl wr base 26 4 v n cs) (hb : w3.heap.size ≤ base) (hg : (wr.alloc o).grownBy w6 v.ownBlock) : New w3 w6 :=
  (hn.alloc o).grown hg (fun k hk => by have := (hs.lt k hk).1; omega)
theorem sl_snoc {w : World} {base : Nat} {v : Value} {m : Nat} {xs : List Tm} {x : Tm} (hm : m = xs.length) (h : Sl w base 26 4 v (m + 1) (flatOf tc xs ++ tc x)) : Sl w base 26 4 v (xs ++ [x]).length (flatOf tc (xs ++ [x])) := by
  rw [flatOf_app, flatOf_one, List.length_append, ← hm]
  exact h
set_option maxRecDepth 100000 in
set_option maxHeartbeats 8000000 in
theorem setterm_any (v : Value) (l : List Tm) (t : Tm) (w : World) (h : LsAt 4 tc w v l) (hu : ∀ t ∈ l, t.1.length ≤ 9223372036854775807) (ht : t.1.length ≤ 9223372036854775807) (hl : l.length ≤ 1000000) :
    Calls Try.prog 15 #[v, tv t] w (SetPost w l t) := by
  obtain ⟨ti, hti, hzz⟩ := Option.map_eq_some_iff.1 term_info
  simp only [Prod.mk.injEq] at hzz
  have HT := hid (And.intro hti hzz)
  clear hti hzz
  have hnB := (New.refl w).alloc (.cells #[st t.1, .bool t.2.1, .bool t.2.2.1, .bool t.2.2.2] 26)
  have hB := Blk.new w 26 #[st t.1, .bool t.2.1, .bool t.2.2.1, .bool t.2.2.2]
  obtain ⟨a, c, hv, hlc, hcm, _⟩ := id h
  subst hv
  unfold maxLen at hcm
  obtain ⟨n, hn⟩ : ∃ n, n = l.length := ⟨_, rfl⟩
  rw [← hn] at hlc hl h ⊢
  have H := hid (And.intro h (And.intro hn hu))
  clear h hn hu
  go_enter Try.func15, Try.ntmps15
  go_wp2_with fail
  generalize (w.alloc (.cells #[st t.1, .bool t.2.1, .bool t.2.2.1, .bool t.2.2.2] 26)) = w0 at *
  obtain ⟨D, hD⟩ : ∃ D, D = w.heap.size := ⟨_, rfl⟩
  rw [← hD] at hB ⊢
  clear hD
  refine (listmay_any _ l H.out.2.2 w0 (H.out.1.new_ hnB)).mono ?_
  rintro e w1 ⟨rfl, n1⟩
  have b1 := hB.new_ n1
  have n1 := hnB.step n1
  clear hB hnB
  cases hm : mayL l with
  | false =>
    have HE : Hid (setE l t = 1) := by unfold setE; rw [hm]; rfl
    clear hm
    go_wp2_with fail
    go_ret2
    exact ⟨_, by rw [HE.out]; rfl, fun h => absurd h (by rw [HE.out]; decide), fun _ => rfl, n1⟩
  | true =>
    have hmp := mayL_iff.1 hm
    have d0 : w1.cell? ⟨D, 0, none⟩ = some (st t.1) := by rw [b1.cell]; rfl
    have HM := hid (And.intro hm hmp)
    have hU := fun X => usermay_new t.1 ht X
    have HB1 := hid (And.intro b1 n1)
    have h16 : n ≤ 16 := by have := hmp.1; have := H.out.2.1; omega
    clear hm hmp b1 n1
    have hgo : ∀ w3, New w1 w3 → userB t.1 = true → Hid (New w w3 ∧ Blk w3 D 26 #[st t.1, .bool t.2.1, .bool t.2.2.1, .bool t.2.2.2] ∧ setE l t = if hasB l t.1 = true ∨ l.length < 16 then 0 else 7) := fun w3 h hb => ⟨HB1.out.2.step h, HB1.out.1.new_ h, by unfold setE; rw [if_pos HM.out.1, if_pos hb]⟩
    cases h42 : (t.1 == [42]) with
    | false =>
      cases hs : signsB t.1 16 with
      | false =>
        rw [hs] at hU
        have HE : Hid (setE l t = 3) := by
          have hb : userB t.1 = false := by unfold userB; rw [h42, hs]; rfl
          unfold setE; rw [if_pos HM.out.1, hb]; rfl
        clear hs hgo
        go_wp2_with fail
        refine (hU _).mono ?_
        rintro e w2 ⟨rfl, n2⟩
        go_wp2_with fail
        go_ret2
        exact ⟨_, by rw [HE.out]; rfl, fun h => absurd h (by rw [HE.out]; decide), fun _ => rfl, HB1.out.2.step n2⟩
      | true =>
        rw [hs] at hU
        have hb : userB t.1 = true := by unfold userB; rw [hs, Bool.or_true]
        clear hs
        go_wp2_with fail
        refine (hU _).mono ?_
        rintro e w3 ⟨rfl, n2⟩
        have HG := hgo w3 n2 hb
        clear hgo hb d0 n2 hU h42
        go_wp2_with fail
        go_loopw [6, 7, 8] (fun x b i wr => ∃ k : Nat, k ≤ n ∧ i = .int .i64 (k : Int) ∧ b = .bool (putT l t k) ∧ Sl wr w3.heap.size 26 4 x (midT l t k).length (flatOf tc (midT l t k)) ∧ New w3 wr) (fun _ _ i _ => n - (intOf i).toNat)
        case atStart => exact ⟨0, Nat.zero_le _, rfl, rfl, Sl.nil _ _ _ _, New.refl _⟩
        case round =>
          obtain ⟨k, hk, rfl, rfl, hsl, hnr⟩ := hrel
          have hlm := midT_len l t k
          have hvs := hsl.val
          obtain ⟨m, hm⟩ : ∃ m, m = (midT l t k).length := ⟨_, rfl⟩
          rw [← hm] at hlm hvs
          have hm33 : m ≤ 33 := by have := H.out.2.1; omega
          clear hlm
          obtain ⟨a3, c3', rfl⟩ := hvs
          have hszr := hnr.size
          have HDx : Hid (∀ X : World, New w3 X → X.cell? ⟨D, 0, none⟩ = some (st t.1) ∧ X.cell? ⟨D, 1, none⟩ = some (.bool t.2.1) ∧ X.cell? ⟨D, 2, none⟩ = some (.bool t.2.2.1) ∧ X.cell? ⟨D, 3, none⟩ = some (.bool t.2.2.2)) := fun X hX => by
            have bD := HG.out.2.1.new_ hX
            refine ⟨?_, ?_, ?_, ?_⟩ <;> (rw [bD.cell]; rfl)
          by_cases hkn : k < n
          · have w2' : IntKind.i64.wrap ((k : Int) + 1) = k + 1 := by rw [IntKind.wrap_i64]; omega
            obtain ⟨b, o, x, rfl, hx, _, hcell⟩ := H.out.1.get hkn
            have HC : Hid (∀ X : World, New w3 X → X.cell? ⟨b, o + k * 4, none⟩ = some (st x.1) ∧ X.cell? ⟨b, o + k * 4 + 1, none⟩ = some (.bool x.2.1) ∧ X.cell? ⟨b, o + k * 4 + 2, none⟩ = some (.bool x.2.2.1) ∧ X.cell? ⟨b, o + k * 4 + 3, none⟩ = some (.bool x.2.2.2)) := fun X hX =>
              ⟨(HG.out.1.step hX).cellK (hcell 0 _ rfl), (HG.out.1.step hX).cellK (hcell 1 _ rfl), (HG.out.1.step hX).cellK (hcell 2 _ rfl), (HG.out.1.step hX).cellK (hcell 3 _ rfl)⟩
            have j0 : (0 : Int) ≤ (k : Int) := by omega
            have j1 : (k : Int) < (n : Int) := by omega
            obtain ⟨c0, c1, c2, c3⟩ := HC.out _ hnr
            obtain ⟨d0, d1, d2, d3⟩ := HDx.out _ hnr
            have HX := hid (And.intro hx (And.intro hsl (And.intro hnr hm)))
            have hsrt := MayP.srt HM.out.2
            clear hcell hx hsl hnr hm
            rcases cmp_val x.1 t.1 with ⟨hlt, _⟩ | ⟨heq, _⟩ | ⟨hgt, _⟩
            · obtain ⟨hp, hmid⟩ := midT_less (t := t) hsrt HX.out.1 hlt
              have hp2 := putT_succ (t := t) HX.out.1
              have e2 : (x.1 == t.1) = false := beq_eq_false_iff_ne.2 (ltB_ne hlt)
              rw [hp, hlt, Bool.not_true, Bool.or_false] at hp2
              rw [hp]
              have HV := hid (And.intro hmid hp2)
              clear hsrt hmid hp2 hp
              go_wp2_with fail
              refine wp_region_quiet (C := fun w' => New wr w') (by kernel_rfl) (by kernel_rfl) (New.refl wr).drew ?_
              simp only [List.toList_toArray]
              repeat (first
                | go_big_quiet_skip
                | (go_big_quiet_want
                   apply Exists.intro
                   refine ⟨fun w' hw' => ?_, ?_⟩
                   · have d0_ := hw'.cellK d0; have c0_ := hw'.cellK c0; go_simp; first | (with_reducible rfl)
                   go_big_quiet_on
                   try simp only [Act.put, List.setIfInBounds_toArray, List.set_cons_zero, List.set_cons_succ]))
              refine wpQuiet_nil ?_
              intro wP hwP
              have hnP := HX.out.2.2.1.step hwP
              have hszP := hnP.size
              obtain ⟨c0, c1, c2, c3⟩ := HC.out _ hnP
              obtain ⟨d0, d1, d2, d3⟩ := HDx.out _ hnP
              have sP := HX.out.2.1.new_ hwP
              rw [← HX.out.2.2.2] at sP
              have HP := hid (And.intro sP hnP)
              clear sP hnP hwP
              go_wp2_with fail
              refine wp_region_quiet (C := fun w' => New wP w') (by kernel_rfl) (by kernel_rfl) (New.refl wP).drew ?_
              simp only [List.toList_toArray]
              repeat (first
                | go_big_quiet_skip
                | (go_big_quiet_want
                   apply Exists.intro
                   refine ⟨fun w' hw' => ?_, ?_⟩
                   · have d0_ := hw'.cellK d0; have c0_ := hw'.cellK c0; go_simp; first | (with_reducible rfl)
                   go_big_quiet_on
                   try simp only [Act.put, List.setIfInBounds_toArray, List.set_cons_zero, List.set_cons_succ]))
              refine wpQuiet_nil ?_
              intro wQ hwQ
              have hnQ := HP.out.2.step hwQ
              have hszQ := hnQ.size
              obtain ⟨c0, c1, c2, c3⟩ := HC.out _ hnQ
              have sQ := HP.out.1.new_ hwQ
              have HQ := hid (And.intro sQ hnQ)
              clear sQ hnQ hwQ d0 d1 d2 d3
              go_wp2_with (at_builtin; refine wpList_append_sl _ rfl (.tmp 51) (.tmp 56) 22 rfl w3.heap.size 26 ti _ 4 24 Try.underlying22 HT.out.1 HT.out.2.1 HT.out.2.2.1 HT.out.2.2.2 rfl (by decide) (.slice a3 m c3') m _ rfl (HQ.out.1.alloc _) ⟨wQ.heap.size, 0, none⟩ 1 1 (tc x) rfl (by decide) rfl (news_tm (Blk.new wQ _ _)) (tc_one x) (by unfold maxLen; omega) (by omega) (by rw [World.size_alloc]; omega) ?_; intro v6 w6 hs6 hg6 hb6)
              refine ⟨⟨k + 1, by omega, by go_num, by rw [HV.out.2], ?_, grown_one HQ.out.2 HQ.out.1 (Nat.le_refl _) hg6⟩, by simp [intOf]; omega⟩
              rw [HV.out.1]
              exact sl_snoc HX.out.2.2.2 hs6
            · obtain ⟨hp, hmid⟩ := midT_same (t := t) hsrt HX.out.1 heq
              have hp2 := putT_succ (t := t) HX.out.1
              have e2 : (x.1 == t.1) = true := beq_iff_eq.2 heq
              have e3 : ltB x.1 t.1 = false := by rw [heq]; exact ltB_irrefl _
              rw [hp, e3, Bool.not_false, Bool.or_true] at hp2
              rw [hp]
              have HV := hid (And.intro hmid hp2)
              clear hsrt hmid hp2 hp heq
              go_wp2_with fail
              refine wp_region_quiet (C := fun w' => New wr w') (by kernel_rfl) (by kernel_rfl) (New.refl wr).drew ?_
              simp only [List.toList_toArray]
              repeat (first
                | go_big_quiet_skip
                | (go_big_quiet_want
                   apply Exists.intro
                   refine ⟨fun w' hw' => ?_, ?_⟩
                   · have d0_ := hw'.cellK d0; have c0_ := hw'.cellK c0; go_simp; first | (with_reducible rfl)
                   go_big_quiet_on
                   try simp only [Act.put, List.setIfInBounds_toArray, List.set_cons_zero, List.set_cons_succ]))
              refine wpQuiet_nil ?_
              intro wP hwP
              have hnP := HX.out.2.2.1.step hwP
              have hszP := hnP.size
              obtain ⟨c0, c1, c2, c3⟩ := HC.out _ hnP
              obtain ⟨d0, d1, d2, d3⟩ := HDx.out _ hnP
              have sP := HX.out.2.1.new_ hwP
              rw [← HX.out.2.2.2] at sP
              have HP := hid (And.intro sP hnP)
              clear sP hnP hwP
              go_wp2_with (at_builtin; refine wpList_append_sl _ rfl (.tmp 39) (.tmp 41) 22 rfl w3.heap.size 26 ti _ 4 24 Try.underlying22 HT.out.1 HT.out.2.1 HT.out.2.2.1 HT.out.2.2.2 rfl (by decide) (.slice a3 m c3') m _ rfl (HP.out.1.alloc _) ⟨wP.heap.size, 0, none⟩ 1 1 (tc t) rfl (by decide) rfl (news_tm (Blk.new wP _ _)) (tc_one t) (by unfold maxLen; omega) (by omega) (by rw [World.size_alloc]; omega) ?_; intro v6 w6 hs6 hg6 hb6)
              have hn6 := grown_one HP.out.2 HP.out.1 (Nat.le_refl _) hg6
              obtain ⟨c0, c1, c2, c3⟩ := HC.out _ hn6
              obtain ⟨d0, d1, d2, d3⟩ := HDx.out _ hn6
              have H6 := hid (And.intro hs6 hn6)
              clear hs6 hn6 hg6 hb6
              go_wp2_with fail
              refine wp_region_quiet (C := fun w' => New w6 w') (by kernel_rfl) (by kernel_rfl) (New.refl w6).drew ?_
              simp only [List.toList_toArray]
              repeat (first
                | go_big_quiet_skip
                | (go_big_quiet_want
                   apply Exists.intro
                   refine ⟨fun w' hw' => ?_, ?_⟩
                   · have d0_ := hw'.cellK d0; have c0_ := hw'.cellK c0; go_simp; first | (with_reducible rfl)
                   go_big_quiet_on
                   try simp only [Act.put, List.setIfInBounds_toArray, List.set_cons_zero, List.set_cons_succ]))
              refine wpQuiet_nil ?_
              intro wQ hwQ
              have H7 := hid hwQ
              clear hwQ d0 d1 d2 d3 c0 c1 c2 c3
              go_wp2_with fail
              refine ⟨⟨k + 1, by omega, by go_num, by rw [HV.out.2], ?_, H6.out.2.step H7.out⟩, by simp [intOf]; omega⟩
              rw [HV.out.1]
              exact sl_snoc HX.out.2.2.2 (H6.out.1.new_ H7.out)
            · have hmid := midT_more (t := t) hsrt HX.out.1 hgt
              have hp2 := putT_succ (t := t) HX.out.1
              have e2 : (x.1 == t.1) = false := beq_eq_false_iff_ne.2 fun e => ltB_ne hgt e.symm
              have e3 : ltB x.1 t.1 = false := ltB_asymm hgt
              rw [e3, Bool.not_false, Bool.or_true] at hp2
              cases hp : putT l t k with
              | true =>
                rw [hp, if_pos rfl] at hmid
                have HV := hid (And.intro hmid hp2)
                clear hsrt hmid hp2 hp
                go_wp2_with fail
                refine wp_region_quiet (C := fun w' => New wr w') (by kernel_rfl) (by kernel_rfl) (New.refl wr).drew ?_
                simp only [List.toList_toArray]
                repeat (first
                  | go_big_quiet_skip
                  | (go_big_quiet_want
                     apply Exists.intro
                     refine ⟨fun w' hw' => ?_, ?_⟩
                     · have d0_ := hw'.cellK d0; have c0_ := hw'.cellK c0; go_simp; first | (with_reducible rfl)
                     go_big_quiet_on
                     try simp only [Act.put, List.setIfInBounds_toArray, List.set_cons_zero, List.set_cons_succ]))
                refine wpQuiet_nil ?_
                intro wP hwP
                have hnP := HX.out.2.2.1.step hwP
                have hszP := hnP.size
                obtain ⟨c0, c1, c2, c3⟩ := HC.out _ hnP
                obtain ⟨d0, d1, d2, d3⟩ := HDx.out _ hnP
                have sP := HX.out.2.1.new_ hwP
                rw [← HX.out.2.2.2] at sP
                have HP := hid (And.intro sP hnP)
                clear sP hnP hwP
                go_wp2_with fail
                refine wp_region_quiet (C := fun w' => New wP w') (by kernel_rfl) (by kernel_rfl) (New.refl wP).drew ?_
                simp only [List.toList_toArray]
                repeat (first
                  | go_big_quiet_skip
                  | (go_big_quiet_want
                     apply Exists.intro
                     refine ⟨fun w' hw' => ?_, ?_⟩
                     · have d0_ := hw'.cellK d0; have c0_ := hw'.cellK c0; go_simp; first | (with_reducible rfl)
                     go_big_quiet_on
                     try simp only [Act.put, List.setIfInBounds_toArray, List.set_cons_zero, List.set_cons_succ]))
                refine wpQuiet_nil ?_
                intro wQ hwQ
                have hnQ := HP.out.2.step hwQ
                have hszQ := hnQ.size
                obtain ⟨c0, c1, c2, c3⟩ := HC.out _ hnQ
                have sQ := HP.out.1.new_ hwQ
                have HQ := hid (And.intro sQ hnQ)
                clear sQ hnQ hwQ d0 d1 d2 d3
                go_wp2_with (at_builtin; refine wpList_append_sl _ rfl (.tmp 51) (.tmp 56) 22 rfl w3.heap.size 26 ti _ 4 24 Try.underlying22 HT.out.1 HT.out.2.1 HT.out.2.2.1 HT.out.2.2.2 rfl (by decide) (.slice a3 m c3') m _ rfl (HQ.out.1.alloc _) ⟨wQ.heap.size, 0, none⟩ 1 1 (tc x) rfl (by decide) rfl (news_tm (Blk.new wQ _ _)) (tc_one x) (by unfold maxLen; omega) (by omega) (by rw [World.size_alloc]; omega) ?_; intro v6 w6 hs6 hg6 hb6)
                refine ⟨⟨k + 1, by omega, by go_num, by rw [HV.out.2], ?_, grown_one HQ.out.2 HQ.out.1 (Nat.le_refl _) hg6⟩, by simp [intOf]; omega⟩
                rw [HV.out.1]
                exact sl_snoc HX.out.2.2.2 hs6
              | false =>
                rw [hp] at hmid
                have HV := hid (And.intro hmid hp2)
                clear hsrt hmid hp2 hp
                go_wp2_with fail
                refine wp_region_quiet (C := fun w' => New wr w') (by kernel_rfl) (by kernel_rfl) (New.refl wr).drew ?_
                simp only [List.toList_toArray]
                repeat (first
                  | go_big_quiet_skip
                  | (go_big_quiet_want
                     apply Exists.intro
                     refine ⟨fun w' hw' => ?_, ?_⟩
                     · have d0_ := hw'.cellK d0; have c0_ := hw'.cellK c0; go_simp; first | (with_reducible rfl)
                     go_big_quiet_on
                     try simp only [Act.put, List.setIfInBounds_toArray, List.set_cons_zero, List.set_cons_succ]))
                refine wpQuiet_nil ?_
                intro wP hwP
                have hnP := HX.out.2.2.1.step hwP
                have hszP := hnP.size
                obtain ⟨c0, c1, c2, c3⟩ := HC.out _ hnP
                obtain ⟨d0, d1, d2, d3⟩ := HDx.out _ hnP
                have sP := HX.out.2.1.new_ hwP
                rw [← HX.out.2.2.2] at sP
                have HP := hid (And.intro sP hnP)
                clear sP hnP hwP
                go_wp2_with (at_builtin; refine wpList_append_sl _ rfl (.tmp 39) (.tmp 41) 22 rfl w3.heap.size 26 ti _ 4 24 Try.underlying22 HT.out.1 HT.out.2.1 HT.out.2.2.1 HT.out.2.2.2 rfl (by decide) (.slice a3 m c3') m _ rfl (HP.out.1.alloc _) ⟨wP.heap.size, 0, none⟩ 1 1 (tc t) rfl (by decide) rfl (news_tm (Blk.new wP _ _)) (tc_one t) (by unfold maxLen; omega) (by omega) (by rw [World.size_alloc]; omega) ?_; intro v6 w6 hs6 hg6 hb6)
                have hn6 := grown_one HP.out.2 HP.out.1 (Nat.le_refl _) hg6
                obtain ⟨c0, c1, c2, c3⟩ := HC.out _ hn6
                obtain ⟨d0, d1, d2, d3⟩ := HDx.out _ hn6
                have hsn := sl_snoc HX.out.2.2.2 hs6
                have hvs6 := hsn.val
                have hl6 : (midT l t k ++ [t]).length = m + 1 := by rw [List.length_append, ← HX.out.2.2.2]; rfl
                rw [hl6] at hvs6 hsn
                obtain ⟨m1, hm1⟩ : ∃ m1, m1 = m + 1 := ⟨_, rfl⟩
                rw [← hm1] at hvs6 hsn hl6
                obtain ⟨a6, c6, rfl⟩ := hvs6
                have H6 := hid (And.intro hsn (And.intro hn6 (And.intro hm1 hl6)))
                have hm34 : m1 ≤ 34 := by omega
                clear hs6 hn6 hg6 hb6 hsn hm1 hl6
                go_wp2_with fail
                refine wp_region_quiet (C := fun w' => New w6 w') (by kernel_rfl) (by kernel_rfl) (New.refl w6).drew ?_
                simp only [List.toList_toArray]
                repeat (first
                  | go_big_quiet_skip
                  | (go_big_quiet_want
                     apply Exists.intro
                     refine ⟨fun w' hw' => ?_, ?_⟩
                     · have d0_ := hw'.cellK d0; have c0_ := hw'.cellK c0; go_simp; first | (with_reducible rfl)
                     go_big_quiet_on
                     try simp only [Act.put, List.setIfInBounds_toArray, List.set_cons_zero, List.set_cons_succ]))
                refine wpQuiet_nil ?_
                intro wQ hwQ
                have hnQ := H6.out.2.1.step hwQ
                have hszQ := hnQ.size
                obtain ⟨c0, c1, c2, c3⟩ := HC.out _ hnQ
                have sQ := H6.out.1.new_ hwQ
                have HQ := hid (And.intro sQ hnQ)
                clear sQ hnQ hwQ d0 d1 d2 d3
                go_wp2_with (at_builtin; refine wpList_append_sl _ rfl (.tmp 51) (.tmp 56) 22 rfl w3.heap.size 26 ti _ 4 24 Try.underlying22 HT.out.1 HT.out.2.1 HT.out.2.2.1 HT.out.2.2.2 rfl (by decide) (.slice a6 m1 c6) m1 _ rfl (HQ.out.1.alloc _) ⟨wQ.heap.size, 0, none⟩ 1 1 (tc x) rfl (by decide) rfl (news_tm (Blk.new wQ _ _)) (tc_one x) (by unfold maxLen; omega) (by omega) (by rw [World.size_alloc]; omega) ?_; intro v8 w8 hs8 hg8 hb8)
                refine ⟨⟨k + 1, by omega, by go_num, by rw [HV.out.2], ?_, grown_one HQ.out.2 HQ.out.1 (Nat.le_refl _) hg8⟩, by simp [intOf]; omega⟩
                rw [HV.out.1, if_neg (by decide)]
                exact sl_snoc H6.out.2.2.2.symm hs8
          · have j1 : ¬ (k : Int) < (n : Int) := by omega
            have hend := midT_end (l := l) (t := t) (k := k) (by have := H.out.2.1; omega)
            have hsrt := MayP.srt HM.out.2
            have hls := len_setL (t := t) hsrt
            have hEE : Hid ((setL l t).length ≤ 16 ↔ setE l t = 0) := by
              show _ ↔ _
              rw [HG.out.2.2]
              cases hb : hasB l t.1 with
              | true =>
                rw [if_pos (.inl rfl), hls.1 hb]
                exact ⟨fun _ => rfl, fun _ => HM.out.2.1⟩
              | false =>
                rw [hls.2 hb]
                by_cases h : l.length < 16
                · rw [if_pos (.inr h)]; exact ⟨fun _ => rfl, fun _ => by omega⟩
                · rw [if_neg (by rintro (h1 | h1); cases h1; exact h h1)]; exact ⟨fun _ => by omega, fun h => by cases h⟩
            have hEN : Hid (setE l t ≠ 0 → setE l t = 7) := by
              show _ → _
              rw [HG.out.2.2]
              split
              · exact fun h => absurd rfl h
              · exact fun _ => rfl
            obtain ⟨d0, d1, d2, d3⟩ := HDx.out _ hnr
            have HX := hid (And.intro hsl (And.intro hnr hm))
            cases hp : putT l t k with
            | true =>
              rw [hp, if_pos rfl] at hend
              have HV := hid hend
              clear hsrt hls hend hp hsl hnr hm
              by_cases hm16 : 16 < m
              · have hm16' : (16 : Int) < (m : Int) := by omega
                have hE7 : Hid (setE l t = 7) := hEN.out fun e => by have := hEE.out.2 e; rw [HV.out, ← HX.out.2.2] at this; omega
                go_wp2_with fail
                go_ret2
                exact ⟨_, by rw [hE7.out]; rfl, fun h => absurd h (by rw [hE7.out]; decide), fun _ => rfl, HG.out.1.step HX.out.2.1⟩
              · have hm16' : ¬ (16 : Int) < (m : Int) := by omega
                have hE0 : Hid (setE l t = 0) := hEE.out.1 (by rw [HV.out, ← HX.out.2.2]; omega)
                go_wp2_with fail
                go_ret2
                refine ⟨_, by rw [hE0.out]; rfl, fun _ => ?_, fun h => absurd hE0.out h, HG.out.1.step HX.out.2.1⟩
                have := HX.out.1.mono HG.out.1.size
                rw [HV.out, ← HX.out.2.2]
                rw [← HX.out.2.2] at this
                exact this
            | false =>
              rw [hp, if_neg (by decide)] at hend
              have HV := hid hend
              have sP := HX.out.1
              rw [← HX.out.2.2] at sP
              have HS := hid sP
              clear hsrt hls hend hp hsl hnr hm sP
              go_wp2_with (at_builtin; refine wpList_append_sl _ rfl (.tmp 60) (.tmp 62) 22 rfl w3.heap.size 26 ti _ 4 24 Try.underlying22 HT.out.1 HT.out.2.1 HT.out.2.2.1 HT.out.2.2.2 rfl (by decide) (.slice a3 m c3') m _ rfl (HS.out.alloc _) ⟨wr.heap.size, 0, none⟩ 1 1 (tc t) rfl (by decide) rfl (news_tm (Blk.new wr _ _)) (tc_one t) (by unfold maxLen; omega) (by omega) (by rw [World.size_alloc]; omega) ?_; intro v6 w6 hs6 hg6 hb6)
              have hn6 := grown_one HX.out.2.1 HS.out (Nat.le_refl _) hg6
              have hsn := sl_snoc HX.out.2.2 hs6
              have hl6 : (setL l t).length = m + 1 := by rw [HV.out, List.length_append, ← HX.out.2.2]; rfl
              rw [← HV.out] at hsn
              have hvs6 := hsn.val
              rw [hl6] at hvs6
              obtain ⟨m1, hm1⟩ : ∃ m1, m1 = m + 1 := ⟨_, rfl⟩
              rw [← hm1] at hvs6 hl6
              obtain ⟨a6, c6, rfl⟩ := hvs6
              have H6 := hid (And.intro hsn (And.intro hn6 hl6))
              have hm34 : m1 ≤ 34 := by omega
              clear hs6 hn6 hg6 hb6 hsn hm1 hl6
              by_cases hm16 : 16 < m1
              · have hm16' : (16 : Int) < (m1 : Int) := by omega
                have hE7 : Hid (setE l t = 7) := hEN.out fun e => by have := hEE.out.2 e; have := H6.out.2.2; omega
                go_wp2_with fail
                try go_simp
                go_wp2_with fail
                go_ret2
                exact ⟨_, by rw [hE7.out]; rfl, fun h => absurd h (by rw [hE7.out]; decide), fun _ => rfl, HG.out.1.step H6.out.2.1⟩
              · have hm16' : ¬ (16 : Int) < (m1 : Int) := by omega
                have hE0 : Hid (setE l t = 0) := hEE.out.1 (by have := H6.out.2.2; omega)
                go_wp2_with fail
                go_ret2
                exact ⟨_, by rw [hE0.out]; rfl, fun _ => H6.out.1.mono HG.out.1.size, fun h => absurd hE0.out h, HG.out.1.step H6.out.2.1⟩
    | true =>
      have hb : userB t.1 = true := by unfold userB; rw [h42]; rfl
      obtain ⟨w3, hw3⟩ : ∃ w3, w3 = w1 := ⟨_, rfl⟩
      have HG := hgo w3 (by rw [hw3]; exact New.refl _) hb
      have HW3 := hid hw3
      clear hgo hb hU hw3
      go_wp2_with fail
      rw [← HW3.out]
      go_loopw [6, 7, 8] (fun x b i wr => ∃ k : Nat, k ≤ n ∧ i = .int .i64 (k : Int) ∧ b = .bool (putT l t k) ∧ Sl wr w3.heap.size 26 4 x (midT l t k).length (flatOf tc (midT l t k)) ∧ New w3 wr) (fun _ _ i _ => n - (intOf i).toNat)
      case atStart => exact ⟨0, Nat.zero_le _, rfl, rfl, Sl.nil _ _ _ _, New.refl _⟩
      case round =>
        obtain ⟨k, hk, rfl, rfl, hsl, hnr⟩ := hrel
        have hlm := midT_len l t k
        have hvs := hsl.val
        obtain ⟨m, hm⟩ : ∃ m, m = (midT l t k).length := ⟨_, rfl⟩
        rw [← hm] at hlm hvs
        have hm33 : m ≤ 33 := by have := H.out.2.1; omega
        clear hlm
        obtain ⟨a3, c3', rfl⟩ := hvs
        have hszr := hnr.size
        have HDx : Hid (∀ X : World, New w3 X → X.cell? ⟨D, 0, none⟩ = some (st t.1) ∧ X.cell? ⟨D, 1, none⟩ = some (.bool t.2.1) ∧ X.cell? ⟨D, 2, none⟩ = some (.bool t.2.2.1) ∧ X.cell? ⟨D, 3, none⟩ = some (.bool t.2.2.2)) := fun X hX => by
          have bD := HG.out.2.1.new_ hX
          refine ⟨?_, ?_, ?_, ?_⟩ <;> (rw [bD.cell]; rfl)
        by_cases hkn : k < n
        · have w2' : IntKind.i64.wrap ((k : Int) + 1) = k + 1 := by rw [IntKind.wrap_i64]; omega
          obtain ⟨b, o, x, rfl, hx, _, hcell⟩ := H.out.1.get hkn
          have HC : Hid (∀ X : World, New w3 X → X.cell? ⟨b, o + k * 4, none⟩ = some (st x.1) ∧ X.cell? ⟨b, o + k * 4 + 1, none⟩ = some (.bool x.2.1) ∧ X.cell? ⟨b, o + k * 4 + 2, none⟩ = some (.bool x.2.2.1) ∧ X.cell? ⟨b, o + k * 4 + 3, none⟩ = some (.bool x.2.2.2)) := fun X hX =>
            ⟨(HG.out.1.step hX).cellK (hcell 0 _ rfl), (HG.out.1.step hX).cellK (hcell 1 _ rfl), (HG.out.1.step hX).cellK (hcell 2 _ rfl), (HG.out.1.step hX).cellK (hcell 3 _ rfl)⟩
          have j0 : (0 : Int) ≤ (k : Int) := by omega
          have j1 : (k : Int) < (n : Int) := by omega
          obtain ⟨c0, c1, c2, c3⟩ := HC.out _ hnr
          obtain ⟨d0, d1, d2, d3⟩ := HDx.out _ hnr
          have HX := hid (And.intro hx (And.intro hsl (And.intro hnr hm)))
          have hsrt := MayP.srt HM.out.2
          clear hcell hx hsl hnr hm
          rcases cmp_val x.1 t.1 with ⟨hlt, _⟩ | ⟨heq, _⟩ | ⟨hgt, _⟩
          · obtain ⟨hp, hmid⟩ := midT_less (t := t) hsrt HX.out.1 hlt
            have hp2 := putT_succ (t := t) HX.out.1
            have e2 : (x.1 == t.1) = false := beq_eq_false_iff_ne.2 (ltB_ne hlt)
            rw [hp, hlt, Bool.not_true, Bool.or_false] at hp2
            rw [hp]
            have HV := hid (And.intro hmid hp2)
            clear hsrt hmid hp2 hp
            go_wp2_with fail
            refine wp_region_quiet (C := fun w' => New wr w') (by kernel_rfl) (by kernel_rfl) (New.refl wr).drew ?_
            simp only [List.toList_toArray]
            repeat (first
              | go_big_quiet_skip
              | (go_big_quiet_want
                 apply Exists.intro
                 refine ⟨fun w' hw' => ?_, ?_⟩
                 · have d0_ := hw'.cellK d0; have c0_ := hw'.cellK c0; go_simp; first | (with_reducible rfl)
                 go_big_quiet_on
                 try simp only [Act.put, List.setIfInBounds_toArray, List.set_cons_zero, List.set_cons_succ]))
            refine wpQuiet_nil ?_
            intro wP hwP
            have hnP := HX.out.2.2.1.step hwP
            have hszP := hnP.size
            obtain ⟨c0, c1, c2, c3⟩ := HC.out _ hnP
            obtain ⟨d0, d1, d2, d3⟩ := HDx.out _ hnP
            have sP := HX.out.2.1.new_ hwP
            rw [← HX.out.2.2.2] at sP
            have HP := hid (And.intro sP hnP)
            clear sP hnP hwP
            go_wp2_with fail
            refine wp_region_quiet (C := fun w' => New wP w') (by kernel_rfl) (by kernel_rfl) (New.refl wP).drew ?_
            simp only [List.toList_toArray]
            repeat (first
              | go_big_quiet_skip
              | (go_big_quiet_want
                 apply Exists.intro
                 refine ⟨fun w' hw' => ?_, ?_⟩
                 · have d0_ := hw'.cellK d0; have c0_ := hw'.cellK c0; go_simp; first | (with_reducible rfl)
                 go_big_quiet_on
                 try simp only [Act.put, List.setIfInBounds_toArray, List.set_cons_zero, List.set_cons_succ]))
            refine wpQuiet_nil ?_
            intro wQ hwQ
            have hnQ := HP.out.2.step hwQ
            have hszQ := hnQ.size
            obtain ⟨c0, c1, c2, c3⟩ := HC.out _ hnQ
            have sQ := HP.out.1.new_ hwQ
            have HQ := hid (And.intro sQ hnQ)
            clear sQ hnQ hwQ d0 d1 d2 d3
            go_wp2_with (at_builtin; refine wpList_append_sl _ rfl (.tmp 51) (.tmp 56) 22 rfl w3.heap.size 26 ti _ 4 24 Try.underlying22 HT.out.1 HT.out.2.1 HT.out.2.2.1 HT.out.2.2.2 rfl (by decide) (.slice a3 m c3') m _ rfl (HQ.out.1.alloc _) ⟨wQ.heap.size, 0, none⟩ 1 1 (tc x) rfl (by decide) rfl (news_tm (Blk.new wQ _ _)) (tc_one x) (by unfold maxLen; omega) (by omega) (by rw [World.size_alloc]; omega) ?_; intro v6 w6 hs6 hg6 hb6)
            refine ⟨⟨k + 1, by omega, by go_num, by rw [HV.out.2], ?_, grown_one HQ.out.2 HQ.out.1 (Nat.le_refl _) hg6⟩, by simp [intOf]; omega⟩
            rw [HV.out.1]
            exact sl_snoc HX.out.2.2.2 hs6
          · obtain ⟨hp, hmid⟩ := midT_same (t := t) hsrt HX.out.1 heq
            have hp2 := putT_succ (t := t) HX.out.1
            have e2 : (x.1 == t.1) = true := beq_iff_eq.2 heq
            have e3 : ltB x.1 t.1 = false := by rw [heq]; exact ltB_irrefl _
            rw [hp, e3, Bool.not_false, Bool.or_true] at hp2
            rw [hp]
            have HV := hid (And.intro hmid hp2)
            clear hsrt hmid hp2 hp heq
            go_wp2_with fail
            refine wp_region_quiet (C := fun w' => New wr w') (by kernel_rfl) (by kernel_rfl) (New.refl wr).drew ?_
            simp only [List.toList_toArray]
            repeat (first
              | go_big_quiet_skip
              | (go_big_quiet_want
                 apply Exists.intro
                 refine ⟨fun w' hw' => ?_, ?_⟩
                 · have d0_ := hw'.cellK d0; have c0_ := hw'.cellK c0; go_simp; first | (with_reducible rfl)
                 go_big_quiet_on
                 try simp only [Act.put, List.setIfInBounds_toArray, List.set_cons_zero, List.set_cons_succ]))
            refine wpQuiet_nil ?_
            intro wP hwP
            have hnP := HX.out.2.2.1.step hwP
            have hszP := hnP.size
            obtain ⟨c0, c1, c2, c3⟩ := HC.out _ hnP
            obtain ⟨d0, d1, d2, d3⟩ := HDx.out _ hnP
            have sP := HX.out.2.1.new_ hwP
            rw [← HX.out.2.2.2] at sP
            have HP := hid (And.intro sP hnP)
            clear sP hnP hwP
            go_wp2_with (at_builtin; refine wpList_append_sl _ rfl (.tmp 39) (.tmp 41) 22 rfl w3.heap.size 26 ti _ 4 24 Try.underlying22 HT.out.1 HT.out.2.1 HT.out.2.2.1 HT.out.2.2.2 rfl (by decide) (.slice a3 m c3') m _ rfl (HP.out.1.alloc _) ⟨wP.heap.size, 0, none⟩ 1 1 (tc t) rfl (by decide) rfl (news_tm (Blk.new wP _ _)) (tc_one t) (by unfold maxLen; omega) (by omega) (by rw [World.size_alloc]; omega) ?_; intro v6 w6 hs6 hg6 hb6)
            have hn6 := grown_one HP.out.2 HP.out.1 (Nat.le_refl _) hg6
            obtain ⟨c0, c1, c2, c3⟩ := HC.out _ hn6
            obtain ⟨d0, d1, d2, d3⟩ := HDx.out _ hn6
            have H6 := hid (And.intro hs6 hn6)
            clear hs6 hn6 hg6 hb6
            go_wp2_with fail
            refine wp_region_quiet (C := fun w' => New w6 w') (by kernel_rfl) (by kernel_rfl) (New.refl w6).drew ?_
            simp only [List.toList_toArray]
            repeat (first
              | go_big_quiet_skip
              | (go_big_quiet_want
                 apply Exists.intro
                 refine ⟨fun w' hw' => ?_, ?_⟩
                 · have d0_ := hw'.cellK d0; have c0_ := hw'.cellK c0; go_simp; first | (with_reducible rfl)
                 go_big_quiet_on
                 try simp only [Act.put, List.setIfInBounds_toArray, List.set_cons_zero, List.set_cons_succ]))
            refine wpQuiet_nil ?_
            intro wQ hwQ
            have H7 := hid hwQ
            clear hwQ d0 d1 d2 d3 c0 c1 c2 c3
            go_wp2_with fail
            refine ⟨⟨k + 1, by omega, by go_num, by rw [HV.out.2], ?_, H6.out.2.step H7.out⟩, by simp [intOf]; omega⟩
            rw [HV.out.1]
            exact sl_snoc HX.out.2.2.2 (H6.out.1.new_ H7.out)
          · have hmid := midT_more (t := t) hsrt HX.out.1 hgt
            have hp2 := putT_succ (t := t) HX.out.1
            have e2 : (x.1 == t.1) = false := beq_eq_false_iff_ne.2 fun e => ltB_ne hgt e.symm
            have e3 : ltB x.1 t.1 = false := ltB_asymm hgt
            rw [e3, Bool.not_false, Bool.or_true] at hp2
            cases hp : putT l t k with
            | true =>
              rw [hp, if_pos rfl] at hmid
              have HV := hid (And.intro hmid hp2)
              clear hsrt hmid hp2 hp
              go_wp2_with fail
              refine wp_region_quiet (C := fun w' => New wr w') (by kernel_rfl) (by kernel_rfl) (New.refl wr).drew ?_
              simp only [List.toList_toArray]
              repeat (first
                | go_big_quiet_skip
                | (go_big_quiet_want
                   apply Exists.intro
                   refine ⟨fun w' hw' => ?_, ?_⟩
                   · have d0_ := hw'.cellK d0; have c0_ := hw'.cellK c0; go_simp; first | (with_reducible rfl)
                   go_big_quiet_on
                   try simp only [Act.put, List.setIfInBounds_toArray, List.set_cons_zero, List.set_cons_succ]))
              refine wpQuiet_nil ?_
              intro wP hwP
              have hnP := HX.out.2.2.1.step hwP
              have hszP := hnP.size
              obtain ⟨c0, c1, c2, c3⟩ := HC.out _ hnP
              obtain ⟨d0, d1, d2, d3⟩ := HDx.out _ hnP
              have sP := HX.out.2.1.new_ hwP
              rw [← HX.out.2.2.2] at sP
              have HP := hid (And.intro sP hnP)
              clear sP hnP hwP
              go_wp2_with fail
              refine wp_region_quiet (C := fun w' => New wP w') (by kernel_rfl) (by kernel_rfl) (New.refl wP).drew ?_
              simp only [List.toList_toArray]
              repeat (first
                | go_big_quiet_skip
                | (go_big_quiet_want
                   apply Exists.intro
                   refine ⟨fun w' hw' => ?_, ?_⟩
                   · have d0_ := hw'.cellK d0; have c0_ := hw'.cellK c0; go_simp; first | (with_reducible rfl)
                   go_big_quiet_on
                   try simp only [Act.put, List.setIfInBounds_toArray, List.set_cons_zero, List.set_cons_succ]))
              refine wpQuiet_nil ?_
              intro wQ hwQ
              have hnQ := HP.out.2.step hwQ
              have hszQ := hnQ.size
              obtain ⟨c0, c1, c2, c3⟩ := HC.out _ hnQ
              have sQ := HP.out.1.new_ hwQ
              have HQ := hid (And.intro sQ hnQ)
              clear sQ hnQ hwQ d0 d1 d2 d3
              go_wp2_with (at_builtin; refine wpList_append_sl _ rfl (.tmp 51) (.tmp 56) 22 rfl w3.heap.size 26 ti _ 4 24 Try.underlying22 HT.out.1 HT.out.2.1 HT.out.2.2.1 HT.out.2.2.2 rfl (by decide) (.slice a3 m c3') m _ rfl (HQ.out.1.alloc _) ⟨wQ.heap.size, 0, none⟩ 1 1 (tc x) rfl (by decide) rfl (news_tm (Blk.new wQ _ _)) (tc_one x) (by unfold maxLen; omega) (by omega) (by rw [World.size_alloc]; omega) ?_; intro v6 w6 hs6 hg6 hb6)
              refine ⟨⟨k + 1, by omega, by go_num, by rw [HV.out.2], ?_, grown_one HQ.out.2 HQ.out.1 (Nat.le_refl _) hg6⟩, by simp [intOf]; omega⟩
              rw [HV.out.1]
              exact sl_snoc HX.out.2.2.2 hs6
            | false =>
              rw [hp] at hmid
              have HV := hid (And.intro hmid hp2)
              clear hsrt hmid hp2 hp
              go_wp2_with fail
              refine wp_region_quiet (C := fun w' => New wr w') (by kernel_rfl) (by kernel_rfl) (New.refl wr).drew ?_
              simp only [List.toList_toArray]
              repeat (first
                | go_big_quiet_skip
                | (go_big_quiet_want
                   apply Exists.intro
                   refine ⟨fun w' hw' => ?_, ?_⟩
                   · have d0_ := hw'.cellK d0; have c0_ := hw'.cellK c0; go_simp; first | (with_reducible rfl)
                   go_big_quiet_on
                   try simp only [Act.put, List.setIfInBounds_toArray, List.set_cons_zero, List.set_cons_succ]))
              refine wpQuiet_nil ?_
              intro wP hwP
              have hnP := HX.out.2.2.1.step hwP
              have hszP := hnP.size
              obtain ⟨c0, c1, c2, c3⟩ := HC.out _ hnP
              obtain ⟨d0, d1, d2, d3⟩ := HDx.out _ hnP
              have sP := HX.out.2.1.new_ hwP
              rw [← HX.out.2.2.2] at sP
              have HP := hid (And.intro sP hnP)
              clear sP hnP hwP
              go_wp2_with (at_builtin; refine wpList_append_sl _ rfl (.tmp 39) (.tmp 41) 22 rfl w3.heap.size 26 ti _ 4 24 Try.underlying22 HT.out.1 HT.out.2.1 HT.out.2.2.1 HT.out.2.2.2 rfl (by decide) (.slice a3 m c3') m _ rfl (HP.out.1.alloc _) ⟨wP.heap.size, 0, none⟩ 1 1 (tc t) rfl (by decide) rfl (news_tm (Blk.new wP _ _)) (tc_one t) (by unfold maxLen; omega) (by omega) (by rw [World.size_alloc]; omega) ?_; intro v6 w6 hs6 hg6 hb6)
              have hn6 := grown_one HP.out.2 HP.out.1 (Nat.le_refl _) hg6
              obtain ⟨c0, c1, c2, c3⟩ := HC.out _ hn6
              obtain ⟨d0, d1, d2, d3⟩ := HDx.out _ hn6
              have hsn := sl_snoc HX.out.2.2.2 hs6
              have hvs6 := hsn.val
              have hl6 : (midT l t k ++ [t]).length = m + 1 := by rw [List.length_append, ← HX.out.2.2.2]; rfl
              rw [hl6] at hvs6 hsn
              obtain ⟨m1, hm1⟩ : ∃ m1, m1 = m + 1 := ⟨_, rfl⟩
              rw [← hm1] at hvs6 hsn hl6
              obtain ⟨a6, c6, rfl⟩ := hvs6
              have H6 := hid (And.intro hsn (And.intro hn6 (And.intro hm1 hl6)))
              have hm34 : m1 ≤ 34 := by omega
              clear hs6 hn6 hg6 hb6 hsn hm1 hl6
              go_wp2_with fail
              refine wp_region_quiet (C := fun w' => New w6 w') (by kernel_rfl) (by kernel_rfl) (New.refl w6).drew ?_
              simp only [List.toList_toArray]
              repeat (first
                | go_big_quiet_skip
                | (go_big_quiet_want
                   apply Exists.intro
                   refine ⟨fun w' hw' => ?_, ?_⟩
                   · have d0_ := hw'.cellK d0; have c0_ := hw'.cellK c0; go_simp; first | (with_reducible rfl)
                   go_big_quiet_on
                   try simp only [Act.put, List.setIfInBounds_toArray, List.set_cons_zero, List.set_cons_succ]))
              refine wpQuiet_nil ?_
              intro wQ hwQ
              have hnQ := H6.out.2.1.step hwQ
              have hszQ := hnQ.size
              obtain ⟨c0, c1, c2, c3⟩ := HC.out _ hnQ
              have sQ := H6.out.1.new_ hwQ
              have HQ := hid (And.intro sQ hnQ)
              clear sQ hnQ hwQ d0 d1 d2 d3
              go_wp2_with (at_builtin; refine wpList_append_sl _ rfl (.tmp 51) (.tmp 56) 22 rfl w3.heap.size 26 ti _ 4 24 Try.underlying22 HT.out.1 HT.out.2.1 HT.out.2.2.1 HT.out.2.2.2 rfl (by decide) (.slice a6 m1 c6) m1 _ rfl (HQ.out.1.alloc _) ⟨wQ.heap.size, 0, none⟩ 1 1 (tc x) rfl (by decide) rfl (news_tm (Blk.new wQ _ _)) (tc_one x) (by unfold maxLen; omega) (by omega) (by rw [World.size_alloc]; omega) ?_; intro v8 w8 hs8 hg8 hb8)
              refine ⟨⟨k + 1, by omega, by go_num, by rw [HV.out.2], ?_, grown_one HQ.out.2 HQ.out.1 (Nat.le_refl _) hg8⟩, by simp [intOf]; omega⟩
              rw [HV.out.1, if_neg (by decide)]
              exact sl_snoc H6.out.2.2.2.symm hs8
        · have j1 : ¬ (k : Int) < (n : Int) := by omega
          have hend := midT_end (l := l) (t := t) (k := k) (by have := H.out.2.1; omega)
          have hsrt := MayP.srt HM.out.2
          have hls := len_setL (t := t) hsrt
          have hEE : Hid ((setL l t).length ≤ 16 ↔ setE l t = 0) := by
            show _ ↔ _
            rw [HG.out.2.2]
            cases hb : hasB l t.1 with
            | true =>
              rw [if_pos (.inl rfl), hls.1 hb]
              exact ⟨fun _ => rfl, fun _ => HM.out.2.1⟩
            | false =>
              rw [hls.2 hb]
              by_cases h : l.length < 16
              · rw [if_pos (.inr h)]; exact ⟨fun _ => rfl, fun _ => by omega⟩
              · rw [if_neg (by rintro (h1 | h1); cases h1; exact h h1)]; exact ⟨fun _ => by omega, fun h => by cases h⟩
          have hEN : Hid (setE l t ≠ 0 → setE l t = 7) := by
            show _ → _
            rw [HG.out.2.2]
            split
            · exact fun h => absurd rfl h
            · exact fun _ => rfl
          obtain ⟨d0, d1, d2, d3⟩ := HDx.out _ hnr
          have HX := hid (And.intro hsl (And.intro hnr hm))
          cases hp : putT l t k with
          | true =>
            rw [hp, if_pos rfl] at hend
            have HV := hid hend
            clear hsrt hls hend hp hsl hnr hm
            by_cases hm16 : 16 < m
            · have hm16' : (16 : Int) < (m : Int) := by omega
              have hE7 : Hid (setE l t = 7) := hEN.out fun e => by have := hEE.out.2 e; rw [HV.out, ← HX.out.2.2] at this; omega
              go_wp2_with fail
              go_ret2
              exact ⟨_, by rw [hE7.out]; rfl, fun h => absurd h (by rw [hE7.out]; decide), fun _ => rfl, HG.out.1.step HX.out.2.1⟩
            · have hm16' : ¬ (16 : Int) < (m : Int) := by omega
              have hE0 : Hid (setE l t = 0) := hEE.out.1 (by rw [HV.out, ← HX.out.2.2]; omega)
              go_wp2_with fail
              go_ret2
              refine ⟨_, by rw [hE0.out]; rfl, fun _ => ?_, fun h => absurd hE0.out h, HG.out.1.step HX.out.2.1⟩
              have := HX.out.1.mono HG.out.1.size
              rw [HV.out, ← HX.out.2.2]
              rw [← HX.out.2.2] at this
              exact this
          | false =>
            rw [hp, if_neg (by decide)] at hend
            have HV := hid hend
            have sP := HX.out.1
            rw [← HX.out.2.2] at sP
            have HS := hid sP
            clear hsrt hls hend hp hsl hnr hm sP
            go_wp2_with (at_builtin; refine wpList_append_sl _ rfl (.tmp 60) (.tmp 62) 22 rfl w3.heap.size 26 ti _ 4 24 Try.underlying22 HT.out.1 HT.out.2.1 HT.out.2.2.1 HT.out.2.2.2 rfl (by decide) (.slice a3 m c3') m _ rfl (HS.out.alloc _) ⟨wr.heap.size, 0, none⟩ 1 1 (tc t) rfl (by decide) rfl (news_tm (Blk.new wr _ _)) (tc_one t) (by unfold maxLen; omega) (by omega) (by rw [World.size_alloc]; omega) ?_; intro v6 w6 hs6 hg6 hb6)
            have hn6 := grown_one HX.out.2.1 HS.out (Nat.le_refl _) hg6
            have hsn := sl_snoc HX.out.2.2 hs6
            have hl6 : (setL l t).length = m + 1 := by rw [HV.out, List.length_append, ← HX.out.2.2]; rfl
            rw [← HV.out] at hsn
            have hvs6 := hsn.val
            rw [hl6] at hvs6
            obtain ⟨m1, hm1⟩ : ∃ m1, m1 = m + 1 := ⟨_, rfl⟩
            rw [← hm1] at hvs6 hl6
            obtain ⟨a6, c6, rfl⟩ := hvs6
            have H6 := hid (And.intro hsn (And.intro hn6 hl6))
            have hm34 : m1 ≤ 34 := by omega
            clear hs6 hn6 hg6 hb6 hsn hm1 hl6
            by_cases hm16 : 16 < m1
            · have hm16' : (16 : Int) < (m1 : Int) := by omega
              have hE7 : Hid (setE l t = 7) := hEN.out fun e => by have := hEE.out.2 e; have := H6.out.2.2; omega
              go_wp2_with fail
              try go_simp
              go_wp2_with fail
              go_ret2
              exact ⟨_, by rw [hE7.out]; rfl, fun h => absurd h (by rw [hE7.out]; decide), fun _ => rfl, HG.out.1.step H6.out.2.1⟩
            · have hm16' : ¬ (16 : Int) < (m1 : Int) := by omega
              have hE0 : Hid (setE l t = 0) := hEE.out.1 (by have := H6.out.2.2; omega)
              go_wp2_with fail
              go_ret2
              exact ⟨_, by rw [hE0.out]; rfl, fun _ => H6.out.1.mono HG.out.1.size, fun h => absurd hE0.out h, HG.out.1.step H6.out.2.1⟩
end Go.Proofs.Ytaapfkfijahbmaa.Acl
