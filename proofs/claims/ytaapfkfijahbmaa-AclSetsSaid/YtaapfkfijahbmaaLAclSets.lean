/- The walk of AclSets. -/
import Derived.Test.YtaapfkfijahbmaaAclPure
import Derived.Test.YtaapfkfijahbmaaAclOpen
import Derived.ChangeMaps5
namespace Go.Proofs.Ytaapfkfijahbmaa.Law
open Go Go.RowKit Go.ChangeShapes Go.WideShapes Go.Proofs.Ytaapfkfijahbmaa.Kit Go.Proofs.Ytaapfkfijahbmaa.Str Go.Proofs.Ytaapfkfijahbmaa.Term Go.Proofs.Ytaapfkfijahbmaa.Acl Go.Proofs.Ytaapfkfijahbmaa.Open
open Go.ChangeMaps (open_string shut_string)
set_option linter.unusedSimpArgs false
set_option linter.unusedVariables false
set_option maxRecDepth 100000 in
set_option maxHeartbeats 8000000 in
theorem aclSets_walk (v : Value) (l : List Tm) (t : Tm) (u : List UInt8) (w : World) (h : LsAt 4 tc w v l) (hu : ∀ t ∈ l, t.1.length ≤ 9223372036854775807) (ht : t.1.length ≤ 9223372036854775807) (hul : u.length ≤ 9223372036854775807) :
    Calls Try.prog 3 #[v, tv t, st u] w fun e w' => e = .returned (.bool true) ∧ New w w' := by
  have he := fun (a b c a' b' c' : Bool) w => eql_fl a b c a' b' c' w
  have hne := fun (a b c a' b' c' : Bool) w => neq_fl a b c a' b' c' w
  have hnB := (New.refl w).alloc (.cells #[st t.1, .bool t.2.1, .bool t.2.2.1, .bool t.2.2.2] 26)
  have hB := Blk.new w 26 #[st t.1, .bool t.2.1, .bool t.2.2.1, .bool t.2.2.2]
  obtain ⟨a, c, hv, hlc, hcm, _⟩ := id h
  subst hv
  obtain ⟨n, hn⟩ : ∃ n, n = l.length := ⟨_, rfl⟩
  rw [← hn] at hlc h ⊢
  have H := hid (And.intro h (And.intro hn hu))
  clear h hn hu
  unfold maxLen at hcm
  go_enter Try.func3, Try.ntmps3
  go_wp2_with fail
  generalize (w.alloc (.cells #[st t.1, .bool t.2.1, .bool t.2.2.1, .bool t.2.2.2] 26)) = w0 at *
  obtain ⟨D, hD⟩ : ∃ D, D = w.heap.size := ⟨_, rfl⟩
  rw [← hD] at hB ⊢
  clear hD
  refine (awake_any w0).mono ?_
  rintro e w1 ⟨rfl, n1⟩
  have b1 := hB.new_ n1
  have n1 := hnB.step n1
  have h1 := H.out.1.new_ n1
  have HB1 := hid (And.intro b1 (And.intro n1 h1))
  clear hB hnB b1 n1 h1
  go_wp2_with fail
  refine (small_any _ l w1 HB1.out.2.2).mono ?_
  rintro e w2 ⟨bs, rfl, hsm, rfl⟩
  cases bs with
  | false =>
    clear hsm
    go_wp2
    go_ret
    exact ⟨rfl, HB1.out.2.1⟩
  | true =>
    have h100 := hsm rfl
    have HN := hid h100
    clear hsm h100
    by_cases hu100 : 100 < u.length
    · have hu100' : (100 : Int) < (u.length : Int) := by omega
      go_wp2
      go_ret
      exact ⟨rfl, HB1.out.2.1⟩
    have hu100' : ¬ (100 : Int) < (u.length : Int) := by omega
    have d0 : w1.cell? ⟨D, 0, none⟩ = some (st t.1) := by rw [HB1.out.1.cell]; rfl
    have d1 : w1.cell? ⟨D, 1, none⟩ = some (.bool t.2.1) := by rw [HB1.out.1.cell]; rfl
    have d2 : w1.cell? ⟨D, 2, none⟩ = some (.bool t.2.2.1) := by rw [HB1.out.1.cell]; rfl
    have d3 : w1.cell? ⟨D, 3, none⟩ = some (.bool t.2.2.2) := by rw [HB1.out.1.cell]; rfl
    have hset := set_any _ l t w1 HB1.out.2.2 H.out.2.2 ht (by have := HN.out; omega)
    have HS := hid hset
    clear hset
    go_wp2_with fail
    refine HS.out.mono ?_
    rintro e w3 ⟨vx, rfl, hx0, hxn, n3⟩
    obtain ⟨E, hE⟩ : ∃ E, E = setE l t := ⟨_, rfl⟩
    rw [← hE] at hx0 hxn ⊢
    have b3 := HB1.out.1.new_ n3
    have n3 := HB1.out.2.1.step n3
    by_cases hE0 : E = 0
    · have hz := setE_zero (show setE l t = 0 by omega)
      have sx := hx0 hE0
      have lx := LsAt.of_sl tc_len sx
      have h3 := H.out.1.new_ n3
      subst hE0
      have hmx := may_setL hz.1 hz.2.1 hz.2.2
      have HX := hid (And.intro lx (And.intro h3 (And.intro n3 (And.intro hz hmx))))
      have hxu : ∀ x ∈ setL l t, x.1.length ≤ 9223372036854775807 := by
        intro x hx
        rcases mem_setL.1 hx with rfl | ⟨h1, _⟩
        · exact ht
        · exact H.out.2.2 x h1
      have hlx16 := hmx.1
      clear d0 d1 d2 d3
      have d0 : w3.cell? ⟨D, 0, none⟩ = some (st t.1) := by rw [b3.cell]; rfl
      have d1 : w3.cell? ⟨D, 1, none⟩ = some (.bool t.2.1) := by rw [b3.cell]; rfl
      have d2 : w3.cell? ⟨D, 2, none⟩ = some (.bool t.2.2.1) := by rw [b3.cell]; rfl
      have d3 : w3.cell? ⟨D, 3, none⟩ = some (.bool t.2.2.2) := by rw [b3.cell]; rfl
      obtain ⟨ax, cx, hvx, _⟩ := id lx
      obtain ⟨nx, hnx⟩ : ∃ nx, nx = (setL l t).length := ⟨_, rfl⟩
      rw [← hnx] at hvx
      subst hvx
      have hfx : findF (setL l t) t.1 = t.2 := by rw [findF_may hmx, look_set_self (MayP.srt hz.1)]; rfl
      have hF1 : ∀ X, New w3 X → Calls Try.prog 11 #[.slice ax nx cx, st t.1] X fun e w' => e = .returned (.agg #[.bool t.2.1, .bool t.2.2.1, .bool t.2.2.2]) ∧ New X w' := fun X hX =>
        (find_any _ (setL l t) t.1 X (lx.new_ hX) hxu (by omega)).mono fun e w' h => by unfold FindPost at h; rw [hfx] at h; exact h
      have hM1 : ∀ X, New w3 X → Calls Try.prog 12 #[.slice ax nx cx] X fun e w' => e = .returned (.bool true) ∧ New X w' := fun X hX =>
        (may_any _ (setL l t) hxu X (lx.new_ hX)).mono fun e w' h => by rw [mayL_iff.2 hmx] at h; exact h
      have HF1 := hid hF1
      have HM1 := hid hM1
      have hself : feq (t.2.1, t.2.2.1, t.2.2.2) (t.2.1, t.2.2.1, t.2.2.2) = true := feq_self _
      have HU := hid hxu
      have Hnx := hid hnx
      have HB3 := hid b3
      clear hz sx lx h3 hmx hxu hfx hF1 hM1 n3 hx0 hxn hE hnx b3
      go_wp2_with fail
      refine wp_region_quiet (C := fun w' => New w3 w') (by kernel_rfl) (by kernel_rfl) (New.refl w3).drew ?_
      simp only [List.toList_toArray]
      repeat (first
        | go_big_quiet_skip
        | (go_big_quiet_want
           apply Exists.intro
           refine ⟨fun w' hw' => ?_, ?_⟩
           · have d0_ := hw'.cellK d0; have d1_ := hw'.cellK d1; have d2_ := hw'.cellK d2; have d3_ := hw'.cellK d3; go_simp; first | (with_reducible rfl) | (go_at_call 11; with_reducible exact ((HF1.out _ hw').mono (fun e w2 h => ⟨h.1, hw'.step h.2⟩))) | (go_at_call 12; with_reducible exact ((HM1.out _ hw').mono (fun e w2 h => ⟨h.1, hw'.step h.2⟩)))
           go_big_quiet_on
           try simp only [Act.put, List.setIfInBounds_toArray, List.set_cons_zero, List.set_cons_succ]))
      refine wpQuiet_nil ?_
      intro wQ hwQ
      clear d0 d1 d2 d3
      go_wp2_with fail
      go_loopw [9, 10] (fun b i wr => ∃ k : Nat, k ≤ n ∧ i = .int .i64 (k : Int) ∧ b = .bool (hasB (l.take k) u) ∧ wr = wQ) (fun _ i _ => n - (intOf i).toNat)
      case atStart => exact ⟨0, Nat.zero_le _, rfl, rfl, rfl⟩
      case round =>
        obtain ⟨k, hk, rfl, rfl, rfl⟩ := hrel
        by_cases hkn : k < n
        · have w2' : IntKind.i64.wrap ((k : Int) + 1) = k + 1 := by rw [IntKind.wrap_i64]; omega
          obtain ⟨b, o, x, rfl, hx, _, hcell⟩ := (HX.out.2.1.new_ hwQ).get hkn
          have c0 := hcell 0 _ rfl
          rw [Nat.add_zero] at c0
          have j0 : (0 : Int) ≤ (k : Int) := by omega
          have j1 : (k : Int) < (n : Int) := by omega
          have hstep : Hid (hasB (l.take (k + 1)) u = (hasB (l.take k) u || (x.1 == u))) := by
            show _ = _
            rw [List.take_add_one, hx]
            simp [hasB]
          clear hcell hx
          generalize hasB (l.take k) u = B at *
          cases B with
          | true =>
            go_wp2_with fail
            refine ⟨⟨k + 1, by omega, by go_num, by rw [hstep.out]; rfl, by first | rfl | trivial⟩, by simp [intOf]; omega⟩
          | false =>
            go_wp2_with fail
            refine ⟨⟨k + 1, by omega, by go_num, by rw [hstep.out]; rfl, by first | rfl | trivial⟩, by simp [intOf]; omega⟩
        · have j1 : ¬ (k : Int) < (n : Int) := by omega
          have hk' : l.take k = l := List.take_of_length_le (by have := H.out.2.1; omega)
          rw [hk']
          clear hk'
          have bQ := HB3.out.new_ hwQ
          have d0 : wr.cell? ⟨D, 0, none⟩ = some (st t.1) := by rw [bQ.cell]; rfl
          have d1 : wr.cell? ⟨D, 1, none⟩ = some (.bool t.2.1) := by rw [bQ.cell]; rfl
          have d2 : wr.cell? ⟨D, 2, none⟩ = some (.bool t.2.2.1) := by rw [bQ.cell]; rfl
          have d3 : wr.cell? ⟨D, 3, none⟩ = some (.bool t.2.2.2) := by rw [bQ.cell]; rfl
          have hsrt := MayP.srt HX.out.2.2.2.1.1
          have hlook := fun (u : List UInt8) (hu : u ≠ t.1) => look_set_other (t := t) hsrt hu
          have hmay := HX.out.2.2.2.1.1
          have hmx := HX.out.2.2.2.2
          have hnm := has_look (l := l) (u := u)
          have hFx := fun X (hX : New wr X) => find_any _ (setL l t) u X (HX.out.1.new_ (hwQ.step hX)) HU.out (by have := hmx.1; omega)
          have hFl := fun X (hX : New wr X) => find_any _ l u X (HX.out.2.1.new_ (hwQ.step hX)) H.out.2.2 (by have := hmay.1; omega)
          have HW := hid hwQ
          have HD := hid bQ
          clear hwQ bQ
          by_cases hut : u = t.1
          · have e1 : (u == t.1) = true := beq_iff_eq.2 hut
            have e2 : (u != t.1) = false := by rw [bne, e1]; rfl
            clear hFx hFl hlook hnm hmx hmay hsrt hut
            generalize hasB l u = B
            go_wp2_with fail
            refine wp_region_quiet (C := fun w' => New wr w') (by kernel_rfl) (by kernel_rfl) (New.refl wr).drew ?_
            simp only [List.toList_toArray]
            repeat (first
              | go_big_quiet_skip
              | (go_big_quiet_want
                 apply Exists.intro
                 refine ⟨fun w' hw' => ?_, ?_⟩
                 · have d0_ := hw'.cellK d0; have d1_ := hw'.cellK d1; have d2_ := hw'.cellK d2; have d3_ := hw'.cellK d3; go_simp; first | (with_reducible rfl)
                 go_big_quiet_on
                 try simp only [Act.put, List.setIfInBounds_toArray, List.set_cons_zero, List.set_cons_succ]))
            refine wpQuiet_nil ?_
            intro wQ hwQ
            go_wp2
            go_ret
            exact ⟨rfl, (HX.out.2.2.1.step HW.out).step hwQ⟩
          · have e1 : (u == t.1) = false := beq_eq_false_iff_ne.2 hut
            have e2 : (u != t.1) = true := by rw [bne, e1]; rfl
            have hlu := hlook u hut
            by_cases ht42 : t.1 = [42]
            · have e3 : (t.1 == [42]) = true := beq_iff_eq.2 ht42
              have e4 : (t.1 != [42]) = false := by rw [bne, e3]; rfl
              cases hnmd : hasB l u with
              | true =>
                rw [hnmd] at hnm
                have hfeq : findF (setL l t) u = findF l u := by
                  rw [findF_may hmx, findF_may hmay, hlu]
                  cases hl2 : Acl.look l u with
                  | none => rw [hl2] at hnm; cases hnm
                  | some f => rfl
                obtain ⟨F, hF⟩ : ∃ F, F = findF l u := ⟨_, rfl⟩
                have hFx' : ∀ X, New wr X → Calls Try.prog 11 #[.slice ax nx cx, st u] X fun e w' => e = .returned (.agg #[.bool F.1, .bool F.2.1, .bool F.2.2]) ∧ New X w' := fun X hX => (hFx X hX).mono fun e w' h => by unfold FindPost at h; rw [hfeq, ← hF] at h; exact h
                have hFl' : ∀ X, New wr X → Calls Try.prog 11 #[.slice a n c, st u] X fun e w' => e = .returned (.agg #[.bool F.1, .bool F.2.1, .bool F.2.2]) ∧ New X w' := fun X hX => (hFl X hX).mono fun e w' h => by unfold FindPost at h; rw [← hF] at h; exact h
                have HFx := hid hFx'
                have HFl := hid hFl'
                have hFF : feq (F.1, F.2.1, F.2.2) (F.1, F.2.1, F.2.2) = true := feq_self _
                have hnr := New.refl wr
                clear ht42 hFx hFl hlook hnm hmx hmay hsrt hut hlu hFx' hFl' hfeq hF
                go_wp2_with fail
                refine (HFx.out _ hnr).mono ?_
                rintro e w5 ⟨rfl, n5⟩
                go_wp2_with fail
                refine (HFl.out _ n5).mono ?_
                rintro e w6 ⟨rfl, n6⟩
                have n6 := n5.step n6
                replace d0 := n6.cellK d0
                replace d1 := n6.cellK d1
                replace d2 := n6.cellK d2
                replace d3 := n6.cellK d3
                have HN6 := hid n6
                clear hnr n5 n6
                go_wp2_with fail
                refine wp_region_quiet (C := fun w' => New w6 w') (by kernel_rfl) (by kernel_rfl) (New.refl w6).drew ?_
                simp only [List.toList_toArray]
                repeat (first
                  | go_big_quiet_skip
                  | (go_big_quiet_want
                     apply Exists.intro
                     refine ⟨fun w' hw' => ?_, ?_⟩
                     · have d0_ := hw'.cellK d0; have d1_ := hw'.cellK d1; have d2_ := hw'.cellK d2; have d3_ := hw'.cellK d3; go_simp; first | (with_reducible rfl)
                     go_big_quiet_on
                     try simp only [Act.put, List.setIfInBounds_toArray, List.set_cons_zero, List.set_cons_succ]))
                refine wpQuiet_nil ?_
                intro wQ hwQ
                go_wp2
                go_ret
                exact ⟨rfl, ((HX.out.2.2.1.step HW.out).step HN6.out).step hwQ⟩
              | false =>
                rw [hnmd] at hnm
                have hfeq : findF (setL l t) u = t.2 := by
                  rw [findF_may hmx, hlu]
                  cases hl2 : Acl.look l u with
                  | some f => rw [hl2] at hnm; cases hnm
                  | none =>
                    have := look_set_self (t := t) hsrt
                    rw [ht42] at this
                    rw [this]; rfl
                have hFx' : ∀ X, New wr X → Calls Try.prog 11 #[.slice ax nx cx, st u] X fun e w' => e = .returned (.agg #[.bool t.2.1, .bool t.2.2.1, .bool t.2.2.2]) ∧ New X w' := fun X hX => (hFx X hX).mono fun e w' h => by unfold FindPost at h; rw [hfeq] at h; exact h
                have HFx := hid hFx'
                clear hFx hFl hlook hnm hmx hmay hsrt hut hlu hFx' hfeq ht42
                go_wp2_with fail
                refine wp_region_quiet (C := fun w' => New wr w') (by kernel_rfl) (by kernel_rfl) (New.refl wr).drew ?_
                simp only [List.toList_toArray]
                repeat (first
                  | go_big_quiet_skip
                  | (go_big_quiet_want
                     apply Exists.intro
                     refine ⟨fun w' hw' => ?_, ?_⟩
                     · have d0_ := hw'.cellK d0; have d1_ := hw'.cellK d1; have d2_ := hw'.cellK d2; have d3_ := hw'.cellK d3; go_simp; first | (with_reducible rfl) | (go_at_call 11; with_reducible exact ((HFx.out _ hw').mono (fun e w2 h => ⟨h.1, hw'.step h.2⟩)))
                     go_big_quiet_on
                     try simp only [Act.put, List.setIfInBounds_toArray, List.set_cons_zero, List.set_cons_succ]))
                refine wpQuiet_nil ?_
                intro wQ hwQ
                go_wp2
                go_ret
                exact ⟨rfl, (HX.out.2.2.1.step HW.out).step hwQ⟩
            · have e3 : (t.1 == [42]) = false := beq_eq_false_iff_ne.2 ht42
              have e4 : (t.1 != [42]) = true := by rw [bne, e3]; rfl
              have hstar := hlook [42] (fun e => ht42 e.symm)
              have hfeq : findF (setL l t) u = findF l u := by
                rw [findF_may hmx, findF_may hmay, hlu]
                rw [hstar]
              obtain ⟨F, hF⟩ : ∃ F, F = findF l u := ⟨_, rfl⟩
              have hFx' : ∀ X, New wr X → Calls Try.prog 11 #[.slice ax nx cx, st u] X fun e w' => e = .returned (.agg #[.bool F.1, .bool F.2.1, .bool F.2.2]) ∧ New X w' := fun X hX => (hFx X hX).mono fun e w' h => by unfold FindPost at h; rw [hfeq, ← hF] at h; exact h
              have hFl' : ∀ X, New wr X → Calls Try.prog 11 #[.slice a n c, st u] X fun e w' => e = .returned (.agg #[.bool F.1, .bool F.2.1, .bool F.2.2]) ∧ New X w' := fun X hX => (hFl X hX).mono fun e w' h => by unfold FindPost at h; rw [← hF] at h; exact h
              have HFx := hid hFx'
              have HFl := hid hFl'
              have hFF : feq (F.1, F.2.1, F.2.2) (F.1, F.2.1, F.2.2) = true := feq_self _
              have hnr := New.refl wr
              generalize hasB l u = B
              clear hFx hFl hstar hlook hnm hmx hmay hsrt hut hlu hFx' hFl' hfeq hF
              go_wp2_with fail
              refine (HFx.out _ hnr).mono ?_
              rintro e w5 ⟨rfl, n5⟩
              go_wp2_with fail
              refine (HFl.out _ n5).mono ?_
              rintro e w6 ⟨rfl, n6⟩
              have n6 := n5.step n6
              replace d0 := n6.cellK d0
              replace d1 := n6.cellK d1
              replace d2 := n6.cellK d2
              replace d3 := n6.cellK d3
              have HN6 := hid n6
              clear hnr n5 n6
              go_wp2_with fail
              refine wp_region_quiet (C := fun w' => New w6 w') (by kernel_rfl) (by kernel_rfl) (New.refl w6).drew ?_
              simp only [List.toList_toArray]
              repeat (first
                | go_big_quiet_skip
                | (go_big_quiet_want
                   apply Exists.intro
                   refine ⟨fun w' hw' => ?_, ?_⟩
                   · have d0_ := hw'.cellK d0; have d1_ := hw'.cellK d1; have d2_ := hw'.cellK d2; have d3_ := hw'.cellK d3; go_simp; first | (with_reducible rfl)
                   go_big_quiet_on
                   try simp only [Act.put, List.setIfInBounds_toArray, List.set_cons_zero, List.set_cons_succ]))
              refine wpQuiet_nil ?_
              intro wQ hwQ
              go_wp2
              go_ret
              exact ⟨rfl, ((HX.out.2.2.1.step HW.out).step HN6.out).step hwQ⟩
    · have hE0' : ¬ (E : Int) = 0 := by omega
      clear hx0 hxn hE
      go_wp2
      go_ret
      exact ⟨rfl, n3⟩
theorem aclSets_row {H : Type} {enc : TypeId × Value → H} (W : World) {base : Nat}
    (v0 : Value) (d0 : DataW H) (p0 : List MemPlace) (k0 : Value.okWide Try.prog W .any base 22 v0) (h0 : DataW.Trod enc Try.prog W 0 (fun _ => true) true 22 v0 d0 p0) (l0 : ∀ x ∈ p0, x.block < W.heap.size)
    (v1 : Value) (d1 : DataW H) (p1 : List MemPlace) (k1 : Value.okWide Try.prog W .any base 26 v1) (h1 : DataW.Trod enc Try.prog W 0 (fun _ => true) true 26 v1 d1 p1) (l1 : ∀ x ∈ p1, x.block < W.heap.size)
    (v2 : Value) (d2 : DataW H) (p2 : List MemPlace) (k2 : Value.okWide Try.prog W .any base 9 v2) (h2 : DataW.Trod enc Try.prog W 0 (fun _ => true) true 9 v2 d2 p2) (l2 : ∀ x ∈ p2, x.block < W.heap.size)
    : Calls Try.prog 3 #[v0, v1, v2] W fun e W' => e = .returned (.bool true) ∧ Below W.heap.size W W' := by
  obtain ⟨l, hl, hu⟩ := open_terms k0 h0
  obtain ⟨t, rfl, ht⟩ := open_term k1 h1
  obtain ⟨s, rfl, _, _, hs⟩ := open_string Try.underlying9 k2 h2
  have := aclSets_walk v0 l t s.data.toList W hl hu ht (by unfold maxLen at hs; simpa using hs)
  exact this
end Go.Proofs.Ytaapfkfijahbmaa.Law
