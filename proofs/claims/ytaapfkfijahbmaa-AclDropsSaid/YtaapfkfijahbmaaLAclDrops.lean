/- The walk of AclDrops. -/
import Derived.Test.YtaapfkfijahbmaaAclPure
import Derived.Test.YtaapfkfijahbmaaAclOpen
namespace Go.Proofs.Ytaapfkfijahbmaa.Law
open Go Go.RowKit Go.ChangeShapes Go.WideShapes Go.Proofs.Ytaapfkfijahbmaa.Kit Go.Proofs.Ytaapfkfijahbmaa.Str Go.Proofs.Ytaapfkfijahbmaa.Term Go.Proofs.Ytaapfkfijahbmaa.Acl Go.Proofs.Ytaapfkfijahbmaa.Open
set_option linter.unusedSimpArgs false
set_option linter.unusedVariables false
theorem news_tm {w : World} {g : Nat} {t : Tm} (h : Blk w g 26 #[st t.1, .bool t.2.1, .bool t.2.2.1, .bool t.2.2.2]) : ∀ j u, (tc t)[j]? = some u → w.cell? ((⟨g, 0, none⟩ : Addr).add j) = some u := by
  intro j u hu
  rw [Addr.add_lit, Nat.zero_add, h.cell]
  have : (#[st t.1, .bool t.2.1, .bool t.2.2.1, .bool t.2.2.2] : Array Value) = (tc t).toArray := rfl
  rw [this, List.getElem?_toArray]
  exact hu
set_option maxRecDepth 100000 in
set_option maxHeartbeats 8000000 in
theorem aclDrops_walk (v : Value) (l : List Tm) (t : Tm) (w : World) (h : LsAt 4 tc w v l) (hu : ∀ t ∈ l, t.1.length ≤ 9223372036854775807) (ht : t.1.length ≤ 9223372036854775807) :
    Calls Try.prog 7 #[v, tv t] w fun e w' => e = .returned (.bool true) ∧ New w w' := by
  obtain ⟨ti, hti, hzz⟩ := Option.map_eq_some_iff.1 term_info
  simp only [Prod.mk.injEq] at hzz
  have HT := hid (And.intro hti hzz)
  clear hti hzz
  have hnB := (New.refl w).alloc (.cells #[st t.1, .bool t.2.1, .bool t.2.2.1, .bool t.2.2.2] 26)
  have hB := Blk.new w 26 #[st t.1, .bool t.2.1, .bool t.2.2.1, .bool t.2.2.2]
  obtain ⟨a, c, hv, hlc, hcm, _⟩ := id h
  subst hv
  obtain ⟨n, hn⟩ : ∃ n, n = l.length := ⟨_, rfl⟩
  rw [← hn] at hlc h ⊢
  have H := hid (And.intro h (And.intro hn hu))
  clear h hn hu
  unfold maxLen at hcm
  go_enter Try.func7, Try.ntmps7
  go_wp2_with fail
  generalize (w.alloc (.cells #[st t.1, .bool t.2.1, .bool t.2.2.1, .bool t.2.2.2] 26)) = w0 at *
  obtain ⟨D, hD⟩ : ∃ D, D = w.heap.size := ⟨_, rfl⟩
  rw [← hD] at hB ⊢
  clear hD
  refine (awake_any w0).mono ?_
  rintro e w1 ⟨rfl, n1⟩
  have b1 := hB.new_ n1
  have n1 := hnB.step n1
  have h1 := H.out.1.new_ n1
  have HB1 := hid (And.intro b1 (And.intro n1 h1))
  clear hB hnB b1 n1 h1
  go_wp2_with fail
  refine (small_any _ l w1 HB1.out.2.2).mono ?_
  rintro e w2 ⟨bs, rfl, hsm, rfl⟩
  cases bs with
  | false =>
    clear hsm
    go_wp2
    go_ret
    exact ⟨rfl, HB1.out.2.1⟩
  | true =>
    have h100 : n ≤ 100 := by have := hsm rfl; have := H.out.2.1; omega
    clear hsm
    have d0 : w1.cell? ⟨D, 0, none⟩ = some (st t.1) := by rw [HB1.out.1.cell]; rfl
    have d1 : w1.cell? ⟨D, 1, none⟩ = some (.bool t.2.1) := by rw [HB1.out.1.cell]; rfl
    have d2 : w1.cell? ⟨D, 2, none⟩ = some (.bool t.2.2.1) := by rw [HB1.out.1.cell]; rfl
    have d3 : w1.cell? ⟨D, 3, none⟩ = some (.bool t.2.2.2) := by rw [HB1.out.1.cell]; rfl
    have hset := set_any _ l t w1 HB1.out.2.2 H.out.2.2 ht (by have := H.out.2.1; omega)
    have HS := hid hset
    clear hset
    go_wp2_with fail
    refine HS.out.mono ?_
    rintro e w3 ⟨vx, rfl, hx0, hxn, n3⟩
    obtain ⟨E, hE⟩ : ∃ E, E = setE l t := ⟨_, rfl⟩
    rw [← hE] at hx0 hxn ⊢
    have b3 := HB1.out.1.new_ n3
    have n3 := HB1.out.2.1.step n3
    by_cases hE0 : E = 0
    · have hz := setE_zero (show setE l t = 0 by omega)
      have sx := hx0 hE0
      have lx := LsAt.of_sl tc_len sx
      subst hE0
      have hmx := may_setL hz.1 hz.2.1 hz.2.2
      have hsrt := MayP.srt hz.1
      have hdx := drop_setL (t := t) hsrt
      have hxu : ∀ x ∈ setL l t, x.1.length ≤ 9223372036854775807 := by
        intro x hx
        rcases mem_setL.1 hx with rfl | ⟨h1, _⟩
        · exact ht
        · exact H.out.2.2 x h1
      have hyu : ∀ x ∈ dropL l t.1, x.1.length ≤ 9223372036854775807 := fun x hx => H.out.2.2 x (mem_dropL.1 hx).1
      have hx16 := hmx.1
      have hd1 := dropE_yes hmx (has_setL (l := l) (t := t))
      have hd2 := dropE_none (may_dropL (u := t.1) hz.1) (has_dropL (l := l) (u := t.1))
      have hq1 := drop_any vx (setL l t) t.1 w3 lx hxu (by omega)
      clear d0 d1 d2 d3
      have d0 : w3.cell? ⟨D, 0, none⟩ = some (st t.1) := by rw [b3.cell]; rfl
      have HQ := hid (And.intro hq1 (And.intro hd1 (And.intro hd2 (And.intro hdx (And.intro hyu n3)))))
      have HB3 := hid b3
      clear hz sx lx hmx hsrt hdx hxu hyu hx0 hxn hE hd1 hd2 hq1 n3 b3
      go_wp2_with fail
      refine HQ.out.1.mono ?_
      rintro e w4 ⟨vy, rfl, hy0, hyn, n4⟩
      rw [HQ.out.2.1] at hy0 hyn ⊢
      have sy := hy0 rfl
      rw [HQ.out.2.2.2.1] at sy
      have ly := LsAt.of_sl tc_len sy
      have b4 := HB3.out.new_ n4
      have n4 := HQ.out.2.2.2.2.2.step n4
      clear d0
      have d0 : w4.cell? ⟨D, 0, none⟩ = some (st t.1) := by rw [b4.cell]; rfl
      have hq2 := drop_any vy (dropL l t.1) t.1 w4 ly HQ.out.2.2.2.2.1 (by have := drop_le l t.1; have := H.out.2.1; omega)
      have HR := hid (And.intro hq2 (And.intro ly n4))
      have HB4 := hid b4
      clear hy0 hyn sy ly n4 b4 hq2
      go_wp2_with fail
      refine HR.out.1.mono ?_
      rintro e w5 ⟨vz, rfl, hz0, hzn, n5⟩
      rw [HQ.out.2.2.1] at hz0 hzn ⊢
      have ly5 := HR.out.2.1.new_ n5
      have b5 := HB4.out.new_ n5
      have n5 := HR.out.2.2.step n5
      have HY := hid (And.intro ly5 (And.intro n5 b5))
      clear hz0 hzn ly5 n5 b5 d0
      go_wp2_with fail
      go_loopw [11, 12] (fun x i wr => ∃ k : Nat, k ≤ n ∧ i = .int .i64 (k : Int) ∧ Sl wr w5.heap.size 26 4 x (dropL (l.take k) t.1).length (flatOf tc (dropL (l.take k) t.1)) ∧ New w5 wr) (fun _ i _ => n - (intOf i).toNat)
      case atStart => exact ⟨0, Nat.zero_le _, rfl, Sl.nil _ _ _ _, New.refl _⟩
      case round =>
        obtain ⟨k, hk, rfl, hsl, hnr⟩ := hrel
        have hnw := HY.out.2.1.step hnr
        by_cases hkn : k < n
        · have w2' : IntKind.i64.wrap ((k : Int) + 1) = k + 1 := by rw [IntKind.wrap_i64]; omega
          obtain ⟨b, o, x, rfl, hx, _, hcell⟩ := (H.out.1.new_ hnw).get hkn
          have c0 := hcell 0 _ rfl
          have c1 := hcell 1 _ rfl
          have c2 := hcell 2 _ rfl
          have c3 := hcell 3 _ rfl
          rw [Nat.add_zero] at c0
          have bD := HY.out.2.2.new_ hnr
          have d0 : wr.cell? ⟨D, 0, none⟩ = some (st t.1) := by rw [bD.cell]; rfl
          have j0 : (0 : Int) ≤ (k : Int) := by omega
          have j1 : (k : Int) < (n : Int) := by omega
          have hlen : (dropL (l.take k) t.1).length ≤ 100 := by have := drop_le (l.take k) t.1; rw [List.length_take] at this; omega
          have hvs := hsl.val
          obtain ⟨m, hm⟩ : ∃ m, m = (dropL (l.take k) t.1).length := ⟨_, rfl⟩
          rw [← hm] at hlen hvs
          obtain ⟨a3, c3', rfl⟩ := hvs
          have HX := hid (And.intro hx (And.intro hsl (And.intro hnr (And.intro hnw hm))))
          clear hcell hx bD hsl hnr hnw hm
          cases hb : (x.1 == t.1) with
          | true =>
            have hst : Hid (dropL (l.take (k + 1)) t.1 = dropL (l.take k) t.1) := by
              show _ = _
              rw [List.take_add_one, HX.out.1]
              unfold dropL
              rw [List.filter_append]
              simp [hb]
            go_wp2_with fail
            refine wp_region_quiet (C := fun w' => New wr w') (by kernel_rfl) (by kernel_rfl) (New.refl wr).drew ?_
            simp only [List.toList_toArray]
            repeat (first
              | go_big_quiet_skip
              | (go_big_quiet_want
                 apply Exists.intro
                 refine ⟨fun w' hw' => ?_, ?_⟩
                 · have d0_ := hw'.cellK d0; have c0_ := hw'.cellK c0; go_simp; first | (with_reducible rfl)
                 go_big_quiet_on
                 try simp only [Act.put, List.setIfInBounds_toArray, List.set_cons_zero, List.set_cons_succ]))
            refine wpQuiet_nil ?_
            intro wQ hwQ
            go_wp2_with fail
            refine ⟨⟨k + 1, by omega, by go_num, ?_, HX.out.2.2.1.step hwQ⟩, by simp [intOf]; omega⟩
            rw [hst.out]
            have := HX.out.2.1.new_ hwQ
            exact this
          | false =>
            have hst : Hid (dropL (l.take (k + 1)) t.1 = dropL (l.take k) t.1 ++ [x]) := by
              show _ = _
              rw [List.take_add_one, HX.out.1]
              unfold dropL
              rw [List.filter_append]
              simp [hb]
            go_wp2_with fail
            refine wp_region_quiet (C := fun w' => New wr w') (by kernel_rfl) (by kernel_rfl) (New.refl wr).drew ?_
            simp only [List.toList_toArray]
            repeat (first
              | go_big_quiet_skip
              | (go_big_quiet_want
                 apply Exists.intro
                 refine ⟨fun w' hw' => ?_, ?_⟩
                 · have d0_ := hw'.cellK d0; have c0_ := hw'.cellK c0; go_simp; first | (with_reducible rfl)
                 go_big_quiet_on
                 try simp only [Act.put, List.setIfInBounds_toArray, List.set_cons_zero, List.set_cons_succ]))
            refine wpQuiet_nil ?_
            intro wQ hwQ
            have s4 := HX.out.2.1.new_ hwQ
            rw [← HX.out.2.2.2.2] at s4
            have hnQ := HX.out.2.2.2.1.step hwQ
            have hszQ := (HX.out.2.2.1.step hwQ).size
            replace c0 := hwQ.cellK c0
            replace c1 := hwQ.cellK c1
            replace c2 := hwQ.cellK c2
            replace c3 := hwQ.cellK c3
            have hbox := news_tm (Blk.new wQ 26 #[st x.1, .bool x.2.1, .bool x.2.2.1, .bool x.2.2.2])
            have HZ := hid (And.intro s4 (And.intro hnQ (And.intro hwQ hbox)))
            clear s4 hnQ hwQ hbox d0
            go_wp2_with (at_builtin; refine wpList_append_sl _ rfl (.tmp 54) (.tmp 59) 22 rfl w5.heap.size 26 ti _ 4 24 Try.underlying22 HT.out.1 HT.out.2.1 HT.out.2.2.1 HT.out.2.2.2 rfl (by decide) (.slice a3 m c3') m _ rfl (HZ.out.1.alloc _) ⟨wQ.heap.size, 0, none⟩ 1 1 (tc x) rfl (by decide) rfl HZ.out.2.2.2 (tc_one x) (by unfold maxLen; omega) (by omega) (by rw [World.size_alloc]; omega) ?_; intro v' w6 hs6 hg6 hb6)
            have hn6 : New w5 w6 := ((HX.out.2.2.1.step HZ.out.2.2.1).alloc _).grown hg6 (fun k hk => (HZ.out.1.lt k hk).1)
            refine ⟨⟨k + 1, by omega, by go_num, ?_, hn6⟩, by simp [intOf]; omega⟩
            rw [hst.out, flatOf_app, flatOf_one, List.length_append, ← HX.out.2.2.2.2]
            exact hs6
        · have j1 : ¬ (k : Int) < (n : Int) := by omega
          have hk' : l.take k = l := List.take_of_length_le (by have := H.out.2.1; omega)
          rw [hk'] at hsl
          have hvs := hsl.val
          obtain ⟨m, hm⟩ : ∃ m, m = (dropL l t.1).length := ⟨_, rfl⟩
          rw [← hm] at hvs
          obtain ⟨a3, c3', rfl⟩ := hvs
          have hsm := same_any vy (.slice a3 m c3') (dropL l t.1) (dropL l t.1) wr (HY.out.1.new_ hnr) (by rw [hm]; rw [hm] at hsl; exact LsAt.of_sl tc_len hsl) (by have := drop_le l t.1; have := H.out.2.1; omega)
          have HX := hid (And.intro hsm hnw)
          clear hsl hnr hnw hk' hm hsm
          go_wp2_with fail
          refine HX.out.1.mono ?_
          rintro e w7 ⟨rfl, kd, rfl⟩
          rw [decide_eq_true rfl]
          go_wp2_with fail
          go_ret
          exact ⟨rfl, HX.out.2.drewN kd⟩
    · have hE0' : ¬ (E : Int) = 0 := by omega
      clear hx0 hxn hE
      go_wp2
      go_ret
      exact ⟨rfl, n3⟩
theorem aclDrops_row {H : Type} {enc : TypeId × Value → H} (W : World) {base : Nat}
    (v0 : Value) (d0 : DataW H) (p0 : List MemPlace) (k0 : Value.okWide Try.prog W .any base 22 v0) (h0 : DataW.Trod enc Try.prog W 0 (fun _ => true) true 22 v0 d0 p0) (l0 : ∀ x ∈ p0, x.block < W.heap.size)
    (v1 : Value) (d1 : DataW H) (p1 : List MemPlace) (k1 : Value.okWide Try.prog W .any base 26 v1) (h1 : DataW.Trod enc Try.prog W 0 (fun _ => true) true 26 v1 d1 p1) (l1 : ∀ x ∈ p1, x.block < W.heap.size)
    : Calls Try.prog 7 #[v0, v1] W fun e W' => e = .returned (.bool true) ∧ Below W.heap.size W W' := by
  obtain ⟨l, hl, hu⟩ := open_terms k0 h0
  obtain ⟨t, rfl, ht⟩ := open_term k1 h1
  exact aclDrops_walk v0 l t W hl hu ht
end Go.Proofs.Ytaapfkfijahbmaa.Law
