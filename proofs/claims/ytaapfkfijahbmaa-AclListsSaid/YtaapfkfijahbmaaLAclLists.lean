/- The walk of AclLists. -/
import Derived.Test.YtaapfkfijahbmaaAclPure
import Derived.Test.YtaapfkfijahbmaaAclOpen
import Derived.Test.YtaapfkfijahbmaaAclRefS
import Derived.Test.YtaapfkfijahbmaaAclRefF
import Derived.ChangeMaps5
namespace Go.Proofs.Ytaapfkfijahbmaa.Law
open Go Go.RowKit Go.ChangeShapes Go.WideShapes Go.Proofs.Ytaapfkfijahbmaa.Kit Go.Proofs.Ytaapfkfijahbmaa.Str Go.Proofs.Ytaapfkfijahbmaa.Term Go.Proofs.Ytaapfkfijahbmaa.Acl Go.Proofs.Ytaapfkfijahbmaa.Open
open Go.ChangeMaps (open_string shut_string)
set_option linter.unusedSimpArgs false
set_option linter.unusedVariables false
set_option maxRecDepth 100000 in
set_option maxHeartbeats 8000000 in
theorem aclLists_walk (v : Value) (l : List Tm) (t : Tm) (u : List UInt8) (w : World) (h : LsAt 4 tc w v l) (hu : ∀ t ∈ l, t.1.length ≤ 9223372036854775807) (ht : t.1.length ≤ 9223372036854775807) (hul : u.length ≤ 9223372036854775807) :
    Calls Try.prog 6 #[v, tv t, st u] w fun e w' => e = .returned (.bool true) ∧ New w w' := by
  obtain ⟨ti, hti, hzz⟩ := Option.map_eq_some_iff.1 term_info
  simp only [Prod.mk.injEq] at hzz
  have HT := hid (And.intro hti hzz)
  clear hti hzz
  have hne := fun (a b c a' b' c' : Bool) w => neq_fl a b c a' b' c' w
  have hnB := (New.refl w).alloc (.cells #[st t.1, .bool t.2.1, .bool t.2.2.1, .bool t.2.2.2] 26)
  have hB := Blk.new w 26 #[st t.1, .bool t.2.1, .bool t.2.2.1, .bool t.2.2.2]
  obtain ⟨a, c, hv, hlc, hcm, _⟩ := id h
  subst hv
  obtain ⟨n, hn⟩ : ∃ n, n = l.length := ⟨_, rfl⟩
  rw [← hn] at hlc h ⊢
  have H := hid (And.intro h (And.intro hn hu))
  clear h hn hu
  unfold maxLen at hcm
  go_enter Try.func6, Try.ntmps6
  go_wp2_with fail
  generalize (w.alloc (.cells #[st t.1, .bool t.2.1, .bool t.2.2.1, .bool t.2.2.2] 26)) = w0 at *
  obtain ⟨D, hD⟩ : ∃ D, D = w.heap.size := ⟨_, rfl⟩
  rw [← hD] at hB ⊢
  clear hD
  refine (awake_any w0).mono ?_
  rintro e w1 ⟨rfl, n1⟩
  have b1 := hB.new_ n1
  have n1 := hnB.step n1
  have h1 := H.out.1.new_ n1
  have HB1 := hid (And.intro b1 (And.intro n1 h1))
  clear hB hnB b1 n1 h1
  go_wp2_with fail
  refine (small_any _ l w1 HB1.out.2.2).mono ?_
  rintro e w2 ⟨bs, rfl, hsm, rfl⟩
  have d0 : w1.cell? ⟨D, 0, none⟩ = some (st t.1) := by rw [HB1.out.1.cell]; rfl
  cases bs with
  | false =>
    clear hsm
    go_wp2
    go_ret
    exact ⟨rfl, HB1.out.2.1⟩
  | true =>
    have h100 : n ≤ 100 := by have := hsm rfl; have := H.out.2.1; omega
    clear hsm
    by_cases ht100 : 100 < t.1.length
    · have ht100' : (100 : Int) < (t.1.length : Int) := by omega
      go_wp2
      go_ret
      exact ⟨rfl, HB1.out.2.1⟩
    by_cases hu100 : 100 < u.length
    · have ht100' : ¬ (100 : Int) < (t.1.length : Int) := by omega
      have hu100' : (100 : Int) < (u.length : Int) := by omega
      go_wp2
      go_ret
      exact ⟨rfl, HB1.out.2.1⟩
    have ht100' : ¬ (100 : Int) < (t.1.length : Int) := by omega
    have hu100' : ¬ (100 : Int) < (u.length : Int) := by omega
    have d1 : w1.cell? ⟨D, 1, none⟩ = some (.bool t.2.1) := by rw [HB1.out.1.cell]; rfl
    have d2 : w1.cell? ⟨D, 2, none⟩ = some (.bool t.2.2.1) := by rw [HB1.out.1.cell]; rfl
    have d3 : w1.cell? ⟨D, 3, none⟩ = some (.bool t.2.2.2) := by rw [HB1.out.1.cell]; rfl
    have hset := set_any _ l t w1 HB1.out.2.2 H.out.2.2 ht (by have := H.out.2.1; omega)
    have HS := hid hset
    clear hset
    go_wp2_with fail
    refine HS.out.mono ?_
    rintro e w3 ⟨vx, rfl, hx0, hxn, n3⟩
    obtain ⟨E, hE⟩ : ∃ E, E = setE l t := ⟨_, rfl⟩
    obtain ⟨R, hR⟩ : ∃ R, R = if E = 0 then setL l t else [] := ⟨_, rfl⟩
    have hR17 : R.length ≤ 1000000 := by
      rw [hR]
      split
      · rename_i h0
        have := (may_setL (setE_zero (show setE l t = 0 by omega)).1 (setE_zero (show setE l t = 0 by omega)).2.1 (setE_zero (show setE l t = 0 by omega)).2.2).1
        omega
      · simp
    have hpick : ∀ (W X : World) (v : Value), (setE l t = 0 → Sl X W.heap.size 26 4 v (setL l t).length (flatOf tc (setL l t))) → (setE l t ≠ 0 → v = .slice none 0 0) → LsAt 4 tc X v R := by
      intro W X v h1 h2
      rw [hR]
      by_cases h0 : E = 0
      · rw [if_pos h0]; exact LsAt.of_sl tc_len (h1 (by omega))
      · rw [if_neg h0, h2 (by omega)]; exact LsAt.nil
    have lx := hpick _ _ _ hx0 hxn
    have b3 := HB1.out.1.new_ n3
    have n3 := HB1.out.2.1.step n3
    have h3 := H.out.1.new_ n3
    clear d0 d1 d2 d3 hx0 hxn
    have d0 : w3.cell? ⟨D, 0, none⟩ = some (st t.1) := by rw [b3.cell]; rfl
    have d1 : w3.cell? ⟨D, 1, none⟩ = some (.bool t.2.1) := by rw [b3.cell]; rfl
    have d2 : w3.cell? ⟨D, 2, none⟩ = some (.bool t.2.2.1) := by rw [b3.cell]; rfl
    have d3 : w3.cell? ⟨D, 3, none⟩ = some (.bool t.2.2.2) := by rw [b3.cell]; rfl
    have hst := setterm_any _ l t w3 h3 H.out.2.2 ht (by have := H.out.2.1; omega)
    have HS2 := hid (And.intro hst (And.intro lx (And.intro n3 h3)))
    have HP := hid (And.intro hpick (And.intro hR17 hE))
    rw [← hE]
    clear hst lx b3 n3 h3 hpick hR17 hE hR
    go_wp2_with fail
    refine HS2.out.1.mono ?_
    rintro e w4 ⟨vy, rfl, hy0, hyn, n4⟩
    have ly := HP.out.1 _ _ _ hy0 hyn
    have lx4 := HS2.out.2.1.new_ n4
    rw [← HP.out.2.2]
    have h4 := HS2.out.2.2.2.new_ n4
    have n4 := HS2.out.2.2.1.step n4
    obtain ⟨M, hM⟩ : ∃ M, M = mayL l := ⟨_, rfl⟩
    have hm1 : ∀ X, New w4 X → Calls Try.prog 12 #[.slice a n c] X fun e w' => e = .returned (.bool M) ∧ New X w' := fun X hX => by rw [hM]; exact may_any _ l H.out.2.2 X (h4.new_ hX)
    have hm2 : ∀ X, New w4 X → Calls Try.prog 16 #[.slice a n c] X fun e w' => e = .returned (.bool M) ∧ New X w' := fun X hX => by rw [hM]; exact listmay_any _ l H.out.2.2 X (h4.new_ hX)
    have hsame := fun X (hX : New w4 X) => same_any vx vy R R X (lx4.new_ hX) (ly.new_ hX) HP.out.2.1
    obtain ⟨F, hF⟩ : ∃ F, F = findF l u := ⟨_, rfl⟩
    have hf1 : ∀ X, New w4 X → Calls Try.prog 11 #[.slice a n c, st u] X fun e w' => e = .returned (.agg #[.bool F.1, .bool F.2.1, .bool F.2.2]) ∧ New X w' := fun X hX => (find_any _ l u X (h4.new_ hX) H.out.2.2 (by have := H.out.2.1; omega)).mono fun e w' h => by unfold FindPost at h; rw [← hF] at h; exact h
    have hf2 : ∀ X, New w4 X → Calls Try.prog 17 #[.slice a n c, st u] X fun e w' => e = .returned (.agg #[.bool F.1, .bool F.2.1, .bool F.2.2]) ∧ New X w' := fun X hX => (reffind_any _ l u X (h4.new_ hX) H.out.2.2 (by have := H.out.2.1; omega)).mono fun e w' h => by unfold FindPost at h; rw [← hF] at h; exact h
    have hFF : feq (F.1, F.2.1, F.2.2) (F.1, F.2.1, F.2.2) = true := feq_self _
    have HQ := hid (And.intro hm1 (And.intro hm2 (And.intro hsame (And.intro hf1 (And.intro hf2 (And.intro n4 hM))))))
    have hr4 := New.refl w4
    clear hy0 hyn ly lx4 h4 n4 hm1 hm2 hsame hf1 hf2 hM hF d0 d1 d2 d3
    go_wp2_with fail
    refine (HQ.out.1 _ hr4).mono ?_
    rintro e w5 ⟨rfl, n5⟩
    go_wp2_with fail
    refine (HQ.out.2.1 _ n5).mono ?_
    rintro e w6 ⟨rfl, n6⟩
    have n6 := n5.step n6
    clear n5 hr4
    go_wp2_with fail
    refine (HQ.out.2.2.1 _ n6).mono ?_
    rintro e w7 ⟨rfl, kd, rfl⟩
    rw [decide_eq_true rfl]
    have n7 := n6.drewN kd
    clear n6
    generalize w6.drewN kd = w7 at *
    go_wp2_with fail
    refine (HQ.out.2.2.2.1 _ n7).mono ?_
    rintro e w8 ⟨rfl, n8⟩
    have n8 := n7.step n8
    clear n7
    go_wp2_with fail
    refine (HQ.out.2.2.2.2.1 _ n8).mono ?_
    rintro e w9 ⟨rfl, n9⟩
    have n9 := HQ.out.2.2.2.2.2.1.step (n8.step n9)
    have hd := drop_any (.slice a n c) l u w9 (H.out.1.new_ n9) H.out.2.2 (by have := H.out.2.1; omega)
    have HD := hid (And.intro hd n9)
    clear n8 n9 hd
    go_wp2_with fail
    refine HD.out.1.mono ?_
    rintro e w10 ⟨vz, rfl, hz0, hzn, n10⟩
    obtain ⟨G, hG⟩ : ∃ G, G = dropE l u := ⟨_, rfl⟩
    obtain ⟨Z, hZ⟩ : ∃ Z, Z = if G = 0 then dropL l u else [] := ⟨_, rfl⟩
    have lz : LsAt 4 tc w10 vz Z := by
      rw [hZ]
      by_cases h0 : G = 0
      · rw [if_pos h0]; exact LsAt.of_sl tc_len (hz0 (by omega))
      · rw [if_neg h0, hzn (by omega)]; exact LsAt.nil
    rw [← hG]
    have n10 := HD.out.2.step n10
    have HZ := hid (And.intro lz (And.intro n10 (And.intro hG hZ)))
    clear hz0 hzn lz n10 hG hZ
    go_wp2_with fail
    go_loopw [13, 14] (fun x i wr => ∃ k : Nat, k ≤ n ∧ i = .int .i64 (k : Int) ∧ Sl wr w10.heap.size 26 4 x (dropL (l.take k) u).length (flatOf tc (dropL (l.take k) u)) ∧ New w10 wr) (fun _ i _ => n - (intOf i).toNat)
    case atStart => exact ⟨0, Nat.zero_le _, rfl, Sl.nil _ _ _ _, New.refl _⟩
    case round =>
      obtain ⟨k, hk, rfl, hsl, hnr⟩ := hrel
      have hnw := HZ.out.2.1.step hnr
      by_cases hkn : k < n
      · have w2' : IntKind.i64.wrap ((k : Int) + 1) = k + 1 := by rw [IntKind.wrap_i64]; omega
        obtain ⟨b, o, x, rfl, hx, _, hcell⟩ := (H.out.1.new_ hnw).get hkn
        have c0 := hcell 0 _ rfl
        have c1 := hcell 1 _ rfl
        have c2 := hcell 2 _ rfl
        have c3 := hcell 3 _ rfl
        rw [Nat.add_zero] at c0
        have j0 : (0 : Int) ≤ (k : Int) := by omega
        have j1 : (k : Int) < (n : Int) := by omega
        have hlen : (dropL (l.take k) u).length ≤ 100 := by have := drop_le (l.take k) u; rw [List.length_take] at this; omega
        have hvs := hsl.val
        obtain ⟨m, hm⟩ : ∃ m, m = (dropL (l.take k) u).length := ⟨_, rfl⟩
        rw [← hm] at hlen hvs
        obtain ⟨a3, c3', rfl⟩ := hvs
        have hszr := hnr.size
        have HX := hid (And.intro hx (And.intro hsl (And.intro hnr (And.intro hnw hm))))
        clear hcell hx hnr hnw
        cases hb : (x.1 == u) with
        | true =>
          have hst : Hid (dropL (l.take (k + 1)) u = dropL (l.take k) u) := by
            show _ = _
            rw [List.take_add_one, HX.out.1]
            unfold dropL
            rw [List.filter_append]
            simp [hb]
          clear hsl hm
          go_wp2_with fail
          exact ⟨⟨k + 1, by omega, by go_num, by rw [hst.out]; exact HX.out.2.1, HX.out.2.2.1⟩, by simp [intOf]; omega⟩
        | false =>
          have hst : Hid (dropL (l.take (k + 1)) u = dropL (l.take k) u ++ [x]) := by
            show _ = _
            rw [List.take_add_one, HX.out.1]
            unfold dropL
            rw [List.filter_append]
            simp [hb]
          rw [← hm] at hsl
          have HS3 := hid hsl
          clear hsl hm
          go_wp2_with (at_builtin; refine wpList_append_sl _ rfl (.tmp 88) (.tmp 93) 22 rfl w10.heap.size 26 ti _ 4 24 Try.underlying22 HT.out.1 HT.out.2.1 HT.out.2.2.1 HT.out.2.2.2 rfl (by decide) (.slice a3 m c3') m _ rfl (HS3.out.alloc _) ⟨wr.heap.size, 0, none⟩ 1 1 (tc x) rfl (by decide) rfl (Acl.news_tm (Blk.new wr _ _)) (tc_one x) (by unfold maxLen; omega) (by omega) (by rw [World.size_alloc]; omega) ?_; intro v' w11 hs6 hg6 hb6)
          refine ⟨⟨k + 1, by omega, by go_num, ?_, grown_one HX.out.2.2.1 HS3.out (Nat.le_refl _) hg6⟩, by simp [intOf]; omega⟩
          rw [hst.out]
          exact sl_snoc HX.out.2.2.2.2 hs6
      · have j1 : ¬ (k : Int) < (n : Int) := by omega
        have hk' : l.take k = l := List.take_of_length_le (by have := H.out.2.1; omega)
        rw [hk'] at hsl
        have hvs := hsl.val
        obtain ⟨m, hm⟩ : ∃ m, m = (dropL l u).length := ⟨_, rfl⟩
        rw [← hm] at hvs
        obtain ⟨a3, c3', rfl⟩ := hvs
        have hmn : m ≤ n := by rw [hm, H.out.2.1]; exact drop_le l u
        have lz := HZ.out.1.new_ hnr
        have lr := LsAt.of_sl tc_len hsl
        have hlm := hid (And.intro (H.out.1.new_ hnw) (And.intro lz (And.intro lr (And.intro hnw hm))))
        have hmr := listmay_any _ l H.out.2.2 wr hlm.out.1
        have HMR := hid hmr
        clear hsl hnr hnw hk' hm lz lr hmr
        go_wp2_with fail
        refine HMR.out.mono ?_
        rintro e w12 ⟨rfl, n12⟩
        have hM := HQ.out.2.2.2.2.2.2
        cases hmay : mayL l with
        | false =>
          have e1 : G = 1 := by rw [HZ.out.2.2.1]; exact dropE_arg (mayL_no.1 hmay)
          have e2 : Z = [] := by rw [HZ.out.2.2.2, if_neg (by omega)]
          have lz := hlm.out.2.1.new_ n12
          rw [e2] at lz
          obtain ⟨az, cz, hvz, _⟩ := lz
          rw [List.length_nil] at hvz
          subst hvz
          subst e1
          clear hmay hM e2
          go_wp2_with fail
          go_ret
          exact ⟨rfl, hlm.out.2.2.2.1.step n12⟩
        | true =>
          have hmp := mayL_iff.1 hmay
          cases hh : hasB l u with
          | false =>
            have e1 : G = 4 := by rw [HZ.out.2.2.1]; exact dropE_none hmp hh
            have e2 : Z = [] := by rw [HZ.out.2.2.2, if_neg (by omega)]
            have e3 : m = n := by rw [hlm.out.2.2.2.2, H.out.2.1]; exact drop_len.2 hh
            have lz := hlm.out.2.1.new_ n12
            rw [e2] at lz
            obtain ⟨az, cz, hvz, _⟩ := lz
            rw [List.length_nil] at hvz
            subst hvz
            subst e1 e3
            clear hmay hM e2 hmp hh
            go_wp2_with fail
            go_ret
            exact ⟨rfl, hlm.out.2.2.2.1.step n12⟩
          | true =>
            have e1 : G = 0 := by rw [HZ.out.2.2.1]; exact dropE_yes hmp hh
            have e2 : Z = dropL l u := by rw [HZ.out.2.2.2, if_pos e1]
            have e3 : ¬ m = n := fun e => by
              have := drop_len.1 (show (dropL l u).length = l.length by have := hlm.out.2.2.2.2; have := H.out.2.1; omega)
              rw [hh] at this; cases this
            have e4 : ¬ (m : Int) = (n : Int) := by omega
            have hsm := same_any vz (.slice a3 m c3') (dropL l u) (dropL l u) w12 (by have := hlm.out.2.1.new_ n12; rw [e2] at this; exact this) (hlm.out.2.2.1.new_ n12) (by have := hlm.out.2.2.2.2; omega)
            have HSM := hid hsm
            subst e1
            clear hmay hM e2 hmp hh hsm
            go_wp2_with fail
            refine HSM.out.mono ?_
            rintro e w13 ⟨rfl, kd, rfl⟩
            rw [decide_eq_true rfl]
            go_wp2_with fail
            go_ret
            exact ⟨rfl, (hlm.out.2.2.2.1.step n12).drewN kd⟩
theorem aclLists_row {H : Type} {enc : TypeId × Value → H} (W : World) {base : Nat}
    (v0 : Value) (d0 : DataW H) (p0 : List MemPlace) (k0 : Value.okWide Try.prog W .any base 22 v0) (h0 : DataW.Trod enc Try.prog W 0 (fun _ => true) true 22 v0 d0 p0) (l0 : ∀ x ∈ p0, x.block < W.heap.size)
    (v1 : Value) (d1 : DataW H) (p1 : List MemPlace) (k1 : Value.okWide Try.prog W .any base 26 v1) (h1 : DataW.Trod enc Try.prog W 0 (fun _ => true) true 26 v1 d1 p1) (l1 : ∀ x ∈ p1, x.block < W.heap.size)
    (v2 : Value) (d2 : DataW H) (p2 : List MemPlace) (k2 : Value.okWide Try.prog W .any base 9 v2) (h2 : DataW.Trod enc Try.prog W 0 (fun _ => true) true 9 v2 d2 p2) (l2 : ∀ x ∈ p2, x.block < W.heap.size)
    : Calls Try.prog 6 #[v0, v1, v2] W fun e W' => e = .returned (.bool true) ∧ Below W.heap.size W W' := by
  obtain ⟨l, hl, hu⟩ := open_terms k0 h0
  obtain ⟨t, rfl, ht⟩ := open_term k1 h1
  obtain ⟨s, rfl, _, _, hs⟩ := open_string Try.underlying9 k2 h2
  exact aclLists_walk v0 l t s.data.toList W hl hu ht (by unfold maxLen at hs; simpa using hs)
end Go.Proofs.Ytaapfkfijahbmaa.Law
