/- The contracts of slices.Clone, BinarySearchFunc, Insert at terms. -/
import Derived.Test.YtaapfkfijahbmaaAcl
import Derived.Lib.Overlaps
import Derived.Lib.AppendZeros
import Derived.Lib.AppendZerosOnto
import Derived.Laws.IdiomCopy
namespace Go.Proofs.Ytaapfkfijahbmaa.Acl
open Go Go.RowKit Go.Proofs.Ytaapfkfijahbmaa.Kit Go.Proofs.Ytaapfkfijahbmaa.Str Go.Proofs.Ytaapfkfijahbmaa.Term Go.Proofs.Ytaapfkfijahbmaa.Names
set_option linter.unusedSimpArgs false
set_option linter.unusedVariables false
theorem term_info : (Try.prog.info? 26).map (fun i => (i.zero, i.size, i.bytes)) = some (some (.agg #[.string ⟨#[]⟩, .bool false, .bool false, .bool false]), 4, 24) := by kernel_rfl
theorem run_append_zero {P : Program} (w : World) (t ty e : TypeId) (i : TypeInfo) (ht : P.underlying t = some (.slice e)) (hi : P.info? e = some i) (a b : Addr) (c : Nat) :
    (Builtin.append_ #[t, t] ty #[.slice (some a) 0 0, .slice (some b) 0 c]).run P w = .ok (.slice (some a) 0 0) w := by
  simp [Builtin.append_, run_underlying ht, sizeOf, typeInfo, hi, Builtin.lenOf, Builtin.firstCells, loadCells, loadCellsFrom, storeCells, Result.andThen]
theorem Sl.of_blk4 {w : World} {g base k : Nat} {e : TypeId} (h : Blk w g e #[]) (hb : base ≤ g := by exact Nat.le_refl _) : Sl w base e k (.slice (some ⟨g, 0, none⟩) 0 0) 0 [] :=
  ⟨by simp, .inr ⟨g, 0, 0, #[], rfl, hb, h, Nat.le_refl _, Nat.zero_le _, by simp, by simp⟩⟩
set_option maxRecDepth 100000 in
set_option maxHeartbeats 1000000 in
theorem clone_any (v : Value) (l : List Tm) (w : World) (h : LsAt 4 tc w v l) (hl : l.length ≤ 1000000) :
    Calls Try.prog 20 #[v] w fun e w' => ∃ v', e = .returned v' ∧ Sl w' w.heap.size 26 4 v' l.length (flatOf tc l) ∧ New w w' := by
  obtain ⟨ti, hi, hzz⟩ := Option.map_eq_some_iff.1 term_info
  simp only [Prod.mk.injEq] at hzz
  obtain ⟨a, c, rfl, hlc, hcm, hcell⟩ := h
  have hnil := fun w a n c => Lib.run_eql_slice_nil (P := Try.prog) w 22 26 a n c 0 0 Try.underlying22
  obtain ⟨n, hn⟩ : ∃ n, n = l.length := ⟨_, rfl⟩
  rw [← hn] at hlc hcell hl ⊢
  cases a with
  | none =>
    have h0 : n = 0 := by
      rcases Nat.eq_zero_or_pos n with h | h
      · exact h
      · obtain ⟨b, o, e, _⟩ := hcell h; cases e
    subst h0
    have hl0 : l = [] := List.eq_nil_of_length_eq_zero hn.symm
    subst hl0
    clear hn hcell hi hzz
    go_enter Try.func20, Try.ntmps20
    go_wp2
    go_ret
    exact ⟨_, rfl, Sl.nil _ _ _ _, New.refl _⟩
  | some ad =>
    have HT := hid (And.intro hi hzz)
    rcases Nat.eq_zero_or_pos n with h0 | h0
    · subst h0
      have hl0 : l = [] := List.eq_nil_of_length_eq_zero hn.symm
      subst hl0
      have hq := fun W a => run_append_zero (P := Try.prog) W 22 22 26 ti Try.underlying22 hi a ad c
      clear hn hcell hi hzz
      go_enter Try.func20, Try.ntmps20
      go_wp2_with (at_builtin; refine Lib.wpList_append_run _ rfl _ _ _ _ rfl _ _ rfl rfl _ _ (hq _ _) ?_)
      go_wp2
      go_ret
      refine ⟨_, rfl, ?_, (New.refl w).alloc _⟩
      exact Sl.of_blk4 (Blk.new w 26 #[])
    · obtain ⟨b, o, hab, hb, hcl⟩ := hcell h0
      cases hab
      have hsl : Sl (w.alloc (.cells #[] 26)) w.heap.size 26 4 (.slice (some ⟨w.heap.size, 0, none⟩) 0 0) 0 [] := Sl.of_blk4 (Blk.new w 26 #[])
      have hnews : ∀ j u, (flatOf tc l)[j]? = some u → (w.alloc (.cells #[] 26)).cell? ((⟨b, o, none⟩ : Addr).add j) = some u := by
        intro j u hu
        have hj : j < l.length * 4 := by rw [← flatOf_len tc_len]; exact (List.getElem?_eq_some_iff.1 hu).1
        have hx : l[j / 4]? = some (l[j / 4]'(by omega)) := List.getElem?_eq_getElem (by omega)
        have hy : (tc (l[j / 4]'(by omega)))[j % 4]? = some u := by
          have h4 : j % 4 < (tc (l[j / 4]'(by omega))).length := by rw [tc_len]; omega
          have := flatOf_get tc_len hx (List.getElem?_eq_getElem h4)
          rw [show j / 4 * 4 + j % 4 = j by omega, hu] at this
          rw [List.getElem?_eq_getElem h4, this]
        have := ((New.refl w).alloc (.cells #[] 26)).cellK (hcl _ _ hx _ _ hy)
        rw [Addr.add_lit, show o + j = o + j / 4 * 4 + j % 4 by omega]
        exact this
      have hone : ∀ u ∈ flatOf tc l, u.oneCell' = true := by
        intro u hu
        obtain ⟨x, _, hx⟩ := List.mem_flatMap.1 hu
        exact tc_one x u hx
      have hlen := flatOf_len (f := tc) tc_len l
      rw [← hn] at hlen
      have R := hid (And.intro hsl (And.intro hnews (And.intro hone hlen)))
      clear hsl hnews hone hlen hcell hcl hi hzz hn
      go_enter Try.func20, Try.ntmps20
      go_wp2_with (at_builtin; refine wpList_append_sl _ rfl (.tmp 5) (.tmp 6) 22 rfl w.heap.size 26 ti _ 4 24 Try.underlying22 HT.out.1 HT.out.2.1 HT.out.2.2.1 HT.out.2.2.2 rfl (by decide) (.slice (some ⟨w.heap.size, 0, none⟩) 0 0) 0 _ rfl R.out.1 ⟨b, o, none⟩ n c (flatOf tc l) rfl h0 R.out.2.2.2 R.out.2.1 R.out.2.2.1 (by unfold maxLen; omega) (by omega) (by rw [World.size_alloc]; omega) ?_; intro v' w3 hs3 hg3 hb3)
      rw [Nat.zero_add, List.nil_append] at hs3
      have hnw : New w w3 := New.grown ((New.refl w).alloc _) hg3 (fun k hk => by cases hk; exact Nat.le_refl _)
      have R2 := hid (And.intro hs3 hnw)
      clear hs3 hg3 hb3 hnw
      go_wp2
      go_ret
      exact ⟨_, rfl, R2.out.1, R2.out.2⟩
/-- A list in order: what lies ahead of a place is less. -/
def Asc (l : List Tm) : Prop := ∀ (i : Nat) (t s : Tm), 0 < i → l[i]? = some t → l[i - 1]? = some s → ltB s.1 t.1 = true
theorem Asc.lt {l : List Tm} (h : Asc l) : ∀ (d i : Nat) (s t : Tm), l[i]? = some s → l[i + d + 1]? = some t → ltB s.1 t.1 = true
  | 0, i, s, t, hs, ht => h (i + 0 + 1) t s (by omega) ht (by simpa using hs)
  | d + 1, i, s, t, hs, ht => by
    have hlt : i + d + 1 < l.length := by have := (List.getElem?_eq_some_iff.1 ht).1; omega
    have hm := List.getElem?_eq_getElem hlt
    exact ltB_trans (h.lt d i s _ hs hm) (h (i + (d + 1) + 1) t _ (by omega) ht (by rw [show i + (d + 1) + 1 - 1 = i + d + 1 by omega]; exact hm))
/-- The place of a user. -/
def Spot (l : List Tm) (u : List UInt8) (i : Nat) (ok : Bool) : Prop :=
  i ≤ l.length ∧ (∀ q x, q < i → l[q]? = some x → ltB x.1 u = true) ∧ (∀ q x, i ≤ q → l[q]? = some x → ltB x.1 u = false) ∧ (ok = true ↔ ∃ x, l[i]? = some x ∧ x.1 = u)
set_option maxRecDepth 100000 in
set_option maxHeartbeats 4000000 in
theorem search_any (v : Value) (l : List Tm) (t : Tm) (w : World) (h : LsAt 4 tc w v l) (ha : Asc l) (hl : l.length ≤ 1000000) :
    Calls Try.prog 21 #[v, tv t, .func (.func 22) #[] #[]] w fun e w' => (∃ i ok, e = .returned (.tuple #[.int .i64 ((i : Nat) : Int), .bool ok]) ∧ Spot l t.1 i ok) ∧ New w w' := by
  have hcells := h
  obtain ⟨a, c, rfl, hlc, hcm, _⟩ := h
  unfold maxLen at hcm
  obtain ⟨n, hn⟩ : ∃ n, n = l.length := ⟨_, rfl⟩
  rw [← hn] at hlc hl ⊢
  have H := hid (And.intro hcells (And.intro ha hn))
  have hB := Blk.new w 26 #[st t.1, .bool t.2.1, .bool t.2.2.1, .bool t.2.2.2]
  have hnB := (New.refl w).alloc (.cells #[st t.1, .bool t.2.1, .bool t.2.2.1, .bool t.2.2.2] 26)
  have A := hid (And.intro hB hnB)
  clear hcells hn ha hB hnB
  go_enter Try.func21, Try.ntmps21
  go_wp2_with fail
  go_loopw [9, 10] (fun i j wr => ∃ p q : Nat, p ≤ q ∧ q ≤ n ∧ i = .int .i64 (p : Int) ∧ j = .int .i64 (q : Int) ∧ (∀ k x, k < p → l[k]? = some x → ltB x.1 t.1 = true) ∧ (∀ k x, q ≤ k → l[k]? = some x → ltB x.1 t.1 = false) ∧ New (w.alloc (.cells #[st t.1, .bool t.2.1, .bool t.2.2.1, .bool t.2.2.2] 26)) wr) (fun i j _ => (intOf j).toNat - (intOf i).toNat)
  case atStart => exact ⟨0, n, Nat.zero_le _, Nat.le_refl _, rfl, rfl, fun k x hk => absurd hk (by omega), fun k x hk hx => absurd (List.getElem?_eq_some_iff.1 hx).1 (by have := H.out.2.2; omega), New.refl _⟩
  case round =>
    obtain ⟨p, q, hpq, hqn, rfl, rfl, hlo, hhi, hnr⟩ := hrel
    have hnw := A.out.2.step hnr
    have hbx := A.out.1.new_ hnr
    have d0 : wr.cell? ⟨w.heap.size, 0, none⟩ = some (st t.1) := by rw [hbx.cell]; rfl
    have d1 : wr.cell? ⟨w.heap.size, 1, none⟩ = some (.bool t.2.1) := by rw [hbx.cell]; rfl
    have d2 : wr.cell? ⟨w.heap.size, 2, none⟩ = some (.bool t.2.2.1) := by rw [hbx.cell]; rfl
    have d3 : wr.cell? ⟨w.heap.size, 3, none⟩ = some (.bool t.2.2.2) := by rw [hbx.cell]; rfl
    have HX := hid (And.intro hlo (And.intro hhi (And.intro hnr (And.intro hnw hbx))))
    clear hlo hhi hnr hnw hbx
    by_cases hlt : p < q
    · obtain ⟨m, hm⟩ : ∃ m : Nat, m = (p + q) / 2 := ⟨_, rfl⟩
      have hm1 : p ≤ m := by omega
      have hm2 : m < q := by omega
      obtain ⟨b, o, c', x, hv, _, _, hx, hcell⟩ := (H.out.1.new_ HX.out.2.2.2.1).at (i := m) (by rw [← H.out.2.2]; omega)
      injection hv with hv1 _ hv3
      subst hv1
      have c0 := hcell 0 _ rfl
      have c1 := hcell 1 _ rfl
      have c2 := hcell 2 _ rfl
      have c3 := hcell 3 _ rfl
      rw [Nat.add_zero] at c0
      have i0 : (0 : Int) ≤ (m : Int) := by omega
      have i1 : (m : Int) < (n : Int) := by omega
      have e1 : IntKind.i64.wrap ((p : Int) + q) = (p : Int) + q := by rw [IntKind.wrap_i64]; omega
      have e2 : IntKind.u64.wrap ((p : Int) + q) = (p : Int) + q := by rw [IntKind.wrap_u64]; omega
      have e3 : ((p : Int) + q) / 2 = (m : Int) := by omega
      have e4 : IntKind.i64.wrap (m : Int) = (m : Int) := by rw [IntKind.wrap_i64]; omega
      have e5 : IntKind.i64.wrap ((m : Int) + 1) = (m : Int) + 1 := by rw [IntKind.wrap_i64]; omega
      have hlt' : (p : Int) < (q : Int) := by omega
      have HM := hid (And.intro hm hx)
      clear hm hx hcell hv3
      have hC := fun X => compare_any x t X
      rcases cmp_val x.1 t.1 with ⟨hv, hc⟩ | ⟨hv, hc⟩ | ⟨hv, hc⟩
      · rw [hc] at hC
        have HV := hid hv
        clear hv hc
        go_wp2_with fail
        refine wp_region_quiet (C := fun w' => New wr w') (by kernel_rfl) (by kernel_rfl) (New.refl wr).drew ?_
        simp only [List.toList_toArray]
        repeat (first
          | go_big_quiet_skip
          | (go_big_quiet_want
             apply Exists.intro
             refine ⟨fun w' hw' => ?_, ?_⟩
             · have d0_ := hw'.cellK d0; have d1_ := hw'.cellK d1; have d2_ := hw'.cellK d2; have d3_ := hw'.cellK d3; have c0_ := hw'.cellK c0; have c1_ := hw'.cellK c1; have c2_ := hw'.cellK c2; have c3_ := hw'.cellK c3; go_simp; first | (with_reducible rfl) | (go_at_call 22; with_reducible exact ((hC _).mono (fun e w2 h => ⟨h.1, hw'.step h.2⟩)))
             go_big_quiet_on
             try simp only [Act.put, List.setIfInBounds_toArray, List.set_cons_zero, List.set_cons_succ]))
        refine wpQuiet_nil ?_
        intro wQ hwQ
        go_wp2_with fail
        refine ⟨⟨m + 1, q, by omega, hqn, by go_num, rfl, fun k y hk hy => ?_, HX.out.2.1, HX.out.2.2.1.step hwQ⟩, by simp [intOf]; omega⟩
        by_cases e : k = m
        · rw [e, HM.out.2] at hy
          cases hy
          exact HV.out
        · have := H.out.2.1.lt (m - k - 1) k y x hy (by rw [show k + (m - k - 1) + 1 = m by omega]; exact HM.out.2)
          exact ltB_trans this HV.out
      all_goals
        rw [hc] at hC
        have HV : Hid (ltB x.1 t.1 = false) := by
          cases hb : ltB x.1 t.1 with
          | false => exact rfl
          | true => rw [cmp_lt.2 hb] at hc; cases hc
        clear hv hc
        go_wp2_with fail
        refine wp_region_quiet (C := fun w' => New wr w') (by kernel_rfl) (by kernel_rfl) (New.refl wr).drew ?_
        simp only [List.toList_toArray]
        repeat (first
          | go_big_quiet_skip
          | (go_big_quiet_want
             apply Exists.intro
             refine ⟨fun w' hw' => ?_, ?_⟩
             · have d0_ := hw'.cellK d0; have d1_ := hw'.cellK d1; have d2_ := hw'.cellK d2; have d3_ := hw'.cellK d3; have c0_ := hw'.cellK c0; have c1_ := hw'.cellK c1; have c2_ := hw'.cellK c2; have c3_ := hw'.cellK c3; go_simp; first | (with_reducible rfl) | (go_at_call 22; with_reducible exact ((hC _).mono (fun e w2 h => ⟨h.1, hw'.step h.2⟩)))
             go_big_quiet_on
             try simp only [Act.put, List.setIfInBounds_toArray, List.set_cons_zero, List.set_cons_succ]))
        refine wpQuiet_nil ?_
        intro wQ hwQ
        go_wp2_with fail
        refine ⟨⟨p, m, hm1, by omega, rfl, rfl, HX.out.1, fun k y hk hy => ?_, HX.out.2.2.1.step hwQ⟩, by simp [intOf]; omega⟩
        by_cases e : k = m
        · rw [e, HM.out.2] at hy
          cases hy
          exact HV.out
        · have := H.out.2.1.lt (k - m - 1) m x y HM.out.2 (by rw [show m + (k - m - 1) + 1 = k by omega]; exact hy)
          cases hb : ltB y.1 t.1 with
          | false => rfl
          | true => rw [ltB_trans this hb] at HV; exact HV.out
    · have hpe : p = q := by omega
      subst hpe
      have hlt' : ¬ (p : Int) < (p : Int) := by omega
      by_cases hpn : p < n
      · obtain ⟨b, o, c', x, hv, _, _, hx, hcell⟩ := (H.out.1.new_ HX.out.2.2.2.1).at (i := p) (by rw [← H.out.2.2]; omega)
        injection hv with hv1 _ hv3
        subst hv1
        have c0 := hcell 0 _ rfl
        have c1 := hcell 1 _ rfl
        have c2 := hcell 2 _ rfl
        have c3 := hcell 3 _ rfl
        rw [Nat.add_zero] at c0
        have i0 : (0 : Int) ≤ (p : Int) := by omega
        have i1 : (p : Int) < (n : Int) := by omega
        have i2 : decide (p < n) = true := decide_eq_true hpn
        have hC := fun X => compare_any x t X
        have HS : Hid (∀ ok : Bool, (ok = true ↔ x.1 = t.1) → Spot l t.1 p ok) := fun ok hok =>
          ⟨by have := H.out.2.2; omega, HX.out.1, HX.out.2.1, hok.trans ⟨fun h => ⟨x, hx, h⟩, fun ⟨y, hy, h⟩ => by rw [hx] at hy; cases hy; exact h⟩⟩
        clear hx hcell hv3 hlt
        rcases cmp_val x.1 t.1 with ⟨hv, hc⟩ | ⟨hv, hc⟩ | ⟨hv, hc⟩
        · rw [hc] at hC
          have HV := hid (ltB_ne hv)
          clear hv hc
          go_wp2_with fail
          refine wp_region_quiet (C := fun w' => New wr w') (by kernel_rfl) (by kernel_rfl) (New.refl wr).drew ?_
          simp only [List.toList_toArray]
          repeat (first
            | go_big_quiet_skip
            | (go_big_quiet_want
               apply Exists.intro
               refine ⟨fun w' hw' => ?_, ?_⟩
               · have d0_ := hw'.cellK d0; have d1_ := hw'.cellK d1; have d2_ := hw'.cellK d2; have d3_ := hw'.cellK d3; have c0_ := hw'.cellK c0; have c1_ := hw'.cellK c1; have c2_ := hw'.cellK c2; have c3_ := hw'.cellK c3; go_simp; first | (with_reducible rfl) | (go_at_call 22; with_reducible exact ((hC _).mono (fun e w2 h => ⟨h.1, hw'.step h.2⟩)))
               go_big_quiet_on
               try simp only [Act.put, List.setIfInBounds_toArray, List.set_cons_zero, List.set_cons_succ]))
          refine wpQuiet_nil ?_
          intro wQ hwQ
          go_wp2_with fail
          go_ret2
          exact ⟨⟨p, false, rfl, HS.out _ ⟨fun h => (by cases h), fun h => absurd h HV.out⟩⟩, HX.out.2.2.2.1.step hwQ⟩
        · rw [hc] at hC
          have HV := hid hv
          clear hv hc
          go_wp2_with fail
          refine wp_region_quiet (C := fun w' => New wr w') (by kernel_rfl) (by kernel_rfl) (New.refl wr).drew ?_
          simp only [List.toList_toArray]
          repeat (first
            | go_big_quiet_skip
            | (go_big_quiet_want
               apply Exists.intro
               refine ⟨fun w' hw' => ?_, ?_⟩
               · have d0_ := hw'.cellK d0; have d1_ := hw'.cellK d1; have d2_ := hw'.cellK d2; have d3_ := hw'.cellK d3; have c0_ := hw'.cellK c0; have c1_ := hw'.cellK c1; have c2_ := hw'.cellK c2; have c3_ := hw'.cellK c3; go_simp; first | (with_reducible rfl) | (go_at_call 22; with_reducible exact ((hC _).mono (fun e w2 h => ⟨h.1, hw'.step h.2⟩)))
               go_big_quiet_on
               try simp only [Act.put, List.setIfInBounds_toArray, List.set_cons_zero, List.set_cons_succ]))
          refine wpQuiet_nil ?_
          intro wQ hwQ
          go_wp2_with fail
          go_ret2
          exact ⟨⟨p, true, rfl, HS.out _ ⟨fun _ => HV.out, fun _ => rfl⟩⟩, HX.out.2.2.2.1.step hwQ⟩
        · rw [hc] at hC
          have HV := hid (fun e : x.1 = t.1 => ltB_ne hv e.symm)
          clear hv hc
          go_wp2_with fail
          refine wp_region_quiet (C := fun w' => New wr w') (by kernel_rfl) (by kernel_rfl) (New.refl wr).drew ?_
          simp only [List.toList_toArray]
          repeat (first
            | go_big_quiet_skip
            | (go_big_quiet_want
               apply Exists.intro
               refine ⟨fun w' hw' => ?_, ?_⟩
               · have d0_ := hw'.cellK d0; have d1_ := hw'.cellK d1; have d2_ := hw'.cellK d2; have d3_ := hw'.cellK d3; have c0_ := hw'.cellK c0; have c1_ := hw'.cellK c1; have c2_ := hw'.cellK c2; have c3_ := hw'.cellK c3; go_simp; first | (with_reducible rfl) | (go_at_call 22; with_reducible exact ((hC _).mono (fun e w2 h => ⟨h.1, hw'.step h.2⟩)))
               go_big_quiet_on
               try simp only [Act.put, List.setIfInBounds_toArray, List.set_cons_zero, List.set_cons_succ]))
          refine wpQuiet_nil ?_
          intro wQ hwQ
          go_wp2_with fail
          go_ret2
          exact ⟨⟨p, false, rfl, HS.out _ ⟨fun h => (by cases h), fun h => absurd h HV.out⟩⟩, HX.out.2.2.2.1.step hwQ⟩
      · have i1 : ¬ (p : Int) < (n : Int) := by omega
        have i2 : decide (p < n) = false := decide_eq_false hpn
        have HS : Hid (Spot l t.1 p false) := ⟨by have := H.out.2.2; omega, HX.out.1, HX.out.2.1, fun h => (by cases h), fun ⟨y, hy, h⟩ => absurd (List.getElem?_eq_some_iff.1 hy).1 (by have := H.out.2.2; omega)⟩
        clear hlt
        go_wp2_with fail
        refine wp_region_quiet (C := fun w' => New wr w') (by kernel_rfl) (by kernel_rfl) (New.refl wr).drew ?_
        simp only [List.toList_toArray]
        repeat (first
          | go_big_quiet_skip
          | (go_big_quiet_want
             apply Exists.intro
             refine ⟨fun w' hw' => ?_, ?_⟩
             · have d0_ := hw'.cellK d0; have d1_ := hw'.cellK d1; have d2_ := hw'.cellK d2; have d3_ := hw'.cellK d3; go_simp; first | (with_reducible rfl)
             go_big_quiet_on
             try simp only [Act.put, List.setIfInBounds_toArray, List.set_cons_zero, List.set_cons_succ]))
        refine wpQuiet_nil ?_
        intro wQ hwQ
        go_wp2_with fail
        go_ret2
        exact ⟨⟨p, false, rfl, HS.out⟩, HX.out.2.2.2.1.step hwQ⟩
end Go.Proofs.Ytaapfkfijahbmaa.Acl
