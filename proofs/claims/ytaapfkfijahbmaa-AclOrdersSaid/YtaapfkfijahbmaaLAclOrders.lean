/- The walk of AclOrders. -/
import Derived.Test.YtaapfkfijahbmaaAclPure
import Derived.Test.YtaapfkfijahbmaaAclOpen
import Derived.Test.YtaapfkfijahbmaaAclRefS
namespace Go.Proofs.Ytaapfkfijahbmaa.Law
open Go Go.RowKit Go.ChangeShapes Go.WideShapes Go.Proofs.Ytaapfkfijahbmaa.Kit Go.Proofs.Ytaapfkfijahbmaa.Str Go.Proofs.Ytaapfkfijahbmaa.Term Go.Proofs.Ytaapfkfijahbmaa.Acl Go.Proofs.Ytaapfkfijahbmaa.Open
set_option linter.unusedSimpArgs false
set_option linter.unusedVariables false
/-- What the list of the terms that are set has behind k rounds. -/
def Good (l : List Tm) (k : Nat) (S : List Tm) : Prop :=
  S.length ≤ k ∧ (∀ x ∈ S, userB x.1 = true ∧ x.1.length ≤ 9223372036854775807 ∧ ∃ (q : Nat) (y : Tm), q < k ∧ l[q]? = some y ∧ y.1 = x.1) ∧ S.Pairwise (fun a b => a.1 ≠ b.1)
theorem Good.skip {l S : List Tm} {k : Nat} (h : Good l k S) : Good l (k + 1) S :=
  ⟨by have := h.1; omega, fun x hx => by obtain ⟨h1, h2, q, y, hq, r⟩ := h.2.1 x hx; exact ⟨h1, h2, q, y, by omega, r⟩, h.2.2⟩
/-- No earlier one has the user. -/
def Fresh (l : List Tm) (u : List UInt8) (k : Nat) : Prop := ∀ (q : Nat) (y : Tm), q < k → l[q]? = some y → y.1 ≠ u
theorem Good.take {l S : List Tm} {k : Nat} {t : Tm} (h : Good l k S) (ht : l[k]? = some t) (hu : userB t.1 = true) (hl : t.1.length ≤ 9223372036854775807) (hf : Fresh l t.1 k) : Good l (k + 1) (S ++ [t]) := by
  refine ⟨by rw [List.length_append]; have := h.1; simp; omega, fun x hx => ?_, ?_⟩
  · rcases List.mem_append.1 hx with hx | hx
    · exact h.skip.2.1 x hx
    · rw [List.mem_singleton.1 hx]
      exact ⟨hu, hl, k, t, by omega, ht, rfl⟩
  · rw [List.pairwise_append]
    refine ⟨h.2.2, List.pairwise_singleton _ _, fun a ha b hb => ?_⟩
    rw [List.mem_singleton.1 hb]
    obtain ⟨_, _, q, y, hq, hy, e⟩ := h.2.1 a ha
    rw [← e]
    exact hf q y hq hy
/-- The place of the other order. -/
def oth (n t q : Nat) : Nat := (n - 1 - q + t) % n
theorem oth_lt {n t q : Nat} (h : q < n) : oth n t q < n := Nat.mod_lt _ (by omega)
theorem oth_onto {n t i : Nat} (h : i < n) : ∃ q, q < n ∧ oth n t q = i := by
  refine ⟨(n - 1 + t + (n - i)) % n, Nat.mod_lt _ (by omega), ?_⟩
  unfold oth
  obtain ⟨s, hs⟩ : ∃ s, s = (n - 1 + t + (n - i)) % n := ⟨_, rfl⟩
  rw [← hs]
  have hsn : s < n := by rw [hs]; exact Nat.mod_lt _ (by omega)
  have hdm := Nat.div_add_mod (n - 1 + t + (n - i)) n
  rw [← hs] at hdm
  -- n - 1 - s + t = i + n * (d - 1)
  obtain ⟨d, hd⟩ : ∃ d, d = (n - 1 + t + (n - i)) / n := ⟨_, rfl⟩
  rw [← hd] at hdm
  have h1 : 1 ≤ d := by
    rcases Nat.eq_zero_or_pos d with e | e
    · rw [e, Nat.mul_zero] at hdm; omega
    · exact e
  obtain ⟨d', rfl⟩ : ∃ d', d = d' + 1 := ⟨d - 1, by omega⟩
  rw [Nat.mul_add, Nat.mul_one] at hdm
  have e : n - 1 - s + t = i + n * d' := by omega
  rw [e, Nat.add_mul_mod_self_left, Nat.mod_eq_of_lt h]
/-- What the two lists hold behind i rounds. -/
def Two (S A B : List Tm) (t i : Nat) : Prop :=
  MayP A ∧ MayP B ∧ A.length = i ∧ B.length ≤ i ∧ (∀ x, x ∈ A ↔ ∃ q, q < i ∧ S[q]? = some x) ∧ (∀ x, x ∈ B ↔ ∃ q, q < i ∧ S[oth S.length t q]? = some x)
theorem Two.start (S : List Tm) (t : Nat) : Two S [] [] t 0 :=
  ⟨mayL_iff.1 mayL_nil, mayL_iff.1 mayL_nil, rfl, Nat.le_refl _, fun x => ⟨fun h => by simp at h, fun ⟨q, h, _⟩ => absurd h (by omega)⟩, fun x => ⟨fun h => by simp at h, fun ⟨q, h, _⟩ => absurd h (by omega)⟩⟩
theorem distinct {S : List Tm} (h : S.Pairwise (fun a b => a.1 ≠ b.1)) {i j : Nat} {a b : Tm} (ha : S[i]? = some a) (hb : S[j]? = some b) (e : a.1 = b.1) : i = j := by
  obtain ⟨hi, rfl⟩ := List.getElem?_eq_some_iff.1 ha
  obtain ⟨hj, rfl⟩ := List.getElem?_eq_some_iff.1 hb
  rw [List.pairwise_iff_getElem] at h
  rcases Nat.lt_trichotomy i j with h1 | h1 | h1
  · exact absurd e (h i j hi hj h1)
  · exact h1
  · exact absurd e.symm (h j i hj hi h1)
theorem Two.step {S A B : List Tm} {t i : Nat} {x y : Tm} (h : Two S A B t i) (hS : S.Pairwise (fun a b => a.1 ≠ b.1)) (hu : ∀ x ∈ S, userB x.1 = true) (h16 : S.length ≤ 16) (hx : S[i]? = some x) (hy : S[oth S.length t i]? = some y) :
    setE A x = 0 ∧ setE B y = 0 ∧ Two S (setL A x) (setL B y) t (i + 1) := by
  obtain ⟨h1, h2, h3, h4, h5, h6⟩ := h
  have hi := (List.getElem?_eq_some_iff.1 hx).1
  have hux := hu x (List.mem_of_getElem? hx)
  have huy := hu y (List.mem_of_getElem? hy)
  have hE : ∀ {A : List Tm} {x : Tm}, MayP A → userB x.1 = true → A.length < 16 → setE A x = 0 := fun h1 h2 h3 => by
    unfold setE; rw [if_pos (mayL_iff.2 h1), if_pos h2, if_pos (.inr h3)]
  refine ⟨hE h1 hux (by omega), hE h2 huy (by omega), may_setL h1 hux (.inr (by omega)), may_setL h2 huy (.inr (by omega)), ?_, ?_, fun z => ?_, fun z => ?_⟩
  · have hno : hasB A x.1 = false := by
      unfold hasB
      rw [List.any_eq_false]
      intro z hz
      obtain ⟨q, hq, hzq⟩ := (h5 z).1 hz
      have : z.1 ≠ x.1 := fun e => by have := distinct hS hzq hx e; omega
      simpa using this
    rw [(len_setL (MayP.srt h1)).2 hno, h3]
  · have := len_setL (t := y) (MayP.srt h2)
    cases hb : hasB B y.1 with
    | true => rw [this.1 hb]; omega
    | false => rw [this.2 hb]; omega
  · rw [mem_setL]
    constructor
    · rintro (rfl | ⟨hz, _⟩)
      · exact ⟨i, by omega, hx⟩
      · obtain ⟨q, hq, hzq⟩ := (h5 z).1 hz
        exact ⟨q, by omega, hzq⟩
    · rintro ⟨q, hq, hzq⟩
      by_cases e : q = i
      · rw [e, hx] at hzq
        exact .inl (Option.some.inj hzq).symm
      · exact .inr ⟨(h5 z).2 ⟨q, by omega, hzq⟩, fun e2 => e (distinct hS hzq hx e2)⟩
  · rw [mem_setL]
    constructor
    · rintro (rfl | ⟨hz, _⟩)
      · exact ⟨i, by omega, hy⟩
      · obtain ⟨q, hq, hzq⟩ := (h6 z).1 hz
        exact ⟨q, by omega, hzq⟩
    · rintro ⟨q, hq, hzq⟩
      by_cases e2 : z.1 = y.1
      · left
        have := distinct hS hzq hy e2
        rw [this, hy] at hzq
        exact (Option.some.inj hzq).symm
      · by_cases e : q = i
        · rw [e, hy] at hzq
          exact absurd (congrArg Prod.fst (Option.some.inj hzq)).symm e2
        · exact .inr ⟨(h6 z).2 ⟨q, by omega, hzq⟩, e2⟩
theorem Two.done {S A B : List Tm} {t : Nat} (h : Two S A B t S.length) : A = B := by
  obtain ⟨h1, h2, h3, h4, h5, h6⟩ := h
  refine (MayP.srt h1).ext (MayP.srt h2) fun x => ?_
  rw [h5, h6]
  constructor
  · rintro ⟨q, hq, hx⟩
    obtain ⟨p, hp, e⟩ := oth_onto (t := t) hq
    exact ⟨p, hp, by rw [e]; exact hx⟩
  · rintro ⟨q, hq, hx⟩
    exact ⟨_, oth_lt hq, hx⟩
set_option maxRecDepth 100000 in
set_option maxHeartbeats 8000000 in
theorem aclOrders_walk (v : Value) (l : List Tm) (tn : Int) (w : World) (h : LsAt 4 tc w v l) (hu : ∀ t ∈ l, t.1.length ≤ 9223372036854775807) (ht0 : 0 ≤ tn) (ht1 : tn < 256) :
    Calls Try.prog 5 #[v, .int .u8 tn] w fun e w' => e = .returned (.bool true) ∧ New w w' := by
  obtain ⟨ti, hti, hzz⟩ := Option.map_eq_some_iff.1 term_info
  simp only [Prod.mk.injEq] at hzz
  have HT := hid (And.intro hti hzz)
  clear hti hzz
  obtain ⟨a, c, hv, hlc, hcm, _⟩ := id h
  subst hv
  obtain ⟨n, hn⟩ : ∃ n, n = l.length := ⟨_, rfl⟩
  rw [← hn] at hlc h ⊢
  have H := hid (And.intro h (And.intro hn hu))
  clear h hn hu
  unfold maxLen at hcm
  go_enter Try.func5, Try.ntmps5
  go_wp2_with fail
  refine (awake_any w).mono ?_
  rintro e w1 ⟨rfl, n1⟩
  by_cases hn0 : n = 0
  · subst hn0
    go_wp2
    go_ret
    exact ⟨rfl, n1⟩
  have hn0' : ¬ (n : Int) = 0 := by omega
  by_cases hn16 : 16 < n
  · have hn16' : (16 : Int) < (n : Int) := by omega
    go_wp2
    go_ret
    exact ⟨rfl, n1⟩
  have hn16' : ¬ (16 : Int) < (n : Int) := by omega
  have hb1 : ((n : Int) == 0) = false := by rw [beq_eq_false_iff_ne]; exact hn0'
  have hb2 : decide ((16 : Int) < (n : Int)) = false := decide_eq_false hn16'
  have HN1 := hid n1
  clear n1
  go_wp2_with fail
  refine (small_any _ l w1 (H.out.1.new_ HN1.out)).mono ?_
  rintro e w2 ⟨bs, rfl, hsm, rfl⟩
  clear hsm
  cases bs with
  | false =>
    go_wp2
    go_ret
    exact ⟨rfl, HN1.out⟩
  | true =>
    go_wp2_with fail
    go_loopw [5, 6] (fun x i wr => ∃ (k : Nat) (S : List Tm), k ≤ n ∧ i = .int .i64 (k : Int) ∧ Sl wr w1.heap.size 26 4 x S.length (flatOf tc S) ∧ Good l k S ∧ New w1 wr) (fun _ i _ => n - (intOf i).toNat)
    case atStart => exact ⟨0, [], Nat.zero_le _, rfl, Sl.nil _ _ _ _, ⟨Nat.le_refl _, fun x hx => by simp at hx, List.Pairwise.nil⟩, New.refl _⟩
    case round =>
      obtain ⟨k, S, hk, rfl, hsl, hgd, hnr⟩ := hrel
      have hnw := HN1.out.step hnr
      have hvs := hsl.val
      obtain ⟨m, hm⟩ : ∃ m, m = S.length := ⟨_, rfl⟩
      rw [← hm] at hvs
      obtain ⟨a3, c3', rfl⟩ := hvs
      have hmk : m ≤ k := by rw [hm]; exact hgd.1
      by_cases hkn : k < n
      · have w2' : IntKind.i64.wrap ((k : Int) + 1) = k + 1 := by rw [IntKind.wrap_i64]; omega
        obtain ⟨b, o, t, rfl, hx, _, hcell⟩ := H.out.1.get hkn
        have HC : Hid (∀ X : World, New w X → X.cell? ⟨b, o + k * 4, none⟩ = some (st t.1) ∧ X.cell? ⟨b, o + k * 4 + 1, none⟩ = some (.bool t.2.1) ∧ X.cell? ⟨b, o + k * 4 + 2, none⟩ = some (.bool t.2.2.1) ∧ X.cell? ⟨b, o + k * 4 + 3, none⟩ = some (.bool t.2.2.2)) := fun X hX =>
          ⟨hX.cellK (hcell 0 _ rfl), hX.cellK (hcell 1 _ rfl), hX.cellK (hcell 2 _ rfl), hX.cellK (hcell 3 _ rfl)⟩
        have j0 : (0 : Int) ≤ (k : Int) := by omega
        have j1 : (k : Int) < (n : Int) := by omega
        obtain ⟨c0, c1, c2, c3⟩ := HC.out _ hnw
        have htl : t.1.length ≤ 9223372036854775807 := H.out.2.2 t (List.mem_of_getElem? hx)
        have HX := hid (And.intro hx (And.intro hsl (And.intro hgd (And.intro hnr (And.intro hnw hm)))))
        have hU := fun X => usermay_new t.1 htl X
        clear hcell hx hsl hgd hnr hnw hm
        -- whether the user may be
        have hstart : ∃ B0 : Bool, (B0 = false → userB t.1 = true) ∧ ((∃ h42 : (t.1 == [42]) = true, B0 = false) ∨ (∃ (h42 : (t.1 == [42]) = false) (b : Bool), (∀ X, Calls Try.prog 13 #[st t.1] X fun e w' => e = .returned (.bool b) ∧ New X w') ∧ B0 = !b)) := by
          cases h42 : (t.1 == [42]) with
          | true => exact ⟨false, fun _ => by unfold userB; rw [h42]; rfl, .inl ⟨rfl, rfl⟩⟩
          | false => exact ⟨!signsB t.1 16, fun h => by unfold userB; rw [h42]; simpa using h, .inr ⟨rfl, _, hU, rfl⟩⟩
        obtain ⟨B0, hB0, hways⟩ := hstart
        have HB0 := hid hB0
        clear hB0 hU
        rcases hways with ⟨h42, hB⟩ | ⟨h42, bb, hU, hB⟩
        · have HBB := hid hB
          clear hB
          obtain ⟨wP, hwPe⟩ : ∃ wP, wP = wr := ⟨_, rfl⟩
          have hwP : Hid (New wr wP ∧ wP = wr) := ⟨by rw [hwPe]; exact New.refl _, hwPe⟩
          clear hwPe
          go_wp2_with fail
          rw [← hwP.out.2]
          have HP := hid hwP.out.1
          go_loopw [7, 8] (fun y j wx => ∃ (q : Nat) (B : Bool), q ≤ k ∧ y = .bool B ∧ j = .int .i64 (q : Int) ∧ (B = false → userB t.1 = true ∧ Fresh l t.1 q) ∧ New wP wx) (fun _ j _ => k - (intOf j).toNat)
          case atStart => exact ⟨0, false, Nat.zero_le _, rfl, rfl, fun h => ⟨HB0.out (HBB.out.trans h), fun q y hq => absurd hq (by omega)⟩, New.refl _⟩
          case round =>
            obtain ⟨q, B, hq, rfl, rfl, hfr, hnx⟩ := hrel
            have hnwx := HX.out.2.2.2.2.1.step (HP.out.step hnx)
            have hnrx := HX.out.2.2.2.1.step (HP.out.step hnx)
            by_cases hqk : q < k
            · have w3' : IntKind.i64.wrap ((q : Int) + 1) = q + 1 := by rw [IntKind.wrap_i64]; omega
              obtain ⟨b', o', y, e, hy, _, hcy⟩ := H.out.1.get (show q < n by omega)
              injection e with e
              injection e with e1 e2
              subst e1 e2
              have y0 := hnwx.cellK (hcy 0 _ rfl)
              rw [Nat.add_zero] at y0
              obtain ⟨c0, c1, c2, c3⟩ := HC.out _ hnwx
              have j2 : (0 : Int) ≤ (q : Int) := by omega
              have j3 : (q : Int) < (n : Int) := by omega
              have j4 : (q : Int) < (k : Int) := by omega
              have HY := hid (And.intro hy (And.intro hfr hnx))
              clear hcy hy hfr hnx hnwx hnrx
              cases B with
              | true =>
                go_wp2_with fail
                refine wp_region_quiet (C := fun w' => New wr w') (by kernel_rfl) (by kernel_rfl) (New.refl wr).drew ?_
                simp only [List.toList_toArray]
                repeat (first
                  | go_big_quiet_skip
                  | (go_big_quiet_want
                     apply Exists.intro
                     refine ⟨fun w' hw' => ?_, ?_⟩
                     · have c0_ := hw'.cellK c0; have y0_ := hw'.cellK y0; go_simp; first | (with_reducible rfl)
                     go_big_quiet_on
                     try simp only [Act.put, List.setIfInBounds_toArray, List.set_cons_zero, List.set_cons_succ]))
                refine wpQuiet_nil ?_
                intro wQ hwQ
                go_wp2_with fail
                exact ⟨⟨q + 1, true, by omega, rfl, by go_num, fun h => absurd h (by decide), HY.out.2.2.step hwQ⟩, by simp [intOf]; omega⟩
              | false =>
                cases hb : (y.1 == t.1) with
                | true =>
                  go_wp2_with fail
                  refine wp_region_quiet (C := fun w' => New wr w') (by kernel_rfl) (by kernel_rfl) (New.refl wr).drew ?_
                  simp only [List.toList_toArray]
                  repeat (first
                    | go_big_quiet_skip
                    | (go_big_quiet_want
                       apply Exists.intro
                       refine ⟨fun w' hw' => ?_, ?_⟩
                       · have c0_ := hw'.cellK c0; have y0_ := hw'.cellK y0; go_simp; first | (with_reducible rfl)
                       go_big_quiet_on
                       try simp only [Act.put, List.setIfInBounds_toArray, List.set_cons_zero, List.set_cons_succ]))
                  refine wpQuiet_nil ?_
                  intro wQ hwQ
                  go_wp2_with fail
                  exact ⟨⟨q + 1, true, by omega, rfl, by go_num, fun h => absurd h (by decide), HY.out.2.2.step hwQ⟩, by simp [intOf]; omega⟩
                | false =>
                  have HV := hid (beq_eq_false_iff_ne.1 hb)
                  go_wp2_with fail
                  refine wp_region_quiet (C := fun w' => New wr w') (by kernel_rfl) (by kernel_rfl) (New.refl wr).drew ?_
                  simp only [List.toList_toArray]
                  repeat (first
                    | go_big_quiet_skip
                    | (go_big_quiet_want
                       apply Exists.intro
                       refine ⟨fun w' hw' => ?_, ?_⟩
                       · have c0_ := hw'.cellK c0; have y0_ := hw'.cellK y0; go_simp; first | (with_reducible rfl)
                       go_big_quiet_on
                       try simp only [Act.put, List.setIfInBounds_toArray, List.set_cons_zero, List.set_cons_succ]))
                  refine wpQuiet_nil ?_
                  intro wQ hwQ
                  go_wp2_with fail
                  refine ⟨⟨q + 1, false, by omega, rfl, by go_num, fun _ => ⟨(HY.out.2.1 (by trivial)).1, fun p z hp hz => ?_⟩, HY.out.2.2.step hwQ⟩, by simp [intOf]; omega⟩
                  by_cases e : p = q
                  · rw [e, HY.out.1] at hz
                    cases hz
                    exact HV.out
                  · exact (HY.out.2.1 (by trivial)).2 p z (by omega) hz
            · have j4 : ¬ (q : Int) < (k : Int) := by omega
              obtain ⟨c0, c1, c2, c3⟩ := HC.out _ hnwx
              have sx := HX.out.2.1.new_ (HP.out.step hnx)
              rw [← HX.out.2.2.2.2.2] at sx
              have hszx := hnrx.size
              cases B with
              | true =>
                have HY := hid (And.intro sx hnrx)
                clear sx hnx hnwx hnrx hfr
                go_wp2_with fail
                exact ⟨⟨k + 1, S, by omega, by go_num, by rw [← HX.out.2.2.2.2.2]; exact HY.out.1, HX.out.2.2.1.skip, HY.out.2⟩, by simp [intOf]; omega⟩
              | false =>
                have hgd2 := HX.out.2.2.1.take HX.out.1 (hfr rfl).1 htl (fun p z hp hz => (hfr rfl).2 p z (by omega) hz)
                have HY := hid (And.intro sx (And.intro hnrx hgd2))
                clear sx hnx hnwx hnrx hfr hgd2
                go_wp2_with (at_builtin; refine wpList_append_sl _ rfl (.tmp 73) (.tmp 78) 22 rfl w1.heap.size 26 ti _ 4 24 Try.underlying22 HT.out.1 HT.out.2.1 HT.out.2.2.1 HT.out.2.2.2 rfl (by decide) (.slice a3 m c3') m _ rfl (HY.out.1.alloc _) ⟨wr.heap.size, 0, none⟩ 1 1 (tc t) rfl (by decide) rfl (Acl.news_tm (Blk.new wr _ _)) (tc_one t) (by unfold maxLen; omega) (by omega) (by rw [World.size_alloc]; omega) ?_; intro v' w11 hs6 hg6 hb6)
                exact ⟨⟨k + 1, S ++ [t], by omega, by go_num, sl_snoc HX.out.2.2.2.2.2 hs6, HY.out.2.2, grown_one HY.out.2.1 HY.out.1 (Nat.le_refl _) hg6⟩, by simp [intOf]; omega⟩
        · have HBB := hid hB
          clear hB
          go_wp2_with fail
          refine (hU _).mono ?_
          rintro e wP ⟨rfl, nP⟩
          have HP := hid nP
          clear nP hU
          go_wp2_with fail
          go_loopw [7, 8] (fun y j wx => ∃ (q : Nat) (B : Bool), q ≤ k ∧ y = .bool B ∧ j = .int .i64 (q : Int) ∧ (B = false → userB t.1 = true ∧ Fresh l t.1 q) ∧ New wP wx) (fun _ j _ => k - (intOf j).toNat)
          case atStart => exact ⟨0, (!bb), Nat.zero_le _, rfl, rfl, fun h => ⟨HB0.out (HBB.out.trans h), fun q y hq => absurd hq (by omega)⟩, New.refl _⟩
          case round =>
            obtain ⟨q, B, hq, rfl, rfl, hfr, hnx⟩ := hrel
            have hnwx := HX.out.2.2.2.2.1.step (HP.out.step hnx)
            have hnrx := HX.out.2.2.2.1.step (HP.out.step hnx)
            by_cases hqk : q < k
            · have w3' : IntKind.i64.wrap ((q : Int) + 1) = q + 1 := by rw [IntKind.wrap_i64]; omega
              obtain ⟨b', o', y, e, hy, _, hcy⟩ := H.out.1.get (show q < n by omega)
              injection e with e
              injection e with e1 e2
              subst e1 e2
              have y0 := hnwx.cellK (hcy 0 _ rfl)
              rw [Nat.add_zero] at y0
              obtain ⟨c0, c1, c2, c3⟩ := HC.out _ hnwx
              have j2 : (0 : Int) ≤ (q : Int) := by omega
              have j3 : (q : Int) < (n : Int) := by omega
              have j4 : (q : Int) < (k : Int) := by omega
              have HY := hid (And.intro hy (And.intro hfr hnx))
              clear hcy hy hfr hnx hnwx hnrx
              cases B with
              | true =>
                go_wp2_with fail
                refine wp_region_quiet (C := fun w' => New wr w') (by kernel_rfl) (by kernel_rfl) (New.refl wr).drew ?_
                simp only [List.toList_toArray]
                repeat (first
                  | go_big_quiet_skip
                  | (go_big_quiet_want
                     apply Exists.intro
                     refine ⟨fun w' hw' => ?_, ?_⟩
                     · have c0_ := hw'.cellK c0; have y0_ := hw'.cellK y0; go_simp; first | (with_reducible rfl)
                     go_big_quiet_on
                     try simp only [Act.put, List.setIfInBounds_toArray, List.set_cons_zero, List.set_cons_succ]))
                refine wpQuiet_nil ?_
                intro wQ hwQ
                go_wp2_with fail
                exact ⟨⟨q + 1, true, by omega, rfl, by go_num, fun h => absurd h (by decide), HY.out.2.2.step hwQ⟩, by simp [intOf]; omega⟩
              | false =>
                cases hb : (y.1 == t.1) with
                | true =>
                  go_wp2_with fail
                  refine wp_region_quiet (C := fun w' => New wr w') (by kernel_rfl) (by kernel_rfl) (New.refl wr).drew ?_
                  simp only [List.toList_toArray]
                  repeat (first
                    | go_big_quiet_skip
                    | (go_big_quiet_want
                       apply Exists.intro
                       refine ⟨fun w' hw' => ?_, ?_⟩
                       · have c0_ := hw'.cellK c0; have y0_ := hw'.cellK y0; go_simp; first | (with_reducible rfl)
                       go_big_quiet_on
                       try simp only [Act.put, List.setIfInBounds_toArray, List.set_cons_zero, List.set_cons_succ]))
                  refine wpQuiet_nil ?_
                  intro wQ hwQ
                  go_wp2_with fail
                  exact ⟨⟨q + 1, true, by omega, rfl, by go_num, fun h => absurd h (by decide), HY.out.2.2.step hwQ⟩, by simp [intOf]; omega⟩
                | false =>
                  have HV := hid (beq_eq_false_iff_ne.1 hb)
                  go_wp2_with fail
                  refine wp_region_quiet (C := fun w' => New wr w') (by kernel_rfl) (by kernel_rfl) (New.refl wr).drew ?_
                  simp only [List.toList_toArray]
                  repeat (first
                    | go_big_quiet_skip
                    | (go_big_quiet_want
                       apply Exists.intro
                       refine ⟨fun w' hw' => ?_, ?_⟩
                       · have c0_ := hw'.cellK c0; have y0_ := hw'.cellK y0; go_simp; first | (with_reducible rfl)
                       go_big_quiet_on
                       try simp only [Act.put, List.setIfInBounds_toArray, List.set_cons_zero, List.set_cons_succ]))
                  refine wpQuiet_nil ?_
                  intro wQ hwQ
                  go_wp2_with fail
                  refine ⟨⟨q + 1, false, by omega, rfl, by go_num, fun _ => ⟨(HY.out.2.1 (by trivial)).1, fun p z hp hz => ?_⟩, HY.out.2.2.step hwQ⟩, by simp [intOf]; omega⟩
                  by_cases e : p = q
                  · rw [e, HY.out.1] at hz
                    cases hz
                    exact HV.out
                  · exact (HY.out.2.1 (by trivial)).2 p z (by omega) hz
            · have j4 : ¬ (q : Int) < (k : Int) := by omega
              obtain ⟨c0, c1, c2, c3⟩ := HC.out _ hnwx
              have sx := HX.out.2.1.new_ (HP.out.step hnx)
              rw [← HX.out.2.2.2.2.2] at sx
              have hszx := hnrx.size
              cases B with
              | true =>
                have HY := hid (And.intro sx hnrx)
                clear sx hnx hnwx hnrx hfr
                go_wp2_with fail
                exact ⟨⟨k + 1, S, by omega, by go_num, by rw [← HX.out.2.2.2.2.2]; exact HY.out.1, HX.out.2.2.1.skip, HY.out.2⟩, by simp [intOf]; omega⟩
              | false =>
                have hgd2 := HX.out.2.2.1.take HX.out.1 (hfr rfl).1 htl (fun p z hp hz => (hfr rfl).2 p z (by omega) hz)
                have HY := hid (And.intro sx (And.intro hnrx hgd2))
                clear sx hnx hnwx hnrx hfr hgd2
                go_wp2_with (at_builtin; refine wpList_append_sl _ rfl (.tmp 73) (.tmp 78) 22 rfl w1.heap.size 26 ti _ 4 24 Try.underlying22 HT.out.1 HT.out.2.1 HT.out.2.2.1 HT.out.2.2.2 rfl (by decide) (.slice a3 m c3') m _ rfl (HY.out.1.alloc _) ⟨wr.heap.size, 0, none⟩ 1 1 (tc t) rfl (by decide) rfl (Acl.news_tm (Blk.new wr _ _)) (tc_one t) (by unfold maxLen; omega) (by omega) (by rw [World.size_alloc]; omega) ?_; intro v' w11 hs6 hg6 hb6)
                exact ⟨⟨k + 1, S ++ [t], by omega, by go_num, sl_snoc HX.out.2.2.2.2.2 hs6, HY.out.2.2, grown_one HY.out.2.1 HY.out.1 (Nat.le_refl _) hg6⟩, by simp [intOf]; omega⟩
      · have j1 : ¬ (k : Int) < (n : Int) := by omega
        have ls := LsAt.of_sl tc_len hsl
        have hS16 : S.length ≤ 16 := by omega
        have hSd := hgd.2.2
        have hSu : ∀ x ∈ S, userB x.1 = true := fun x hx => (hgd.2.1 x hx).1
        have hSl : ∀ x ∈ S, x.1.length ≤ 9223372036854775807 := fun x hx => (hgd.2.1 x hx).2.1
        obtain ⟨T, rfl⟩ : ∃ T : Nat, tn = T := ⟨tn.toNat, by omega⟩
        have HX := hid (And.intro ls (And.intro hSd (And.intro hSu (And.intro hSl (And.intro hS16 (And.intro hnw hm))))))
        have hls := hid ls
        have hm16 : m ≤ 16 := by omega
        clear hsl hgd hnr hnw ls hS16 hSd hSu hSl hm
        go_wp2_with fail
        go_loopw [9, 10, 11] (fun x y i wx => ∃ (q : Nat) (A B : List Tm), q ≤ m ∧ i = .int .i64 (q : Int) ∧ LsAt 4 tc wx x A ∧ LsAt 4 tc wx y B ∧ Two S A B T q ∧ New wr wx) (fun _ _ i _ => m - (intOf i).toNat)
        case atStart => exact ⟨0, [], [], Nat.zero_le _, rfl, LsAt.nil, LsAt.nil, Two.start S T, New.refl _⟩
        case round =>
          obtain ⟨q, A, B, hq, rfl, hA, hB, htwo, hnx⟩ := hrel
          have hT256 : T < 256 := by omega
          obtain ⟨va, ca, hva, _⟩ := id hA
          obtain ⟨vb, cb, hvb, _⟩ := id hB
          have hAl : A.length = q := htwo.2.2.1
          have hBl : B.length ≤ q := htwo.2.2.2.1
          by_cases hqm : q < m
          · have w3' : IntKind.i64.wrap ((q : Int) + 1) = q + 1 := by rw [IntKind.wrap_i64]; omega
            obtain ⟨p, hp⟩ : ∃ p, p = oth m T q := ⟨_, rfl⟩
            have hpm : p < m := by rw [hp]; exact oth_lt hqm
            have f1 : IntKind.i64.wrap ((m : Int) - 1) = (m : Int) - 1 := by rw [IntKind.wrap_i64]; omega
            have f2 : IntKind.i64.wrap ((m : Int) - 1 - q) = (m : Int) - 1 - q := by rw [IntKind.wrap_i64]; omega
            have f3 : IntKind.i64.wrap (T : Int) = (T : Int) := by rw [IntKind.wrap_i64]; omega
            have f4 : IntKind.i64.wrap ((m : Int) - 1 - q + T) = (m : Int) - 1 - q + T := by rw [IntKind.wrap_i64]; omega
            have f5 : ((m : Int) - 1 - q + T) % (m : Int) = (p : Int) := by
              rw [hp]
              unfold oth
              rw [Int.natCast_emod]
              congr 1
              omega
            have f6 : ((m : Int) - 1 - q + T).tmod (m : Int) = (p : Int) := by rw [Int.tmod_eq_emod_of_nonneg (by omega)]; exact f5
            have f7 : IntKind.i64.wrap (p : Int) = (p : Int) := by rw [IntKind.wrap_i64]; omega
            obtain ⟨b, o, x, rfl, hx, _, hcx⟩ := hls.out.get hqm
            obtain ⟨b', o', y, e, hy, _, hcy⟩ := hls.out.get hpm
            injection e with e
            injection e with e1 e2
            subst e1 e2
            have hstep := htwo.step HX.out.2.1 HX.out.2.2.1 HX.out.2.2.2.2.1 hx (by rw [← HX.out.2.2.2.2.2.2, ← hp]; exact hy)
            have hlx := HX.out.2.2.2.1 x (List.mem_of_getElem? hx)
            have hly := HX.out.2.2.2.1 y (List.mem_of_getElem? hy)
            have hAu : ∀ z ∈ A, z.1.length ≤ 9223372036854775807 := fun z hz => by
              obtain ⟨k, _, hk⟩ := (htwo.2.2.2.2.1 z).1 hz
              exact HX.out.2.2.2.1 z (List.mem_of_getElem? hk)
            have hBu : ∀ z ∈ B, z.1.length ≤ 9223372036854775807 := fun z hz => by
              obtain ⟨k, _, hk⟩ := (htwo.2.2.2.2.2 z).1 hz
              exact HX.out.2.2.2.1 z (List.mem_of_getElem? hk)
            have c0 := hnx.cellK (hcx 0 _ rfl)
            have c1 := hnx.cellK (hcx 1 _ rfl)
            have c2 := hnx.cellK (hcx 2 _ rfl)
            have c3 := hnx.cellK (hcx 3 _ rfl)
            rw [Nat.add_zero] at c0
            have y0 := hnx.cellK (hcy 0 _ rfl)
            have y1 := hnx.cellK (hcy 1 _ rfl)
            have y2 := hnx.cellK (hcy 2 _ rfl)
            have y3 := hnx.cellK (hcy 3 _ rfl)
            rw [Nat.add_zero] at y0
            have j2 : (0 : Int) ≤ (q : Int) := by omega
            have j3 : (q : Int) < (m : Int) := by omega
            have j4 : (0 : Int) ≤ (p : Int) := by omega
            have j5 : (p : Int) < (m : Int) := by omega
            have j6 : (0 : Int) ≤ (m : Int) - 1 - q + T := by omega
            have j7 : ¬ (m : Int) = 0 := by omega
            have hq1 := set_any _ A x wr hA hAu hlx (by omega)
            have HS := hid (And.intro hq1 (And.intro hstep (And.intro hB (And.intro hBu (And.intro hly hnx)))))
            subst hva hvb
            clear hp hx hy hcx hcy hstep htwo hA hB hAu hBu hq1 hnx hAl
            go_wp2_with fail
            refine HS.out.1.mono ?_
            rintro e w20 ⟨vA, rfl, hA0, _, n20⟩
            have sA := hA0 HS.out.2.1.1
            rw [HS.out.2.1.1]
            replace y0 := n20.cellK y0
            replace y1 := n20.cellK y1
            replace y2 := n20.cellK y2
            replace y3 := n20.cellK y3
            have hq2 := set_any _ B y w20 (HS.out.2.2.1.new_ n20) HS.out.2.2.2.1 hly (by omega)
            have lA := LsAt.of_sl tc_len sA
            have HS2 := hid (And.intro hq2 (And.intro lA n20))
            clear hA0 sA hq2 lA n20 c0 c1 c2 c3
            go_wp2_with fail
            refine HS2.out.1.mono ?_
            rintro e w21 ⟨vB, rfl, hB0, _, n21⟩
            have sB := hB0 HS.out.2.1.2.1
            rw [HS.out.2.1.2.1]
            have lB := LsAt.of_sl tc_len sB
            have HS3 := hid (And.intro lB (And.intro (HS2.out.2.1.new_ n21) ((HS.out.2.2.2.2.2.step HS2.out.2.2).step n21)))
            clear hB0 sB lB n21 y0 y1 y2 y3
            go_wp2_with fail
            exact ⟨⟨q + 1, _, _, by omega, by go_num, HS3.out.2.1, HS3.out.1, HS.out.2.1.2.2, HS3.out.2.2⟩, by simp [intOf]; omega⟩
          · have hqe : q = m := by omega
            have j3 : ¬ (q : Int) < (m : Int) := by omega
            have hAB : A = B := by
              have := HX.out.2.2.2.2.2.2
              rw [hqe, this] at htwo
              exact htwo.done
            subst hAB
            have hmA := mayL_iff.2 htwo.1
            have hAu : ∀ z ∈ A, z.1.length ≤ 9223372036854775807 := fun z hz => by
              obtain ⟨k, _, hk⟩ := (htwo.2.2.2.2.1 z).1 hz
              exact HX.out.2.2.2.1 z (List.mem_of_getElem? hk)
            have hsm := same_any _ _ A A wr hA hB (by omega)
            have hmy := fun X (hX : New wr X) => may_any _ A hAu X (hA.new_ hX)
            rw [hmA] at hmy
            subst hva hvb
            rw [hAl, hqe] at hsm hmy ⊢
            have HS := hid (And.intro hsm (And.intro hmy (HX.out.2.2.2.2.2.1.step hnx)))
            clear htwo hA hB hAu hsm hmy hmA hnx hAl hBl
            subst hqe
            go_wp2_with fail
            refine HS.out.1.mono ?_
            rintro e w20 ⟨rfl, kd, rfl⟩
            rw [decide_eq_true rfl]
            go_wp2_with fail
            refine (HS.out.2.1 _ ((New.refl _).drewN kd)).mono ?_
            rintro e w21 ⟨rfl, n21⟩
            go_wp2_with fail
            go_ret
            exact ⟨rfl, (HS.out.2.2.drewN kd).step n21⟩
theorem aclOrders_row {H : Type} {enc : TypeId × Value → H} (W : World) {base : Nat}
    (v0 : Value) (d0 : DataW H) (p0 : List MemPlace) (k0 : Value.okWide Try.prog W .any base 22 v0) (h0 : DataW.Trod enc Try.prog W 0 (fun _ => true) true 22 v0 d0 p0) (l0 : ∀ x ∈ p0, x.block < W.heap.size)
    (v1 : Value) (d1 : DataW H) (p1 : List MemPlace) (k1 : Value.okWide Try.prog W .any base 5 v1) (h1 : DataW.Trod enc Try.prog W 0 (fun _ => true) true 5 v1 d1 p1) (l1 : ∀ x ∈ p1, x.block < W.heap.size)
    : Calls Try.prog 5 #[v0, v1] W fun e W' => e = .returned (.bool true) ∧ Below W.heap.size W W' := by
  obtain ⟨l, hl, hu⟩ := open_terms k0 h0
  obtain ⟨tn, rfl, rfl, rfl, hwf⟩ := open_int Try.underlying5 k1 h1
  obtain ⟨h0', h1'⟩ := wf_u8 hwf
  exact aclOrders_walk v0 l tn W hl hu h0' h1'
end Go.Proofs.Ytaapfkfijahbmaa.Law
