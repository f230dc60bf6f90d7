/- What the laws of acl share: equality of flags and terms, Small, awake, same. -/
import Derived.Test.YtaapfkfijahbmaaAclE
import Derived.Test.YtaapfkfijahbmaaAclFind
import Derived.Test.YtaapfkfijahbmaaEqS
import Derived.Test.YtaapfkfijahbmaaOpenG
namespace Go.Proofs.Ytaapfkfijahbmaa.Acl
open Go Go.RowKit Go.Proofs.Ytaapfkfijahbmaa.Kit Go.Proofs.Ytaapfkfijahbmaa.Str Go.Proofs.Ytaapfkfijahbmaa.Term Go.Proofs.Ytaapfkfijahbmaa.Names
set_option linter.unusedSimpArgs false
set_option linter.unusedVariables false
def feq (f g : Fl) : Bool := decide (f = g)
def teq (t s : Tm) : Bool := decide (t = s)
theorem equalIn_fl (n : Nat) (f g : Fl) (w : World) : (Op.equalIn (n + 2) 24 (fv f) (fv g)).run Try.prog w = .ok (feq f g) w := by
  have e : feq f g = (f.1 == g.1 && (f.2.1 == g.2.1 && (f.2.2 == g.2.2 && true))) := by
    unfold feq
    rw [Bool.eq_iff_iff]
    simp [Prod.ext_iff]
  rw [e]
  refine eqA_of Try.underlying24 (by kernel_rfl) ?_
  exact eqf_cons (by rfl) rfl rfl (equalIn_bool _ Try.underlying4 _ _ _) (eqf_cons (by rfl) rfl rfl (equalIn_bool _ Try.underlying4 _ _ _) (eqf_cons (by rfl) rfl rfl (equalIn_bool _ Try.underlying4 _ _ _) eqf_nil))
theorem equalIn_tm (n : Nat) (t s : Tm) (w : World) : (Op.equalIn (n + 3) 26 (tv t) (tv s)).run Try.prog w = .ok (teq t s) w := by
  have e : teq t s = (t.1 == s.1 && (feq t.2 s.2 && true)) := by
    unfold teq feq
    rw [Bool.eq_iff_iff]
    simp [Prod.ext_iff]
  rw [e]
  refine eqA_of Try.underlying26 (by kernel_rfl) ?_
  exact eqf_cons (by rfl) rfl rfl (equalIn_str _ Try.underlying9 _ _ _) (eqf_cons (by rfl) rfl rfl (equalIn_fl n t.2 s.2 _) eqf_nil)
theorem eql_fl (a b c a' b' c' : Bool) (w : World) : (binOp .eql 24 (.agg #[.bool a, .bool b, .bool c]) (.agg #[.bool a', .bool b', .bool c'])).run Try.prog w = .ok (.bool (feq (a, b, c) (a', b', c'))) w := eql_of (equalIn_fl 9998 (a, b, c) (a', b', c') w)
theorem neq_fl (a b c a' b' c' : Bool) (w : World) : (binOp .neq 24 (.agg #[.bool a, .bool b, .bool c]) (.agg #[.bool a', .bool b', .bool c'])).run Try.prog w = .ok (.bool (!feq (a, b, c) (a', b', c'))) w := neq_of (equalIn_fl 9998 (a, b, c) (a', b', c') w)
theorem neq_tm (t s : Tm) (w : World) : (binOp .neq 26 (tv t) (tv s)).run Try.prog w = .ok (.bool (!teq t s)) w := neq_of (equalIn_tm 9997 t s w)
theorem feq_self (f : Fl) : feq f f = true := by simp [feq]
theorem mayL_nil : mayL [] = true := mayL_iff.2 ⟨by decide, fun i t h => by simp at h⟩
theorem mayL_one (t : Tm) (h : userB t.1 = true) : mayL [t] = true := mayL_iff.2 ⟨by simp, fun i s hs => by
  cases i with
  | zero =>
    cases hs
    exact ⟨h, fun _ h => absurd h (by omega)⟩
  | succ i => simp at hs⟩
theorem ls_one (w : World) (t : Tm) : LsAt 4 tc (w.alloc (.cells #[st t.1, .bool t.2.1, .bool t.2.2.1, .bool t.2.2.2] 26)) (.slice (some ⟨w.heap.size, 0, none⟩) 1 1) [t] := by
  refine LsAt.of_sl (base := 0) (e := 26) tc_len ⟨rfl, .inr ⟨w.heap.size, 0, 1, _, rfl, Nat.zero_le _, Blk.new w _ _, Nat.le_refl _, by unfold maxLen; decide, ?_, ?_⟩⟩
  · simp
  · simp [flatOf, tc]
def SmallPost (w : World) (l : List Tm) (e : Ending) (w' : World) : Prop := ∃ b, e = .returned (.bool b) ∧ (b = true → l.length ≤ 100) ∧ w = w'
theorem small_any (v : Value) (l : List Tm) (w : World) (h : LsAt 4 tc w v l) : Calls Try.prog 9 #[v] w (SmallPost w l) := by
  obtain ⟨a, c, hv, hlc, hcm, _⟩ := id h
  subst hv
  unfold maxLen at hcm
  obtain ⟨n, hn⟩ : ∃ n, n = l.length := ⟨_, rfl⟩
  rw [← hn] at hlc h ⊢
  have H := hid (And.intro h hn)
  clear h hn
  go_enter Try.func9, Try.ntmps9
  go_wp2_with fail
  go_loop [3, 4] (fun z i => ∃ (k : Nat) (x : Int), k ≤ n ∧ i = .int .i64 (k : Int) ∧ z = .int .i64 x) (fun _ i => n - (intOf i).toNat)
  case atStart => exact ⟨0, 0, Nat.zero_le _, rfl, rfl⟩
  case round =>
    obtain ⟨k, x, hk, rfl, rfl⟩ := hrel
    by_cases hkn : k < n
    · have w2' : IntKind.i64.wrap ((k : Int) + 1) = k + 1 := by rw [IntKind.wrap_i64]; omega
      obtain ⟨b, o, t, rfl, hx, _, hcell⟩ := H.out.1.get hkn
      have c0 := hcell 0 _ rfl
      rw [Nat.add_zero] at c0
      have j0 : (0 : Int) ≤ (k : Int) := by omega
      have j1 : (k : Int) < (n : Int) := by omega
      clear hcell hx
      go_wp2_with fail
      refine ⟨⟨k + 1, _, by omega, by go_num, rfl⟩, by simp [intOf]; omega⟩
    · have j1 : ¬ (k : Int) < (n : Int) := by omega
      by_cases h100 : n ≤ 100
      · have h1 : (n : Int) ≤ 100 := by omega
        go_wp2_with fail
        go_ret
        exact ⟨_, rfl, fun _ => by rw [← H.out.2]; exact h100, rfl⟩
      · have h1 : ¬ (n : Int) ≤ 100 := by omega
        go_wp2_with fail
        go_ret
        exact ⟨_, rfl, fun h => absurd h (by decide), rfl⟩
theorem findF_star (f : Fl) (u : List UInt8) (hu : ([42] == u) = false) : findF [([42], f)] u = f := by
  have hu' : ¬ ([42] : List UInt8) = u := beq_eq_false_iff_ne.1 hu
  unfold findF look
  rw [if_pos (mayL_one _ (by simp [userB]))]
  simp [hu]
set_option maxRecDepth 100000 in
set_option maxHeartbeats 4000000 in
theorem awake_any (w : World) : Calls Try.prog 8 #[] w fun e w' => e = .returned (.bool true) ∧ New w w' := by
  have he := fun (a b c a' b' c' : Bool) w => eql_fl a b c a' b' c' w
  have hM := fun X => may_any (.slice none 0 0) [] (fun t h => by simp at h) X LsAt.nil
  rw [mayL_nil] at hM
  have hF : ∀ X : World, Calls Try.prog 11 #[.slice (some ⟨X.heap.size, 0, none⟩) 1 1, .string ⟨#[97]⟩] (X.alloc (.cells #[.string ⟨#[42]⟩, .bool true, .bool false, .bool false] 26)).drew fun e w' => e = .returned (.agg #[.bool true, .bool false, .bool false]) ∧ New (X.alloc (.cells #[.string ⟨#[42]⟩, .bool true, .bool false, .bool false] 26)).drew w' := fun X => by
    have := find_any _ [([42], (true, false, false))] [97] _ ((ls_one X ([42], (true, false, false))).new_ (New.refl _).drew) (fun t h => by rw [List.mem_singleton.1 h]; decide) (by decide)
    refine this.mono fun e w' h => ?_
    unfold FindPost at h
    rw [findF_star _ _ (by decide)] at h
    exact h
  have hnB := (New.refl w).alloc (.cells #[.bool true, .bool false, .bool false] 24)
  have hB := Blk.new w 24 #[.bool true, .bool false, .bool false]
  have hs : feq (true, false, false) (true, false, false) = true := by decide
  go_enter Try.func8, Try.ntmps8
  go_wp2_with fail
  generalize (w.alloc (.cells #[.bool true, .bool false, .bool false] 24)) = wB at *
  generalize w.heap.size = D at *
  have d0 : wB.cell? ⟨D, 0, none⟩ = some (.bool true) := by rw [hB.cell]; rfl
  have d1 : wB.cell? ⟨D, 1, none⟩ = some (.bool false) := by rw [hB.cell]; rfl
  have d2 : wB.cell? ⟨D, 2, none⟩ = some (.bool false) := by rw [hB.cell]; rfl
  have hKn1 := hid (show ∀ w' : World, New wB w' → (w'.cell? ⟨D, 0, none⟩ = some (.bool true) ∧ w'.cell? ⟨D, 1, none⟩ = some (.bool false) ∧ w'.cell? ⟨D, 2, none⟩ = some (.bool false) ∧ New wB w') from fun w' h => ⟨h.cellK d0, h.cellK d1, h.cellK d2, h⟩)
  go_region_held3 (fun w' => w'.cell? ⟨D, 0, none⟩ = some (.bool true) ∧ w'.cell? ⟨D, 1, none⟩ = some (.bool false) ∧ w'.cell? ⟨D, 2, none⟩ = some (.bool false) ∧ New wB w') (first | exact hKn1.out _ (by repeat (first | exact New.refl _ | assumption | apply New.alloc | apply New.drewN | apply New.drew | (refine New.step ?_ (by assumption)))) | assumption) (first | (go_at_call 11; (with_reducible refine (hF _).mono ?_); rintro e w' ⟨rfl, hn⟩) | (go_at_call 12; (with_reducible refine (hM _).mono ?_); rintro e w' ⟨rfl, hn⟩))
  all_goals
    have hnF : New w w' := hnB.step (show _ ∧ _ ∧ _ ∧ New wB w' by assumption).2.2.2
    go_wp2
    go_ret
    exact ⟨rfl, hnF⟩
def SamePost (w : World) (l m : List Tm) (e : Ending) (w' : World) : Prop := e = .returned (.bool (decide (l = m))) ∧ ∃ k, w' = w.drewN k
set_option maxRecDepth 100000 in
set_option maxHeartbeats 4000000 in
theorem same_any (v1 v2 : Value) (l m : List Tm) (w : World) (h1 : LsAt 4 tc w v1 l) (h2 : LsAt 4 tc w v2 m) (hl : l.length ≤ 1000000) :
    Calls Try.prog 14 #[v1, v2] w (SamePost w l m) := by
  obtain ⟨a1, c1, hv1, hlc1, hcm1, _⟩ := id h1
  subst hv1
  obtain ⟨a2, c2, hv2, hlc2, hcm2, _⟩ := id h2
  subst hv2
  obtain ⟨n, hn⟩ : ∃ n, n = l.length := ⟨_, rfl⟩
  obtain ⟨q, hq⟩ : ∃ q, q = m.length := ⟨_, rfl⟩
  rw [← hn] at hl h1 ⊢
  rw [← hq] at h2 ⊢
  have H := hid (And.intro h1 (And.intro h2 (And.intro hn hq)))
  by_cases hnq : n = q
  · subst hnq
    clear h1 h2 hn hq hlc1 hcm1 hlc2 hcm2
    have he := fun (t s : Tm) w => neq_tm t s w
    go_enter Try.func14, Try.ntmps14
    go_wp2_with fail
    go_loopw [5] (fun i wr => ∃ k d : Nat, k ≤ n ∧ i = .int .i64 (k : Int) ∧ l.take k = m.take k ∧ wr = w.drewN d) (fun i _ => n - (intOf i).toNat)
    case atStart => exact ⟨0, 0, Nat.zero_le _, rfl, by rw [List.take_zero, List.take_zero], rfl⟩
    case round =>
      obtain ⟨k, d, hk, rfl, htk, rfl⟩ := hrel
      by_cases hkn : k < n
      · have w2' : IntKind.i64.wrap ((k : Int) + 1) = k + 1 := by rw [IntKind.wrap_i64]; omega
        obtain ⟨b, o, t, rfl, hx, _, hcell⟩ := H.out.1.get hkn
        obtain ⟨b2, o2, s, rfl, hy, _, hcell2⟩ := H.out.2.1.get hkn
        have c0 := hcell 0 _ rfl
        have c1 := hcell 1 _ rfl
        have c2 := hcell 2 _ rfl
        have c3 := hcell 3 _ rfl
        rw [Nat.add_zero] at c0
        have e0 := hcell2 0 _ rfl
        have e1 := hcell2 1 _ rfl
        have e2 := hcell2 2 _ rfl
        have e3 := hcell2 3 _ rfl
        rw [Nat.add_zero] at e0
        have j0 : (0 : Int) ≤ (k : Int) := by omega
        have j1 : (k : Int) < (n : Int) := by omega
        have HX := hid (And.intro hx (And.intro hy htk))
        have hts := he t s
        clear hcell hcell2 hx hy htk
        cases hb : teq t s with
        | true =>
          rw [hb] at hts
          have HV := hid (of_decide_eq_true hb)
          clear hb he
          go_wp2_with fail
          go_quiet (fail)
          go_wp2_with fail
          refine ⟨⟨k + 1, d + nq, by omega, by go_num, ?_, by first | rfl | simp⟩, by simp [intOf]; omega⟩
          rw [List.take_add_one, List.take_add_one, HX.out.1, HX.out.2.1, HX.out.2.2, HV.out]
        | false =>
          rw [hb] at hts
          have HV := hid (of_decide_eq_false hb)
          clear hb he
          go_wp2_with fail
          go_quiet (fail)
          go_wp2_with fail
          go_ret
          refine ⟨ret_bool (decide_eq_false fun e => HV.out ?_).symm, d + nq, by first | rfl | simp⟩
          have hx := HX.out.1
          rw [e, HX.out.2.1] at hx
          exact (Option.some.inj hx).symm
      · have j1 : ¬ (k : Int) < (n : Int) := by omega
        have HV : Hid (l = m) := by
          have e1 := List.take_of_length_le (l := l) (i := k) (by have := H.out.2.2.1; omega)
          have e2 := List.take_of_length_le (l := m) (i := k) (by have := H.out.2.2.2; omega)
          rw [e1, e2] at htk
          exact htk
        clear htk he
        go_wp2_with fail
        go_ret
        exact ⟨ret_bool (decide_eq_true HV.out).symm, d, rfl⟩
  · have hnq' : ¬ (n : Int) = (q : Int) := by omega
    clear h1 h2 hn hq
    go_enter Try.func14, Try.ntmps14
    go_wp2
    go_ret
    exact ⟨ret_bool (decide_eq_false fun e => by have := H.out.2.2; rw [e] at this; omega).symm, 0, rfl⟩
end Go.Proofs.Ytaapfkfijahbmaa.Acl
