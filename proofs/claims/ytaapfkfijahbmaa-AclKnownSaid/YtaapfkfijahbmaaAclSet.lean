/- The contract of acl.Set. -/
import Derived.Test.YtaapfkfijahbmaaAclI
namespace Go.Proofs.Ytaapfkfijahbmaa.Acl
open Go Go.RowKit Go.Proofs.Ytaapfkfijahbmaa.Kit Go.Proofs.Ytaapfkfijahbmaa.Str Go.Proofs.Ytaapfkfijahbmaa.Term Go.Proofs.Ytaapfkfijahbmaa.Names
set_option linter.unusedSimpArgs false
set_option linter.unusedVariables false
/-- A list with a term. -/
def setL (l : List Tm) (t : Tm) : List Tm := l.filter (fun x => ltB x.1 t.1) ++ t :: l.filter (fun x => ltB t.1 x.1)
def hasB (l : List Tm) (u : List UInt8) : Bool := l.any fun x => x.1 == u
noncomputable def setE (l : List Tm) (t : Tm) : Nat := if mayL l = true then (if userB t.1 = true then (if hasB l t.1 = true ∨ l.length < 16 then 0 else 7) else 3) else 1
theorem filter_take {p : Tm → Bool} : ∀ {l : List Tm} {i : Nat}, (∀ q x, q < i → l[q]? = some x → p x = true) → (∀ q x, i ≤ q → l[q]? = some x → p x = false) → l.filter p = l.take i
  | [], i, _, _ => by simp
  | y :: l, 0, _, h => by
    rw [List.take_zero, List.filter_eq_nil_iff]
    intro x hx
    obtain ⟨q, hq⟩ := List.getElem?_of_mem hx
    rw [h q x (Nat.zero_le _) hq]
    decide
  | y :: l, i + 1, h, k => by
    rw [List.take_succ_cons, List.filter_cons, if_pos (h 0 y (by omega) rfl), filter_take (i := i) (fun q x hq hx => h (q + 1) x (by omega) (by simpa using hx)) (fun q x hq hx => k (q + 1) x (by omega) (by simpa using hx))]
theorem filter_drop {p : Tm → Bool} : ∀ {l : List Tm} {i : Nat}, (∀ q x, q < i → l[q]? = some x → p x = false) → (∀ q x, i ≤ q → l[q]? = some x → p x = true) → l.filter p = l.drop i
  | [], i, _, _ => by simp
  | y :: l, 0, _, h => by
    rw [List.drop_zero, List.filter_eq_self]
    intro x hx
    obtain ⟨q, hq⟩ := List.getElem?_of_mem hx
    exact h q x (Nat.zero_le _) hq
  | y :: l, i + 1, h, k => by
    rw [List.drop_succ_cons, List.filter_cons, if_neg (by rw [h 0 y (by omega) rfl]; decide), filter_drop (i := i) (fun q x hq hx => h (q + 1) x (by omega) (by simpa using hx)) (fun q x hq hx => k (q + 1) x (by omega) (by simpa using hx))]
theorem MayP.asc {l : List Tm} (h : MayP l) : Asc l := fun i t s h0 ht hs => (h.2 i t ht).2 s h0 hs
theorem Spot.yes {l : List Tm} {t : Tm} {i : Nat} (ha : Asc l) (h : Spot l t.1 i true) : i < l.length ∧ setL l t = l.take i ++ t :: l.drop (i + 1) ∧ hasB l t.1 = true := by
  obtain ⟨h1, h2, h3, h4⟩ := h
  obtain ⟨x, hx, e⟩ := h4.1 rfl
  have hi := (List.getElem?_eq_some_iff.1 hx).1
  refine ⟨hi, ?_, ?_⟩
  · unfold setL
    rw [filter_take h2 h3, filter_drop (i := i + 1)]
    · intro q y hq hy
      by_cases e2 : q = i
      · rw [e2, hx] at hy
        cases hy
        rw [e]; exact ltB_irrefl _
      · exact ltB_asymm (h2 q y (by omega) hy)
    · intro q y hq hy
      have := ha.lt (q - i - 1) i x y hx (by rw [show i + (q - i - 1) + 1 = q by omega]; exact hy)
      rw [e] at this
      exact this
  · unfold hasB
    rw [List.any_eq_true]
    exact ⟨x, List.mem_of_getElem? hx, by simp [e]⟩
theorem Spot.no {l : List Tm} {t : Tm} {i : Nat} (ha : Asc l) (h : Spot l t.1 i false) : i ≤ l.length ∧ setL l t = l.take i ++ t :: l.drop i ∧ hasB l t.1 = false := by
  obtain ⟨h1, h2, h3, h4⟩ := h
  have hne : ∀ (q : Nat) (x : Tm), l[q]? = some x → x.1 ≠ t.1 := by
    intro q x hx e
    by_cases hq : q < i
    · exact ltB_ne (h2 q x hq hx) e
    · by_cases e2 : q = i
      · rw [e2] at hx
        exact absurd (h4.2 ⟨x, hx, e⟩) (by decide)
      · have hil : i < l.length := by have := (List.getElem?_eq_some_iff.1 hx).1; omega
        have hy := List.getElem?_eq_getElem hil
        have := ha.lt (q - i - 1) i _ x hy (by rw [show i + (q - i - 1) + 1 = q by omega]; exact hx)
        rw [e] at this
        rw [h3 i _ (Nat.le_refl _) hy] at this
        cases this
  refine ⟨h1, ?_, ?_⟩
  · unfold setL
    rw [filter_take h2 h3, filter_drop (i := i)]
    · intro q y hq hy
      exact ltB_asymm (h2 q y hq hy)
    · intro q y hq hy
      exact ltB_total (hne q y hy) (h3 q y hq hy)
  · unfold hasB
    rw [List.any_eq_false]
    intro x hx
    obtain ⟨q, hq⟩ := List.getElem?_of_mem hx
    have := hne q x hq
    simpa using this
theorem flat_set {l : List Tm} {i : Nat} (hi : i < l.length) (t : Tm) : ((((flatOf tc l).set (i * 4) (st t.1)).set (i * 4 + 1) (.bool t.2.1)).set (i * 4 + 2) (.bool t.2.2.1)).set (i * 4 + 3) (.bool t.2.2.2) = flatOf tc (l.take i ++ t :: l.drop (i + 1)) := by
  have hA : (flatOf tc (l.take i)).length = i * 4 := by rw [flatOf_len tc_len, List.length_take]; congr 1; omega
  have hl : l = l.take i ++ l[i] :: l.drop (i + 1) := by rw [← List.drop_eq_getElem_cons hi, List.take_append_drop]
  have hf : flatOf tc l = flatOf tc (l.take i) ++ (tc l[i] ++ flatOf tc (l.drop (i + 1))) := by
    conv => lhs; rw [hl]
    rw [flatOf_app, flatOf_cons]
  rw [hf, flatOf_app, flatOf_cons, ← hA]
  generalize flatOf tc (l.take i) = A
  generalize l[i] = old
  generalize flatOf tc (l.drop (i + 1)) = B
  rw [List.set_append_right _ _ (Nat.le_refl _), Nat.sub_self, List.set_append_right _ _ (by omega), Nat.add_sub_cancel_left, List.set_append_right _ _ (by omega), Nat.add_sub_cancel_left, List.set_append_right _ _ (by omega), Nat.add_sub_cancel_left]
  rfl
theorem Sl.setTerm {w : World} {base : Nat} {e : TypeId} {g o n cap i : Nat} {l : List Tm} (h : Sl w base e 4 (.slice (some ⟨g, o, none⟩) n cap) n (flatOf tc l)) (hn : n = l.length) (hi : i < n) (t : Tm) :
    Sl ((((w.setCell ⟨g, o + i * 4, none⟩ (st t.1)).setCell ⟨g, o + i * 4 + 1, none⟩ (.bool t.2.1)).setCell ⟨g, o + i * 4 + 2, none⟩ (.bool t.2.2.1)).setCell ⟨g, o + i * 4 + 3, none⟩ (.bool t.2.2.2)) base e 4 (.slice (some ⟨g, o, none⟩) n cap) n (flatOf tc (l.take i ++ t :: l.drop (i + 1))) := by
  rw [← flat_set (by omega) t]
  have h0 := h.setAt (i * 4) (by omega) (st t.1)
  have h1 := h0.setAt (i * 4 + 1) (by omega) (.bool t.2.1)
  have h2 := h1.setAt (i * 4 + 2) (by omega) (.bool t.2.2.1)
  exact h2.setAt (i * 4 + 3) (by omega) (.bool t.2.2.2)
def SetPost (w : World) (l : List Tm) (t : Tm) (en : Ending) (w' : World) : Prop :=
  ∃ v, en = .returned (.tuple #[v, .int .i64 ((setE l t : Nat) : Int)]) ∧ (setE l t = 0 → Sl w' w.heap.size 26 4 v (setL l t).length (flatOf tc (setL l t))) ∧ (setE l t ≠ 0 → v = .slice none 0 0) ∧ New w w'
set_option maxRecDepth 100000 in
set_option maxHeartbeats 4000000 in
theorem set_any (v : Value) (l : List Tm) (t : Tm) (w : World) (h : LsAt 4 tc w v l) (hu : ∀ t ∈ l, t.1.length ≤ 9223372036854775807) (ht : t.1.length ≤ 9223372036854775807) (hl : l.length ≤ 1000000) :
    Calls Try.prog 10 #[v, tv t] w (SetPost w l t) := by
  have hnB := (New.refl w).alloc (.cells #[st t.1, .bool t.2.1, .bool t.2.2.1, .bool t.2.2.2] 26)
  have hB := Blk.new w 26 #[st t.1, .bool t.2.1, .bool t.2.2.1, .bool t.2.2.2]
  obtain ⟨a, c, hv, hlc, hcm, _⟩ := id h
  subst hv
  obtain ⟨n, hn⟩ : ∃ n, n = l.length := ⟨_, rfl⟩
  rw [← hn] at hlc hl h ⊢
  have H := hid (And.intro h (And.intro hn hu))
  clear h hn hu
  go_enter Try.func10, Try.ntmps10
  go_wp2_with fail
  generalize (w.alloc (.cells #[st t.1, .bool t.2.1, .bool t.2.2.1, .bool t.2.2.2] 26)) = w0 at *
  have hU0 := H.out.1.new_ hnB
  refine (may_any _ l H.out.2.2 w0 hU0).mono ?_
  rintro e w1 ⟨rfl, n1⟩
  have b1 := hB.new_ n1
  have n1 := hnB.step n1
  clear hU0 hB hnB
  cases hm : mayL l with
  | false =>
    have HE : Hid (setE l t = 1) := by unfold setE; rw [hm]; rfl
    clear hm
    go_wp2_with fail
    go_ret2
    exact ⟨_, by rw [HE.out]; rfl, fun h => absurd h (by rw [HE.out]; decide), fun _ => rfl, n1⟩
  | true =>
    have hmp := mayL_iff.1 hm
    have d0 : w1.cell? ⟨w.heap.size, 0, none⟩ = some (st t.1) := by rw [b1.cell]; rfl
    have HM := hid (And.intro hm hmp)
    have HB1 := hid (And.intro b1 n1)
    clear hm hmp b1 n1
    go_wp2_with fail
    refine (user_new t.1 ht w1).mono ?_
    rintro e w2 ⟨rfl, n2⟩
    have b2 := HB1.out.1.new_ n2
    have n2 := HB1.out.2.step n2
    clear d0
    cases hu : userB t.1 with
    | false =>
      have HE : Hid (setE l t = 3) := by unfold setE; rw [if_pos HM.out.1, if_neg (by rw [hu]; decide)]; rfl
      clear hu
      go_wp2_with fail
      go_ret2
      exact ⟨_, by rw [HE.out]; rfl, fun h => absurd h (by rw [HE.out]; decide), fun _ => rfl, n2⟩
    | true =>
      have HE : Hid (setE l t = if hasB l t.1 = true ∨ l.length < 16 then 0 else 7) := by unfold setE; rw [if_pos HM.out.1, if_pos hu]; rfl
      have h2 := H.out.1.new_ n2
      have HB2 := hid (And.intro b2 (And.intro n2 h2))
      clear hu b2 n2 h2
      go_wp2_with fail
      refine (clone_any _ l w2 HB2.out.2.2 (by rw [← H.out.2.1]; exact hl)).mono ?_
      rintro e w3 ⟨v3, rfl, s3, n3⟩
      rw [← H.out.2.1] at s3
      have hs3v := s3.val
      have s3 := s3.mono (New.size HB2.out.2.1)
      have b3 := HB2.out.1.new_ n3
      have n3 := HB2.out.2.1.step n3
      have d0 : w3.cell? ⟨w.heap.size, 0, none⟩ = some (st t.1) := by rw [b3.cell]; rfl
      have d1 : w3.cell? ⟨w.heap.size, 1, none⟩ = some (.bool t.2.1) := by rw [b3.cell]; rfl
      have d2 : w3.cell? ⟨w.heap.size, 2, none⟩ = some (.bool t.2.2.1) := by rw [b3.cell]; rfl
      have d3 : w3.cell? ⟨w.heap.size, 3, none⟩ = some (.bool t.2.2.2) := by rw [b3.cell]; rfl
      have ls3 : LsAt 4 tc w3 v3 l := by
        refine LsAt.of_sl (base := w.heap.size) (e := 26) tc_len ?_
        rw [← H.out.2.1]
        exact s3
      have HB3 := hid (And.intro b3 (And.intro n3 (And.intro s3 ls3)))
      clear b3 n3 s3 ls3
      go_wp2_with fail
      refine (search_any v3 l t w3 HB3.out.2.2.2 (MayP.asc HM.out.2) (by rw [← H.out.2.1]; exact hl)).mono ?_
      rintro e w4 ⟨⟨i, ok, rfl, spot⟩, n4⟩
      have b4 := HB3.out.1.new_ n4
      have s4 := HB3.out.2.2.1.new_ n4
      have n4 := HB3.out.2.1.step n4
      clear d0 d1 d2 d3
      have d0 : w4.cell? ⟨w.heap.size, 0, none⟩ = some (st t.1) := by rw [b4.cell]; rfl
      have d1 : w4.cell? ⟨w.heap.size, 1, none⟩ = some (.bool t.2.1) := by rw [b4.cell]; rfl
      have d2 : w4.cell? ⟨w.heap.size, 2, none⟩ = some (.bool t.2.2.1) := by rw [b4.cell]; rfl
      have d3 : w4.cell? ⟨w.heap.size, 3, none⟩ = some (.bool t.2.2.2) := by rw [b4.cell]; rfl
      obtain ⟨a3, c3, rfl⟩ := hs3v
      cases ok with
      | true =>
        obtain ⟨hin, hset, hhas⟩ := Spot.yes (MayP.asc HM.out.2) spot
        have hin' : i < n := by rw [H.out.2.1]; exact hin
        obtain ⟨g3, o3, cp, hv3, hb3, hg3, hnc, hcell, hfr⟩ := s4.form (by omega)
        cases hv3
        have hc := fun j u (hu : (tc (l[i]'hin))[j]? = some u) => hcell (i * 4 + j) u (flatOf_get tc_len (List.getElem?_eq_getElem hin) hu)
        generalize l[i]'hin = old at hc
        have e0 := hc 0 _ rfl
        have e1 := hc 1 _ rfl
        have e2 := hc 2 _ rfl
        have e3 := hc 3 _ rfl
        simp only [← Nat.add_assoc, Nat.add_zero] at e0 e1 e2 e3
        have f0 := hfr (o3 + i * 4)
        have f1 := hfr (o3 + i * 4 + 1)
        have f2 := hfr (o3 + i * 4 + 2)
        have f3 := hfr (o3 + i * 4 + 3)
        have i0 : (0 : Int) ≤ (i : Int) := by omega
        have i1 : (i : Int) < (n : Int) := by omega
        have HS := hid (And.intro s4 (And.intro n4 (And.intro hset (And.intro hhas hin))))
        clear s4 n4 hset hhas hin hc hcell hfr spot b4
        go_wp2_with fail
        go_ret2
        have hsl := Sl.setTerm HS.out.1 H.out.2.1 hin' t
        have hE0 : setE l t = 0 := by rw [HE.out, if_pos (.inl HS.out.2.2.2.1)]
        have hln : (l.take i ++ t :: l.drop (i + 1)).length = n := by
          have := H.out.2.1
          rw [List.length_append, List.length_take, List.length_cons, List.length_drop]; omega
        refine ⟨_, by rw [hE0]; rfl, fun _ => ?_, fun h => absurd hE0 h, ?_⟩
        · rw [HS.out.2.2.1, hln]
          exact hsl
        · exact (((HS.out.2.1.setCell hb3 _).setCell hb3 _).setCell hb3 _).setCell hb3 _
      | false =>
        obtain ⟨hin, hset, hhas⟩ := Spot.no (MayP.asc HM.out.2) spot
        by_cases h16 : 16 ≤ n
        · have h16' : decide ((16 : Int) ≤ (n : Int)) = true := decide_eq_true (by omega)
          have h16'' : (16 : Int) ≤ (n : Int) := by omega
          have HE2 : Hid (setE l t = 7) := by
            rw [HE.out, if_neg (by
              have := H.out.2.1
              rw [hhas]
              rintro (h | h)
              · cases h
              · omega)]
            exact rfl
          have HN := hid n4
          clear s4 n4 hset hhas hin spot b4
          go_wp2_with fail
          go_ret2
          exact ⟨_, by rw [HE2.out]; rfl, fun h => absurd h (by rw [HE2.out]; decide), fun _ => rfl, HN.out⟩
        · have h16' : decide ((16 : Int) ≤ (n : Int)) = false := decide_eq_false (by omega)
          have h16'' : ¬ (16 : Int) ≤ (n : Int) := by omega
          have hin' : i ≤ n := by rw [H.out.2.1]; exact hin
          have HE2 : Hid (setE l t = 0) := by
            rw [HE.out, if_pos (.inr (by have := H.out.2.1; omega))]
            exact rfl
          have hlt4 := s4.lt
          have HS := hid (And.intro s4 (And.intro n4 (And.intro hset hlt4)))
          have hsz4 := New.size n4
          clear s4 n4 hset hhas hin spot b4 hlt4
          go_wp2_with fail
          refine (insert_any _ w.heap.size (by rw [World.size_alloc]; omega) (.slice a3 n c3) (flatOf tc l) n i (HS.out.1.alloc _) (by omega) hin' (fun u hu => by
            obtain ⟨x, _, hx⟩ := List.mem_flatMap.1 hu
            exact tc_one x u hx) w4.heap.size (tc t) rfl (Blk.new w4 _ _) (fun e => by have := HS.out.2.2.2 _ e; omega) (tc_one t)).mono ?_
          rintro e w6 ⟨v6, rfl, s6, k6⟩
          have hfin : Sl w6 w.heap.size 26 4 v6 (setL l t).length (flatOf tc (setL l t)) := by
            rw [HS.out.2.2.1, flatOf_app, flatOf_cons]
            rw [flatOf_take tc_len, flatOf_drop tc_len] at s6
            have hln : (l.take i ++ t :: l.drop i).length = n + 1 := by
              have := H.out.2.1
              rw [List.length_append, List.length_take, List.length_cons, List.length_drop]; omega
            rw [hln, ← List.append_assoc]
            exact s6
          have hn6 : New w w6 := (HS.out.2.1.alloc _).kept k6 (fun k hk => (HS.out.2.2.2 k hk).1)
          have HF := hid (And.intro hfin hn6)
          clear s6 k6 hfin hn6
          go_wp2_with fail
          go_ret2
          exact ⟨_, by rw [HE2.out]; rfl, fun _ => HF.out.1, fun h => absurd HE2.out h, HF.out.2⟩
end Go.Proofs.Ytaapfkfijahbmaa.Acl
