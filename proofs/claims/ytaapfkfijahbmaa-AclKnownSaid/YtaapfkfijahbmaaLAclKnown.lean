/- The walk of AclKnown. -/
import Derived.Test.YtaapfkfijahbmaaAclPure
import Derived.Test.YtaapfkfijahbmaaAclOpen
import Derived.Test.YtaapfkfijahbmaaAclRefS
import Derived.Laws.IdiomStrings
namespace Go.Proofs.Ytaapfkfijahbmaa.Law
open Go Go.RowKit Go.ChangeShapes Go.WideShapes Go.Proofs.Ytaapfkfijahbmaa.Kit Go.Proofs.Ytaapfkfijahbmaa.Str Go.Proofs.Ytaapfkfijahbmaa.Term Go.Proofs.Ytaapfkfijahbmaa.Acl Go.Proofs.Ytaapfkfijahbmaa.Open
set_option linter.unusedSimpArgs false
set_option linter.unusedVariables false
def fr : Fl := (true, false, false)
def fw : Fl := (false, true, false)
def L1 : List Tm := [([117], fr)]
def L2 : List Tm := [([42], fw), ([117], fr)]
def L3 : List Tm := [([42], fw), ([117], zf)]
def mk (k : Nat) : Tm := ([UInt8.ofNat (97 + k)], zf)
def many (k : Nat) : List Tm := (List.range k).map mk
theorem many_len (k : Nat) : (many k).length = k := by simp [many]
theorem many_succ (k : Nat) : many (k + 1) = many k ++ [mk k] := by unfold many; rw [List.range_succ, List.map_append]; rfl
theorem m1 : MayP L1 := MayP.of (by decide) (by decide) (by unfold Srt; decide)
theorem m2 : MayP L2 := MayP.of (by decide) (by decide) (by unfold Srt; decide)
theorem m3 : MayP L3 := MayP.of (by decide) (by decide) (by unfold Srt; decide)
theorem m16 : MayP (many 16) := MayP.of (by decide) (by decide +kernel) (by unfold Srt; decide +kernel)
theorem setE_ok {l : List Tm} {t : Tm} (h : MayP l) (hu : userB t.1 = true) (hs : hasB l t.1 = true ∨ l.length < 16) : setE l t = 0 := by unfold setE; rw [if_pos (mayL_iff.2 h), if_pos hu, if_pos hs]
theorem setE_name {l : List Tm} {t : Tm} (h : MayP l) (hu : userB t.1 = false) : setE l t = 3 := by unfold setE; rw [if_pos (mayL_iff.2 h), hu]; rfl
theorem setE_arg {l : List Tm} {t : Tm} (h : ¬ MayP l) : setE l t = 1 := by unfold setE; rw [mayL_no.2 h]; rfl
theorem setE_full {l : List Tm} {t : Tm} (h : MayP l) (hu : userB t.1 = true) (hb : hasB l t.1 = false) (hl : ¬ l.length < 16) : setE l t = 7 := by
  unfold setE; rw [if_pos (mayL_iff.2 h), if_pos hu, if_neg (by rw [hb]; rintro (h | h); cases h; exact hl h)]
theorem e1 : setE [] ([117], fr) = 0 := setE_ok (mayL_iff.1 mayL_nil) (by decide) (by decide)
theorem s1 : setL [] ([117], fr) = L1 := by decide
theorem e2 : setE L1 ([42], fw) = 0 := setE_ok m1 (by decide) (by decide)
theorem s2 : setL L1 ([42], fw) = L2 := by decide
theorem e3 : setE L2 ([117], zf) = 0 := setE_ok m2 (by decide) (by decide)
theorem s3 : setL L2 ([117], zf) = L3 := by decide
theorem e4 : setE L1 ([97, 32, 98], zf) = 3 := setE_name m1 (by decide)
theorem nob : ¬ MayP [([98], zf), ([97], zf)] := fun h => by
  have := (h.2 1 ([97], zf) rfl).2 ([98], zf) (by decide) rfl
  exact absurd this (by decide)
theorem noa : ¬ MayP [([97], zf), ([97], zf)] := fun h => by
  have := (h.2 1 ([97], zf) rfl).2 ([97], zf) (by decide) rfl
  exact absurd this (by decide)
theorem e5 : setE [([98], zf), ([97], zf)] ([99], zf) = 1 := setE_arg nob
theorem e6 : setE (many 16) ([122], zf) = 7 := setE_full m16 (by decide) (by decide +kernel) (by decide)
theorem e7 : setE (many 16) ([97], fr) = 0 := setE_ok m16 (by decide) (by decide +kernel)
theorem l7 : (setL (many 16) ([97], fr)).length = 16 := by decide +kernel
theorem f1 : findF L2 [117] = fr := by rw [findF_may m2]; decide
theorem f2 : findF L2 [120] = fw := by rw [findF_may m2]; decide
theorem f3 : findF L3 [117] = zf := by rw [findF_may m3]; decide
theorem f4 : findF (setL (many 16) ([97], fr)) [97] = fr := by rw [findF_may (may_setL m16 (by decide) (.inl (by decide +kernel))), look_set_self (MayP.srt m16) (t := ([97], fr))]; rfl
theorem ls_two (w : World) (t s : Tm) : LsAt 4 tc (w.alloc (.cells #[st t.1, .bool t.2.1, .bool t.2.2.1, .bool t.2.2.2, st s.1, .bool s.2.1, .bool s.2.2.1, .bool s.2.2.2] 26)) (.slice (some ⟨w.heap.size, 0, none⟩) 2 2) [t, s] := by
  refine LsAt.of_sl (base := 0) (e := 26) tc_len ⟨rfl, .inr ⟨w.heap.size, 0, 2, _, rfl, Nat.zero_le _, Blk.new w _ _, Nat.le_refl _, by unfold maxLen; decide, ?_, ?_⟩⟩
  · simp
  · simp [flatOf, tc]
theorem small_users {l : List Tm} (h : ∀ t ∈ l, t.1.length ≤ 1000) : ∀ t ∈ l, t.1.length ≤ 9223372036854775807 := fun t ht => by have := h t ht; omega
/-- What a Set that goes well leaves. -/
theorem set_ok (v : Value) (l r : List Tm) (t : Tm) (w : World) (h : LsAt 4 tc w v l) (hu : ∀ t ∈ l, t.1.length ≤ 1000) (ht : t.1.length ≤ 1000) (hl : l.length ≤ 1000) (he : setE l t = 0) (hr : setL l t = r) (n : Nat) (hn : r.length = n) :
    Calls Try.prog 10 #[v, tv t] w fun e w' => ∃ a c, e = .returned (.tuple #[.slice a n c, .int .i64 0]) ∧ LsAt 4 tc w' (.slice a n c) r ∧ New w w' := by
  subst hn
  refine (set_any v l t w h (small_users hu) (by omega) (by omega)).mono ?_
  rintro e w' ⟨v', rfl, h0, _, hn⟩
  rw [he, hr] at *
  have hs := h0 rfl
  obtain ⟨a, c, rfl⟩ := hs.val
  exact ⟨a, c, rfl, LsAt.of_sl tc_len hs, hn⟩
theorem set_no (v : Value) (l : List Tm) (t : Tm) (w : World) (E : Nat) (h : LsAt 4 tc w v l) (hu : ∀ t ∈ l, t.1.length ≤ 1000) (ht : t.1.length ≤ 1000) (hl : l.length ≤ 1000) (he : setE l t = E) (hE : E ≠ 0) :
    Calls Try.prog 10 #[v, tv t] w fun e w' => e = .returned (.tuple #[.slice none 0 0, .int .i64 (E : Int)]) ∧ New w w' := by
  refine (set_any v l t w h (small_users hu) (by omega) (by omega)).mono ?_
  rintro e w' ⟨v', rfl, _, h0, hn⟩
  rw [he] at *
  rw [h0 hE]
  exact ⟨rfl, hn⟩
theorem find_ok (v : Value) (l : List Tm) (u : List UInt8) (f : Fl) (w : World) (h : LsAt 4 tc w v l) (hu : ∀ t ∈ l, t.1.length ≤ 1000) (hl : l.length ≤ 1000) (hf : findF l u = f) :
    Calls Try.prog 11 #[v, st u] w fun e w' => e = .returned (fv f) ∧ New w w' := by
  refine (find_any v l u w h (small_users hu) (by omega)).mono ?_
  intro e w' hh
  unfold FindPost at hh
  rw [hf] at hh
  exact hh
theorem one_back (w : World) (k : Nat) (hk : k < 16) : (convert 34 9 (.slice (some ⟨w.heap.size, 0, none⟩) 1 1)).run Try.prog (w.alloc (.cells #[.int .u8 (97 + (k : Int))] 5)) = .ok (st (mk k).1) (w.alloc (.cells #[.int .u8 (97 + (k : Int))] 5)) :=
  run_convert_bytes_back (P := Try.prog) (w.alloc (.cells #[.int .u8 (97 + (k : Int))] 5)) 34 9 5 ⟨w.heap.size, 0, none⟩ 1 (mk k).1 Try.underlying34 Try.underlying5 Try.underlying9 (fun q hq => by
    have hq0 : q = 0 := by have : (mk k).1.length = 1 := rfl; omega
    subst hq0
    rw [Addr.add_lit, Nat.zero_add, (Blk.new w 5 #[.int .u8 (97 + (k : Int))]).cell]
    have e : ((UInt8.ofNat (97 + k)).toNat : Int) = 97 + (k : Int) := by rw [UInt8.toNat_ofNat', Nat.mod_eq_of_lt (by omega)]; omega
    show some (Value.int .u8 (97 + (k : Int))) = some (.int .u8 ((UInt8.ofNat (97 + k)).toNat : Int))
    rw [e])
set_option maxRecDepth 100000 in
set_option maxHeartbeats 8000000 in
theorem aclKnown_walk (w : World) : Calls Try.prog 4 #[] w fun e w' => e = .returned (.bool true) ∧ New w w' := by
  obtain ⟨ti, hti, hzz⟩ := Option.map_eq_some_iff.1 term_info
  simp only [Prod.mk.injEq] at hzz
  have HT := hid (And.intro hti hzz)
  clear hti hzz
  have he := fun (a b c a' b' c' : Bool) w => eql_fl a b c a' b' c' w
  have hs1 : feq (true, false, false) (true, false, false) = true := by decide
  have hs2 : feq (false, true, false) (false, true, false) = true := by decide
  have hs3 : feq (false, false, false) (false, false, false) = true := by decide
  go_enter Try.func4, Try.ntmps4
  go_wp2_with fail
  refine (awake_any w).mono ?_
  rintro e w1 ⟨rfl, n1⟩
  have hA := (Blk.new w1 24 #[.bool true, .bool false, .bool false]).alloc (.cells #[.bool false, .bool true, .bool false] 24)
  have hB := Blk.new (w1.alloc (.cells #[.bool true, .bool false, .bool false] 24)) 24 #[.bool false, .bool true, .bool false]
  rw [World.size_alloc] at hB
  have hn := (n1.alloc (.cells #[.bool true, .bool false, .bool false] 24)).alloc (.cells #[.bool false, .bool true, .bool false] 24)
  go_wp2_with fail
  generalize ((w1.alloc (.cells #[.bool true, .bool false, .bool false] 24)).alloc (.cells #[.bool false, .bool true, .bool false] 24)) = w2 at *
  obtain ⟨G, hG⟩ : ∃ G, G = w1.heap.size := ⟨_, rfl⟩
  obtain ⟨G', hG'⟩ : ∃ G', G' = w1.heap.size + 1 := ⟨_, rfl⟩
  rw [← hG'] at hB ⊢
  rw [← hG] at hA ⊢
  clear hG hG' n1
  have HD : Hid (∀ X : World, New w2 X → (X.cell? ⟨G, 0, none⟩ = some (.bool true) ∧ X.cell? ⟨G, 1, none⟩ = some (.bool false) ∧ X.cell? ⟨G, 2, none⟩ = some (.bool false)) ∧ X.cell? ⟨G', 0, none⟩ = some (.bool false) ∧ X.cell? ⟨G', 1, none⟩ = some (.bool true) ∧ X.cell? ⟨G', 2, none⟩ = some (.bool false)) := fun X hX => by
    have hA' := hA.new_ hX
    have hB' := hB.new_ hX
    refine ⟨⟨?_, ?_, ?_⟩, ?_, ?_, ?_⟩ <;> first | (rw [hA'.cell]; rfl) | (rw [hB'.cell]; rfl)
  have HN := hid hn
  clear hA hB hn
  refine (set_ok _ [] L1 ([117], fr) w2 LsAt.nil (by decide) (by decide) (by decide) e1 s1 1 rfl).mono ?_
  rintro e w3 ⟨a1, c1, rfl, l1, n3⟩
  obtain ⟨⟨p0, p1, p2⟩, q0, q1, q2⟩ := HD.out w3 n3
  go_wp2_with fail
  refine (set_ok _ L1 L2 ([42], fw) w3 l1 (by decide) (by decide) (by decide) e2 s2 2 rfl).mono ?_
  rintro e w4 ⟨a2, c2, rfl, l2, n4⟩
  clear p0 p1 p2 q0 q1 q2
  go_wp2_with fail
  refine (set_ok _ L2 L3 ([117], zf) w4 l2 (by decide) (by decide) (by decide) e3 s3 2 rfl).mono ?_
  rintro e w5 ⟨a3, c3, rfl, l3, n5⟩
  go_wp2_with fail
  refine (set_no _ L1 ([97, 32, 98], zf) w5 3 ((l1.new_ n4).new_ n5) (by decide) (by decide) (by decide) e4 (by decide)).mono ?_
  rintro e w6 ⟨rfl, n6⟩
  go_wp2_with fail
  have b6 := ls_two w6 ([98], zf) ([97], zf)
  have m6 := (New.refl w6).alloc (.cells #[st [98], .bool zf.1, .bool zf.2.1, .bool zf.2.2, st [97], .bool zf.1, .bool zf.2.1, .bool zf.2.2] 26)
  refine (set_no _ [([98], zf), ([97], zf)] ([99], zf) _ 1 b6 (by decide) (by decide) (by decide) e5 (by decide)).mono ?_
  rintro e w7 ⟨rfl, n7⟩
  have n37 := ((n4.step n5).step n6).step (m6.step n7)
  have n27 := n3.step n37
  clear m6 b6
  have k1 := l1.new_ n37
  have k2 := l2.new_ ((n5.step n6).step (((New.refl w6).alloc (.cells #[st [98], .bool zf.1, .bool zf.2.1, .bool zf.2.2, st [97], .bool zf.1, .bool zf.2.1, .bool zf.2.2] 26)).step n7))
  have k3 := l3.new_ (n6.step (((New.refl w6).alloc (.cells #[st [98], .bool zf.1, .bool zf.2.1, .bool zf.2.2, st [97], .bool zf.1, .bool zf.2.1, .bool zf.2.2] 26)).step n7))
  have HN7 := hid (And.intro (HN.out.step n27) (And.intro k1 (And.intro k2 (And.intro k3 (And.intro n37 n27)))))
  clear k1 k2 k3 l1 l2 l3 n3 n4 n5 n6 n7 n37 n27
  go_wp2_with fail
  go_loopw [13, 14] (fun x i wr => ∃ k : Nat, k ≤ 16 ∧ i = .int .i64 (k : Int) ∧ Sl wr w7.heap.size 26 4 x k (flatOf tc (many k)) ∧ New w7 wr) (fun _ i _ => 16 - (intOf i).toNat)
  case atStart => exact ⟨0, by omega, rfl, Sl.nil _ _ _ _, New.refl _⟩
  case round =>
    obtain ⟨k, hk, rfl, hsl, hnr⟩ := hrel
    have hvs := hsl.val
    obtain ⟨a4, c4, rfl⟩ := hvs
    have hszr := hnr.size
    by_cases hkn : k < 16
    · have w2' : IntKind.i64.wrap ((k : Int) + 1) = k + 1 := by rw [IntKind.wrap_i64]; omega
      have hu1 : IntKind.u8.wrap (k : Int) = k := by rw [IntKind.wrap_u8]; omega
      have hu2 : IntKind.u8.wrap (97 + (k : Int)) = 97 + k := by rw [IntKind.wrap_u8]; omega
      have hcb := one_back wr k hkn
      have j1 : (k : Int) < 16 := by omega
      have HX := hid (And.intro hsl hnr)
      clear hsl hnr
      go_wp2_with (at_builtin; refine wpList_append_sl _ rfl (.tmp 60) (.tmp 67) 22 rfl w7.heap.size 26 ti _ 4 24 Try.underlying22 HT.out.1 HT.out.2.1 HT.out.2.2.1 HT.out.2.2.2 rfl (by decide) (.slice a4 k c4) k _ rfl ((HX.out.1.alloc _).alloc _) ⟨wr.heap.size + 1, 0, none⟩ 1 1 (tc (mk k)) rfl (by decide) rfl (news_tm (t := mk k) (by have := Blk.new (wr.alloc (.cells #[.int .u8 (97 + (k : Int))] 5)) 26 #[st (mk k).1, .bool false, .bool false, .bool false]; rw [World.size_alloc] at this; exact this)) (tc_one (mk k)) (by unfold maxLen; omega) (by omega) (by rw [World.size_alloc, World.size_alloc]; omega) ?_; intro v6 w6' hs6 hg6 hb6)
      refine ⟨⟨k + 1, by omega, by go_num, ?_, grown_one (HX.out.2.alloc _) (HX.out.1.alloc _) (Nat.le_refl _) hg6⟩, by simp [intOf]; omega⟩
      rw [many_succ, flatOf_app, flatOf_one]
      exact hs6
    · have ek : k = 16 := by omega
      subst ek
      have HX := hid (And.intro hsl hnr)
      clear hsl hnr
      go_wp2_with fail
      have hlen : (many 16).length = 16 := many_len 16
      refine (set_no _ (many 16) ([122], zf) wr 7 (LsAt.of_sl tc_len (by rw [hlen]; exact HX.out.1)) (by decide +kernel) (by decide) (by decide +kernel) e6 (by decide)).mono ?_
      rintro e w8 ⟨rfl, n8⟩
      have n28 := HN7.out.2.2.2.2.2.step (HX.out.2.step n8)
      obtain ⟨⟨p0, p1, p2⟩, q0, q1, q2⟩ := HD.out w8 n28
      go_wp2_with fail
      refine (set_ok _ (many 16) _ ([97], fr) w8 (LsAt.of_sl tc_len (by rw [hlen]; exact HX.out.1.new_ n8)) (by decide +kernel) (by decide) (by decide +kernel) e7 rfl 16 l7).mono ?_
      rintro e w9 ⟨a5, c5, rfl, l9, n9⟩
      have HN9 := hid (And.intro n9 (And.intro (n28.step n9) (And.intro l9 (HX.out.2.step (n8.step n9)))))
      clear p0 p1 p2 q0 q1 q2 n8 n9 l9 n28
      obtain ⟨⟨p0, p1, p2⟩, q0, q1, q2⟩ := HD.out w9 HN9.out.2.1
      have k2 := HN7.out.2.2.1.new_ HN9.out.2.2.2
      have k3 := HN7.out.2.2.2.1.new_ HN9.out.2.2.2
      have l9 := HN9.out.2.2.1
      obtain ⟨b2, o2, y2, e2', hy2, _, hcell2⟩ := k2.get (show 0 < 2 by decide)
      subst e2'
      have hy2' : y2 = ([42], fw) := (Option.some.inj hy2).symm
      subst hy2'
      have m0 := hcell2 0 _ rfl
      rw [Nat.zero_mul, Nat.add_zero] at m0
      have hF1 : ∀ X, New w9 X → Calls Try.prog 11 #[.slice (some ⟨b2, o2, none⟩) 2 c2, .string ⟨#[117]⟩] X fun e w' => e = .returned (.agg #[.bool true, .bool false, .bool false]) ∧ New X w' := fun X hX => find_ok _ L2 [117] fr X (k2.new_ hX) (by decide) (by decide) f1
      have hF2 : ∀ X, New w9 X → Calls Try.prog 11 #[.slice (some ⟨b2, o2, none⟩) 2 c2, .string ⟨#[120]⟩] X fun e w' => e = .returned (.agg #[.bool false, .bool true, .bool false]) ∧ New X w' := fun X hX => find_ok _ L2 [120] fw X (k2.new_ hX) (by decide) (by decide) f2
      have hF3 : ∀ X, New w9 X → Calls Try.prog 11 #[.slice a3 2 c3, .string ⟨#[117]⟩] X fun e w' => e = .returned (.agg #[.bool false, .bool false, .bool false]) ∧ New X w' := fun X hX => find_ok _ L3 [117] zf X (k3.new_ hX) (by decide) (by decide) f3
      have hF4 : ∀ X, New w9 X → Calls Try.prog 11 #[.slice a5 16 c5, .string ⟨#[97]⟩] X fun e w' => e = .returned (.agg #[.bool true, .bool false, .bool false]) ∧ New X w' := fun X hX => find_ok _ _ [97] fr X (by have := l9.new_ hX; exact this) (by decide +kernel) (by decide +kernel) f4
      have hUM : ∀ X, Calls Try.prog 13 #[.string ⟨#[117]⟩] X fun e w' => e = .returned (.bool true) ∧ New X w' := fun X => usermay_new [117] (by decide) X
      have hMA : ∀ X : World, Calls Try.prog 12 #[.slice (some ⟨X.heap.size, 0, none⟩) 2 2] (X.alloc (.cells #[.string ⟨#[97]⟩, .bool false, .bool false, .bool false, .string ⟨#[97]⟩, .bool false, .bool false, .bool false] 26)) fun e w' => e = .returned (.bool false) ∧ New (X.alloc (.cells #[.string ⟨#[97]⟩, .bool false, .bool false, .bool false, .string ⟨#[97]⟩, .bool false, .bool false, .bool false] 26)) w' := fun X => by
        have := may_any _ [([97], zf), ([97], zf)] (by decide) _ (ls_two X ([97], zf) ([97], zf))
        rw [mayL_no.2 noa] at this
        exact this
      have HE9 := hid (HN.out.step HN9.out.2.1)
      clear k2 k3 l9 hcell2 hy2
      go_wp2_with fail
      simp only [List.append_eq, List.cons_append, List.nil_append]
      have hKn1 := hid (show ∀ w' : World, New w9 w' → (w'.cell? ⟨G, 0, none⟩ = some (.bool true) ∧ w'.cell? ⟨G, 1, none⟩ = some (.bool false) ∧ w'.cell? ⟨G, 2, none⟩ = some (.bool false) ∧ w'.cell? ⟨G', 0, none⟩ = some (.bool false) ∧ w'.cell? ⟨G', 1, none⟩ = some (.bool true) ∧ w'.cell? ⟨G', 2, none⟩ = some (.bool false) ∧ w'.cell? ⟨b2, o2, none⟩ = some (.string ⟨#[42]⟩) ∧ New w9 w') from fun w' h => ⟨h.cellK p0, h.cellK p1, h.cellK p2, h.cellK q0, h.cellK q1, h.cellK q2, h.cellK m0, h⟩)
      go_region_held3 (fun w' => w'.cell? ⟨G, 0, none⟩ = some (.bool true) ∧ w'.cell? ⟨G, 1, none⟩ = some (.bool false) ∧ w'.cell? ⟨G, 2, none⟩ = some (.bool false) ∧ w'.cell? ⟨G', 0, none⟩ = some (.bool false) ∧ w'.cell? ⟨G', 1, none⟩ = some (.bool true) ∧ w'.cell? ⟨G', 2, none⟩ = some (.bool false) ∧ w'.cell? ⟨b2, o2, none⟩ = some (.string ⟨#[42]⟩) ∧ New w9 w') (first | exact hKn1.out _ (by repeat (first | exact New.refl _ | assumption | apply New.alloc | apply New.drewN | apply New.drew | (refine New.step ?_ (by assumption)))) | assumption) (first | (go_at_call 11; (with_reducible refine (hF1 _ (by first | exact (show _ ∧ _ ∧ _ ∧ _ ∧ _ ∧ _ ∧ _ ∧ New w9 _ by assumption).2.2.2.2.2.2.2 | exact New.drew (show _ ∧ _ ∧ _ ∧ _ ∧ _ ∧ _ ∧ _ ∧ New w9 _ by assumption).2.2.2.2.2.2.2)).mono ?_); rintro e w' ⟨rfl, hn⟩) | (go_at_call 11; (with_reducible refine (hF2 _ (by first | exact (show _ ∧ _ ∧ _ ∧ _ ∧ _ ∧ _ ∧ _ ∧ New w9 _ by assumption).2.2.2.2.2.2.2 | exact New.drew (show _ ∧ _ ∧ _ ∧ _ ∧ _ ∧ _ ∧ _ ∧ New w9 _ by assumption).2.2.2.2.2.2.2)).mono ?_); rintro e w' ⟨rfl, hn⟩) | (go_at_call 11; (with_reducible refine (hF3 _ (by first | exact (show _ ∧ _ ∧ _ ∧ _ ∧ _ ∧ _ ∧ _ ∧ New w9 _ by assumption).2.2.2.2.2.2.2 | exact New.drew (show _ ∧ _ ∧ _ ∧ _ ∧ _ ∧ _ ∧ _ ∧ New w9 _ by assumption).2.2.2.2.2.2.2)).mono ?_); rintro e w' ⟨rfl, hn⟩) | (go_at_call 11; (with_reducible refine (hF4 _ (by first | exact (show _ ∧ _ ∧ _ ∧ _ ∧ _ ∧ _ ∧ _ ∧ New w9 _ by assumption).2.2.2.2.2.2.2 | exact New.drew (show _ ∧ _ ∧ _ ∧ _ ∧ _ ∧ _ ∧ _ ∧ New w9 _ by assumption).2.2.2.2.2.2.2)).mono ?_); rintro e w' ⟨rfl, hn⟩) | (go_at_call 12; (with_reducible refine (hMA _).mono ?_); rintro e w' ⟨rfl, hn⟩) | (go_at_call 13; (with_reducible refine (hUM _).mono ?_); rintro e w' ⟨rfl, hn⟩))
      all_goals
        have hnF : New w w' := HE9.out.step (show _ ∧ _ ∧ _ ∧ _ ∧ _ ∧ _ ∧ _ ∧ New w9 w' by assumption).2.2.2.2.2.2.2
        go_wp2
        go_ret
        exact ⟨rfl, hnF⟩
theorem aclKnown_row {H : Type} {enc : TypeId × Value → H} (W : World) {base : Nat}
    : Calls Try.prog 4 #[] W fun e W' => e = .returned (.bool true) ∧ Below W.heap.size W W' := by
  exact aclKnown_walk W
end Go.Proofs.Ytaapfkfijahbmaa.Law
