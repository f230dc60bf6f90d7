/- The walk of ReferMany. -/
import Derived.Test.YtakhidieomalhaaReferMany
import Derived.Test.YtakhidieomalhaaOpenG
import Derived.BigQuiet
namespace Go.Proofs.Ytakhidieomalhaa.Law
open Go Go.RowKit Go.ChangeMaps Go.ChangeShapes Go.WideShapes Go.Proofs.Ytakhidieomalhaa.Kit Go.Proofs.Ytakhidieomalhaa.Str Go.Proofs.Ytakhidieomalhaa.Names Go.Proofs.Ytakhidieomalhaa.Refer Go.Proofs.Ytakhidieomalhaa.Open
set_option linter.unusedSimpArgs false
set_option linter.unusedVariables false
/-- The reader's list and the law's own. -/
def Mst (W w1 w : World) (A b : Nat) (v : Value) (O : List (List UInt8)) : Prop := Rf w1 w A b (LO O) ∧ Sl w w1.heap.size 9 1 v O.length (O.map st) ∧ O.Nodup ∧ New W w
theorem Mst.new_ {W w1 w w' : World} {A b : Nat} {v : Value} {O : List (List UInt8)} (h : Mst W w1 w A b v O) (hn : New w w') : Mst W w1 w' A b v O := ⟨h.1.new_ hn, h.2.1.new_ hn, h.2.2.1, h.2.2.2.step hn⟩
theorem sl_keeps {w w' : World} {B b : Nat} {v : Value} {S : List (List UInt8)} (h : Sl w B 9 1 v S.length (S.map st)) {L : List (Key × Int)} {A : Nat} (ha : At w A b L) (hk : Keeps (fun i => i = b) w w') : Sl w' B 9 1 v S.length (S.map st) :=
  h.keeps hk fun g hg e => by
    obtain ⟨_, arr, hb⟩ := h.blk hg
    exact ha.2.1.ne_blk hb e
theorem nameMay_new (s : List UInt8) (hl : s.length ≤ 9223372036854775807) (w : World) : Calls Try.prog 10 #[st s] w fun e w' => e = .returned (.bool (signsB s 32)) ∧ New w w' :=
  (nameMay_any s hl w).mono fun e w' h => ⟨h.1, by obtain ⟨k, rfl⟩ := h.2; exact (New.refl w).drewN k⟩
theorem Mst.push {W w1 w w' : World} {A b M : Nat} {v v' : Value} {O : List (List UInt8)} {s : List UInt8} (h : Rf w1 w A b (LO (O ++ [s]))) (hs : Sl w w1.heap.size 9 1 v M (O.map st)) (hn : O.Nodup) (hno : ¬ s ∈ O) (hW : New W w) (hM : M = O.length) (hN1 : New W w1)
    (hs' : Sl w' w1.heap.size 9 1 v' (M + 1) (O.map st ++ [st s])) (hg : w.grownBy w' v.ownBlock) : Mst W w1 w' A b v' (O ++ [s]) := by
  have hA : v.ownBlock ≠ some A := fun e => by
    obtain ⟨_, arr, hb⟩ := hs.blk e
    exact absurd (hb.inj h.1.1) (by decide)
  have hb : v.ownBlock ≠ some b := fun e => by
    obtain ⟨_, arr, hb⟩ := hs.blk e
    exact h.1.2.1.ne_blk hb rfl
  refine ⟨⟨⟨h.1.1.grown hg (Ne.symm hA), MapIs.grown h.1.2.1 hg (Ne.symm hb), h.1.2.2⟩, h.2.1.grown hg (fun k hk => (hs.lt k hk).1), h.2.2⟩, ?_, ?_, hW.grown hg (fun k hk => Nat.le_trans hN1.size (hs.lt k hk).1)⟩
  · rw [List.length_append, ← hM, List.map_append]
    exact hs'
  · rw [List.nodup_append]
    refine ⟨hn, by simp, fun a ha c hc => ?_⟩
    rw [List.mem_singleton.1 hc]
    rintro rfl
    exact hno ha
set_option maxRecDepth 100000 in
set_option maxHeartbeats 8000000 in
theorem referMany_walk (v : Value) (l : List (List UInt8)) (D : Nat) (hD : D < 256) (W : World) (h : LsAt 1 sc W v l) :
    Calls Try.prog 3 #[v, .int .u8 (D : Int)] W fun e w' => e = .returned (.bool true) ∧ New W w' := by
  obtain ⟨a, c, hv, hlc, hcm, _⟩ := id h
  subst hv
  obtain ⟨n, hn⟩ : ∃ n, n = l.length := ⟨_, rfl⟩
  rw [← hn] at h ⊢
  have H := hid (And.intro h hn)
  clear h hn hlc hcm
  go_enter Try.func3, Try.ntmps3
  go_wp2_with fail
  refine (awake_any W).mono ?_
  rintro e w1 ⟨rfl, n1⟩
  go_wp2_with fail
  refine (newR (New.refl w1)).mono ?_
  rintro e w2 ⟨rfl, h2, n2⟩
  obtain ⟨A, hA⟩ : ∃ A, A = w1.heap.size + 1 := ⟨_, rfl⟩
  obtain ⟨b, hb⟩ : ∃ b, b = w1.heap.size := ⟨_, rfl⟩
  rw [← hA, ← hb] at h2
  rw [← hA]
  have HM := hid (show Mst W w1 w2 A b (.slice none 0 0) [] from ⟨h2, Sl.nil _ _ _ _, List.nodup_nil, n1.step n2⟩)
  have HN1 := hid n1
  clear h2 n2 n1 hA hb
  by_cases h60 : 60 < n
  · have h60' : (60 : Int) < (n : Int) := by omega
    go_wp2
    go_ret
    exact ⟨rfl, HM.out.2.2.2⟩
  have h60' : ¬ (60 : Int) < (n : Int) := by omega
  go_wp2_with fail
  go_loopw [6, 7] (fun on i wr => ∃ (k : Nat) (O : List (List UInt8)), k ≤ n ∧ O.length ≤ k ∧ i = .int .i64 (k : Int) ∧ Mst W w1 wr A b on O) (fun _ i _ => n - (intOf i).toNat)
  case atStart => exact ⟨0, [], Nat.zero_le _, Nat.le_refl _, rfl, HM.out⟩
  case round =>
    clear HM
    obtain ⟨k, O, hk, hOk, rfl, hM⟩ := hrel
    obtain ⟨va, vc, rfl⟩ := hM.2.1.val
    obtain ⟨M, hMl⟩ : ∃ M, M = O.length := ⟨_, rfl⟩
    rw [← hMl] at hOk hM ⊢
    by_cases hkn : k < n
    · have w2' : IntKind.i64.wrap ((k : Int) + 1) = k + 1 := by rw [IntKind.wrap_i64]; omega
      obtain ⟨bb, oo, s, rfl, hs, hbW, hcell⟩ := H.out.1.get hkn
      have c0 : wr.cell? ⟨bb, oo + k, none⟩ = some (st s) := by have := hM.2.2.2.cellK (hcell 0 _ rfl); simpa using this
      have hbb : ¬ bb = b := fun e => by have h1 := HN1.out.size; have h3 := hM.1.2.2; omega
      have j0 : (0 : Int) ≤ (k : Int) := by omega
      have j1 : (k : Int) < (n : Int) := by omega
      have hlen : (ByteArray.mk s.toArray).size = s.length := by simp [ByteArray.size]
      clear hcell
      by_cases hs100 : 100 < s.length
      · have hs' : (100 : Int) < (s.length : Int) := by omega
        have HX := hid hM.2.2.2
        clear hM hs
        go_wp2
        go_ret
        exact ⟨rfl, HX.out⟩
      have hs' : ¬ (100 : Int) < (s.length : Int) := by omega
      have HMM := hid (And.intro hM hMl)
      obtain ⟨wo, hwo⟩ : ∃ wo, wo = wr := ⟨_, rfl⟩
      subst hwo
      clear hM hMl hs
      go_wp2_with fail
      go_loopw [8, 9] (fun th q wx => ∃ (j : Nat) (t : Bool), j ≤ M ∧ q = .int .i64 (j : Int) ∧ th = .bool t ∧ (t = true ↔ s ∈ O.take j) ∧ New wo wx) (fun _ q _ => M - (intOf q).toNat)
      case atStart => exact ⟨0, false, Nat.zero_le _, rfl, rfl, by simp, New.refl _⟩
      case round =>
        obtain ⟨j, t, hj, rfl, rfl, ht, hx⟩ := hrel
        by_cases hjM : j < M
        · have w3' : IntKind.i64.wrap ((j : Int) + 1) = j + 1 := by rw [IntKind.wrap_i64]; omega
          have hls : LsAt 1 sc wr (.slice va M vc) O := by
            have h1 := (HMM.out.1.new_ hx).2.1
            rw [← flat_sc] at h1
            have h2 := LsAt.of_sl sc_len h1
            exact h2
          obtain ⟨g, o', y, rfl, hy, _, hcy⟩ := hls.get hjM
          have c1 : wr.cell? ⟨g, o' + j, none⟩ = some (st y) := by have := hcy 0 _ rfl; simpa using this
          have c2 : wr.cell? ⟨bb, oo + k, none⟩ = some (st s) := hx.cellK c0
          have i0 : (0 : Int) ≤ (j : Int) := by omega
          have i1 : (j : Int) < (M : Int) := by omega
          have hsu : O.take (j + 1) = O.take j ++ [y] := by rw [List.take_add_one, hy]; rfl
          have HT := hid (And.intro ht (And.intro hsu hx))
          clear hls hcy hy ht hsu hx
          cases t with
          | true =>
            have HN := hid (HT.out.1.1 rfl)
            go_wp2_with fail
            go_quiet (fail)
            go_wp2_with fail
            exact ⟨⟨j + 1, true, by omega, by go_num, rfl, by rw [HT.out.2.1]; simp [HN.out], HT.out.2.2.drewN _⟩, by simp [intOf]; omega⟩
          | false =>
            cases hys : (y == s) with
            | true =>
              go_wp2_with fail
              go_quiet (fail)
              go_wp2_with fail
              exact ⟨⟨j + 1, true, by omega, by go_num, rfl, by rw [HT.out.2.1, ← beq_iff_eq.1 hys]; simp, HT.out.2.2.drewN _⟩, by simp [intOf]; omega⟩
            | false =>
              have hno : ¬ s ∈ O.take j := fun h => absurd (HT.out.1.2 h) (by decide)
              have hne : ¬ s = y := fun e => by rw [e] at hys; simp at hys
              have HN := hid (And.intro hno hne)
              clear hno hne
              go_wp2_with fail
              go_quiet (fail)
              go_wp2_with fail
              exact ⟨⟨j + 1, false, by omega, by go_num, rfl, by rw [HT.out.2.1]; simp [HN.out.1, HN.out.2], HT.out.2.2.drewN _⟩, by simp [intOf]; omega⟩
        · have hje : j = M := by omega
          have ht2 : t = true ↔ s ∈ O := by
            rw [ht, hje, HMM.out.2, List.take_length]
          have hlt : ¬ (j : Int) < (M : Int) := by omega
          have hMr := HMM.out.1.new_ hx
          have c2 : wr.cell? ⟨bb, oo + k, none⟩ = some (st s) := hx.cellK c0
          have hok : okK (4, s) := ok_small (by decide) (by decide) (by omega)
          have hnm := fun w => nameMay_new s (show s.length ≤ 9223372036854775807 by omega) w
          have hbl : bb < wr.heap.size := World.block_lt_of_cell? _ _ c2
          clear ht hx
          cases hsg : signsB s 32 with
          | false =>
            rw [hsg] at hnm
            have hq := bindR hMr.1 4 s 7 hok (x := 3) (L' := LO O) (by rw [bindE_LO, hsg]; rfl) (bindL_no hsg)
            have HQ := hid (And.intro hMr (And.intro hq (And.intro hnm ht2)))
            clear hMr hq hnm ht2 hsg hok
            go_wp2_with fail
            refine HQ.out.2.1.mono ?_
            rintro e w4 ⟨rfl, h4, k4⟩
            have c3 : w4.cell? ⟨bb, oo + k, none⟩ = some (st s) := (k4.cells bb _ hbl hbb).trans c2
            have HM4 := hid (show Mst W w1 w4 A b (.slice va M vc) O from ⟨h4, by
              have h5 := sl_keeps (S := O) (by have := HQ.out.1.2.1; exact this) HQ.out.1.1.1 k4
              exact h5, HQ.out.1.2.2.1, HQ.out.1.2.2.2.kept k4 (fun i hi => by have h1 := HN1.out.size; have h3 := h4.2.2; omega)⟩)
            clear h4 k4 c2
            go_wp2_with fail
            refine (HQ.out.2.2.1 _).mono ?_
            rintro e w5 ⟨rfl, n5⟩
            have HM5 := hid (HM4.out.new_ n5)
            clear n5
            go_wp2_with fail
            exact ⟨⟨k + 1, O, by omega, by rw [← HMM.out.2]; omega, by go_num, HM5.out⟩, by simp [intOf]; omega⟩
          | true =>
            rw [hsg] at hnm
            cases t with
            | true =>
              have hq := bindR hMr.1 4 s 7 hok (x := 0) (L' := LO O) (by rw [bindE_LO, hsg]; rfl) (bindL_in hsg (ht2.1 rfl))
              have HQ := hid (And.intro hMr (And.intro hq hnm))
              clear hMr hq hnm ht2 hsg hok
              go_wp2_with fail
              refine HQ.out.2.1.mono ?_
              rintro e w4 ⟨rfl, h4, k4⟩
              have c3 : w4.cell? ⟨bb, oo + k, none⟩ = some (st s) := (k4.cells bb _ hbl hbb).trans c2
              have HM4 := hid (show Mst W w1 w4 A b (.slice va M vc) O from ⟨h4, by
                have h5 := sl_keeps (S := O) (by have := HQ.out.1.2.1; exact this) HQ.out.1.1.1 k4
                exact h5, HQ.out.1.2.2.1, HQ.out.1.2.2.2.kept k4 (fun i hi => by have h1 := HN1.out.size; have h3 := h4.2.2; omega)⟩)
              clear h4 k4 c2
              go_wp2_with fail
              refine (HQ.out.2.2 _).mono ?_
              rintro e w5 ⟨rfl, n5⟩
              have HM5 := hid (HM4.out.new_ n5)
              clear n5
              go_wp2_with fail
              exact ⟨⟨k + 1, O, by omega, by rw [← HMM.out.2]; omega, by go_num, HM5.out⟩, by simp [intOf]; omega⟩
            | false =>
              have hno : ¬ s ∈ O := fun h => absurd (ht2.2 h) (by decide)
              have hq := bindR hMr.1 4 s 7 hok (x := 0) (L' := LO (O ++ [s])) (by rw [bindE_LO, hsg]; rfl) (bindL_new hsg hno)
              have HQ := hid (And.intro hMr (And.intro hq (And.intro hnm hno)))
              clear hMr hq hnm ht2 hsg hok hno
              go_wp2_with fail
              refine HQ.out.2.1.mono ?_
              rintro e w4 ⟨rfl, h4, k4⟩
              have c3 : w4.cell? ⟨bb, oo + k, none⟩ = some (st s) := (k4.cells bb _ hbl hbb).trans c2
              have HM4 := hid (And.intro h4 (And.intro (sl_keeps (S := O) (by have := HQ.out.1.2.1; exact this) HQ.out.1.1.1 k4) (HQ.out.1.2.2.2.kept k4 (fun i hi => by have h1 := HN1.out.size; have h3 := h4.2.2; omega))))
              clear h4 k4 c2
              go_wp2_with fail
              refine (HQ.out.2.2.1 _).mono ?_
              rintro e w5 ⟨rfl, n5⟩
              have c4 : w5.cell? ⟨bb, oo + k, none⟩ = some (st s) := n5.cellK c3
              have HR5 := hid (HM4.out.1.new_ n5)
              have hS5 : Sl w5 w1.heap.size 9 1 (.slice va M vc) M (O.map st) := by have := HM4.out.2.1.new_ n5; rw [← HMM.out.2] at this; exact this
              have HS5 := hid hS5
              have HW5 := hid (HM4.out.2.2.step n5)
              obtain ⟨ti, hti, hzz⟩ := Option.map_eq_some_iff.1 str_info
              simp only [Prod.mk.injEq] at hzz
              have HT := hid (And.intro hti hzz)
              have q1 : M + 1 ≤ maxLen := by unfold maxLen; omega
              have q2 : (M + 1) * 16 ≤ 140737488355328 := by omega
              have hnews := hid (news_str (Blk.new w5 9 #[st s]))
              have hbs : Hid (w1.heap.size ≤ (w5.alloc (.cells #[st s] 9)).heap.size) := by
                rw [World.size_alloc]
                exact Nat.le_succ_of_le HR5.out.2.1.size
              clear c3 n5 hS5 hti hzz
              go_wp2_with (at_builtin; refine wpList_append_sl _ rfl (.tmp 77) (.tmp 82) 22 rfl w1.heap.size 9 ti _ 1 16 Try.underlying22 HT.out.1 HT.out.2.1 HT.out.2.2.1 HT.out.2.2.2 rfl (by decide) (.slice va M vc) M _ rfl (HS5.out.alloc _) ⟨w5.heap.size, 0, none⟩ 1 1 [st s] rfl (by decide) rfl hnews.out one_str q1 q2 hbs.out ?_; intro v6 w6 hs6 hg6 hb6)
              have hfin := Mst.push (HR5.out.new_ ((New.refl _).alloc _)) (HS5.out.alloc _) HQ.out.1.2.2.1 HQ.out.2.2.2 (HW5.out.alloc _) HMM.out.2 HN1.out hs6 hg6
              exact ⟨⟨k + 1, O ++ [s], by omega, by rw [List.length_append, ← HMM.out.2]; simp; omega, by go_num, hfin⟩, by simp [intOf]; omega⟩
    · have hke : k = n := by omega
      have hlt : ¬ (k : Int) < (n : Int) := by omega
      have hM60 : M ≤ 60 := by omega
      have hlO : (LO O).length = M := by rw [LO_len, hMl]
      have hlS : (sortS O).length = M := by rw [(sortS_self O).length_eq, hMl]
      have hq := ofR hM.1 4 7 (by rw [hlO]; omega) (S := sortS O) (by rw [names_LO])
      rw [hlS] at hq
      have HQ := hid (And.intro hq (And.intro hM (And.intro hMl (And.intro hlO hlS))))
      clear hq hM hMl hlO hlS hke
      go_wp2_with fail
      refine HQ.out.1.mono ?_
      rintro e w4 ⟨v4, rfl, hs4, n4⟩
      obtain ⟨va4, vc4, rfl⟩ := hs4.val
      obtain ⟨B4, hB4⟩ : ∃ B4, B4 = wr.heap.size := ⟨_, rfl⟩
      rw [← hB4] at hs4
      clear hB4
      have HM4 := hid (HQ.out.2.1.new_ n4)
      have HS4 := hid hs4
      clear hs4 n4
      go_wp2_with fail
      refine (lenR HM4.out.1 HQ.out.2.2.2.1).mono ?_
      rintro e w5 ⟨rfl, hw5⟩
      subst hw5
      go_wp2_with fail
      go_loopw [12] (fun i wx => ∃ k : Nat, 1 ≤ k ∧ i = .int .i64 (k : Int) ∧ New w5 wx) (fun i _ => M - (intOf i).toNat)
      case atStart => exact ⟨1, Nat.le_refl _, rfl, New.refl _⟩
      case round =>
        obtain ⟨p, hp, rfl, hx⟩ := hrel
        by_cases hpM : p < M
        · obtain ⟨q, hq⟩ : ∃ q, q = p - 1 := ⟨_, rfl⟩
          have hqM : q < M := by omega
          have w3' : IntKind.i64.wrap ((p : Int) + 1) = p + 1 := by rw [IntKind.wrap_i64]; omega
          have w4' : IntKind.i64.wrap ((p : Int) - 1) = (q : Int) := by rw [IntKind.wrap_i64]; omega
          have hls : LsAt 1 sc wr (.slice va4 M vc4) (sortS O) := by
            have h1 := HS4.out.new_ hx
            rw [← flat_sc] at h1
            have h3 : Sl wr B4 9 1 (.slice va4 M vc4) (sortS O).length (flatOf sc (sortS O)) := by rw [HQ.out.2.2.2.2]; exact h1
            exact LsAt.of_sl sc_len h3
          obtain ⟨g, o', y, rfl, hy, _, hcy⟩ := hls.get hpM
          obtain ⟨g2, o2, x, hgx, hxx, _, hcx⟩ := hls.get hqM
          cases hgx
          have c1 : wr.cell? ⟨g, o' + p, none⟩ = some (st y) := by have := hcy 0 _ rfl; simpa using this
          have c2 : wr.cell? ⟨g, o' + q, none⟩ = some (st x) := by have := hcx 0 _ rfl; simpa using this
          have hup : ltB x y = true := sort_up HQ.out.2.1.2.2.1 hxx (by rw [hq, show p - 1 + 1 = p by omega]; exact hy)
          have hdn : ltB y x = false := ltB_asymm hup
          have hne : (y == x) = false := by rw [beq_eq_false_iff_ne]; exact (ltB_ne hup).symm
          have j0 : (0 : Int) ≤ (p : Int) := by omega
          have j1 : (p : Int) < (M : Int) := by omega
          have j2 : (0 : Int) ≤ (q : Int) := by omega
          have j3 : (q : Int) < (M : Int) := by omega
          have HX := hid hx
          clear hls hcy hcx hy hxx hq hx
          go_wp2_with fail
          go_quiet (fail)
          go_wp2_with fail
          exact ⟨⟨p + 1, by omega, by go_num, HX.out.drewN _⟩, by simp [intOf]; omega⟩
        · have hlt2 : ¬ (p : Int) < (M : Int) := by omega
          have HM5 := hid (HM4.out.new_ hx)
          clear hx
          by_cases hM0 : M = 0
          · subst hM0
            go_wp2
            go_ret
            exact ⟨rfl, HM5.out.2.2.2⟩
          · have hM0' : ¬ (M : Int) = 0 := by omega
            obtain ⟨i, hi⟩ : ∃ i, i = D % M := ⟨_, rfl⟩
            have hiM : i < M := by rw [hi]; exact Nat.mod_lt _ (by omega)
            have htm : (D : Int).tmod (M : Int) = (i : Int) := by rw [hi, Int.tmod_eq_emod_of_nonneg (by omega)]; rfl
            have hls : LsAt 1 sc wr (.slice va M vc) O := by
              have h1 := HM5.out.2.1
              rw [← flat_sc] at h1
              exact LsAt.of_sl sc_len h1
            obtain ⟨g, o', y, rfl, hy, _, hcy⟩ := hls.get hiM
            have c1 : wr.cell? ⟨g, o' + i, none⟩ = some (st y) := by have := hcy 0 _ rfl; simpa using this
            have hyO : y ∈ O := List.mem_of_getElem? hy
            have hyl : okK (4, y) := HM5.out.1.1.2.2 ((4, y), 7) (List.mem_map.2 ⟨y, hyO, rfl⟩)
            have hgy := get_LO y O
            rw [if_pos hyO] at hgy
            have hfl := filter_len HQ.out.2.1.2.2.1 hyO
            have hd := dropR HM5.out.1 4 y hyl (x := 7) (z := 0) (by unfold findV; rw [hgy]; rfl) (by rw [hgy]; rfl) (del_LO O y)
            obtain ⟨K, hK⟩ : ∃ K, K = (O.filter fun t => decide (t ≠ y)).length := ⟨_, rfl⟩
            have hKM : K + 1 = M := by rw [hK, hfl, HQ.out.2.2.1]
            have hK6 : K ≤ 1000000 := by omega
            have w5' : IntKind.i64.wrap ((M : Int) - 1) = (K : Int) := by rw [IntKind.wrap_i64]; omega
            have k0 : (0 : Int) ≤ (i : Int) := by omega
            have k1 : (i : Int) < (M : Int) := by omega
            have HD := hid (And.intro hd hK)
            clear hls hcy hy hi hyO hyl hgy hfl hd hK hKM hiM hM0
            go_wp2_with fail
            refine HD.out.1.mono ?_
            rintro e w6 ⟨rfl, h6, k6⟩
            have hq6 := ofR h6 4 7 (by rw [LO_len, ← HD.out.2]; exact hK6) (S := sortS (O.filter fun t => decide (t ≠ y))) (by rw [names_LO])
            rw [(sortS_self _).length_eq, ← HD.out.2] at hq6
            have H6 := hid (HM5.out.2.2.2.kept k6 (fun i hi => by have h1 := HN1.out.size; have h3 := h6.2.2; omega))
            have HQ6 := hid hq6
            clear h6 k6 hq6
            go_wp2_with fail
            refine HQ6.out.mono ?_
            rintro e w7 ⟨v7, rfl, hs7, n7⟩
            obtain ⟨va7, vc7, rfl⟩ := hs7.val
            have H7 := hid (H6.out.step n7)
            clear hs7 n7
            go_wp2
            go_ret
            exact ⟨rfl, H7.out⟩
end Go.Proofs.Ytakhidieomalhaa.Law
