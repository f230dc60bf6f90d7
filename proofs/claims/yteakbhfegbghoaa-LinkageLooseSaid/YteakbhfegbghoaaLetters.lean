/- The contracts of package letters and of the reference's Letters. -/
import Derived.Test.YteakbhfegbghoaaProg
import Derived.Test.YteakbhfegbghoaaKit
import Derived.Test.YteakbhfegbghoaaSl
import Derived.Test.YteakbhfegbghoaaArr
import Derived.Test.YteakbhfegbghoaaWord
import Derived.Test.YteakbhfegbghoaaSame
import Derived.Test.YteakbhfegbghoaaLet
import Derived.Laws.IdiomStrings
import Derived.StillTailTactics
import Derived.BigQuiet
namespace Go.Proofs.Yteakbhfegbghoaa.Letters
open Go Go.RowKit Go.Proofs.Yteakbhfegbghoaa.Kit Go.Proofs.Yteakbhfegbghoaa.Wd Go.Proofs.Yteakbhfegbghoaa.Word Go.Proofs.Yteakbhfegbghoaa.Let Go.Proofs.Yteakbhfegbghoaa.Same
set_option linter.unusedSimpArgs false
set_option linter.unusedVariables false
abbrev wv (x : Nat) : Value := .int .u64 (x : Int)
/-- A text as a value. -/
abbrev st (l : List UInt8) : Value := .string ⟨l.toArray⟩
/-- The words behind a slice's value. -/
def WsAt (w : World) (v : Value) (ws : List Nat) : Prop :=
  ∃ a c, v = .slice a ws.length c ∧ (0 < ws.length → ∃ b o, a = some ⟨b, o, none⟩ ∧ b < w.heap.size ∧ ∀ i, i < ws.length → w.cell? ⟨b, o + i, none⟩ = some (wv (ws.getD i 0)))
theorem WsAt.of_sl {w : World} {base : Nat} {e : TypeId} {v : Value} {ws : List Nat} (h : Sl w base e 1 v ws.length (ws.map wv)) : WsAt w v ws := by
  rcases Nat.eq_zero_or_pos ws.length with h0 | h0
  · rcases h.2 with ⟨rfl, e⟩ | ⟨g, o, cap, cur, rfl, _⟩
    · exact ⟨none, 0, by rw [h0], fun h => absurd h (by omega)⟩
    · exact ⟨_, _, rfl, fun h => absurd h (by omega)⟩
  · obtain ⟨g, o, cap, rfl, _, hg, _, hc, _⟩ := h.form h0
    refine ⟨_, _, rfl, fun _ => ⟨g, o, rfl, hg, fun i hi => ?_⟩⟩
    refine hc i _ ?_
    simp [hi]
theorem WsAt.words {w : World} {v : Value} {ws : List Nat} (h : WsAt w v ws) : WordsAt w v (ws.map fun x : Nat => (x : Int)) := by
  obtain ⟨a, c, rfl, h⟩ := h
  refine ⟨a, c, by rw [List.length_map], fun h0 => ?_⟩
  rw [List.length_map] at h0
  obtain ⟨b, o, e, _, hc⟩ := h h0
  refine ⟨b, o, e, fun i hi => ?_⟩
  rw [List.length_map] at hi
  rw [hc i hi]
  simp [List.getD_eq_getElem?_getD, List.getElem?_eq_getElem hi]
theorem WsAt.new_ {w w' : World} {v : Value} {ws : List Nat} (h : WsAt w v ws) (k : New w w') : WsAt w' v ws := by
  obtain ⟨a, c, rfl, h⟩ := h
  refine ⟨a, c, rfl, fun h0 => ?_⟩
  obtain ⟨b, o, e, hb, hc⟩ := h h0
  exact ⟨b, o, e, by have := k.size; omega, fun i hi => k.cellK (hc i hi)⟩
/-- An array's block as a slice. -/
theorem Arr.sl {w : World} {g n base : Nat} {t : TypeId} {f : Nat → Value} (h : Arr w g t n f) (hb : base ≤ g) (hn : n ≤ maxLen) : Sl w base t 1 (.slice (some ⟨g, 0, none⟩) n n) n ((List.range n).map f) := by
  obtain ⟨arr, hB, hs, ha⟩ := h
  have := Sl.of_blk (base := base) hB hb (by omega)
  rw [hs] at this
  have e : arr.toList = (List.range n).map f := by
    apply List.ext_getElem?
    intro i
    rw [Array.getElem?_toList, List.getElem?_map]
    by_cases hi : i < n
    · rw [ha i hi, List.getElem?_range hi]; rfl
    · rw [Array.getElem?_eq_none (by omega), List.getElem?_eq_none (by simp; omega)]; rfl
  rw [e] at this
  exact this
theorem zarr_made (n : Nat) (v : Value) : zarr n v = madeCells #[v] n := by
  apply Array.ext
  · simp [zarr, madeCells]
  · intro i h1 h2
    simp [zarr, madeCells, Nat.mod_one]
theorem word_info : (Try.prog.info? 52).map (fun i => (i.zero, i.size, i.bytes)) = some (some (.int .u64 0), 1, 8) := by kernel_rfl
theorem byte_info : (Try.prog.info? 5).map (fun i => (i.zero, i.size, i.bytes)) = some (some (.int .u8 0), 1, 1) := by kernel_rfl
theorem words_any (n : Nat) (hn : n ≤ 1000000) (w : World) : Calls Try.prog 84 #[.int .i64 (n : Int)] w fun e w' => e = .returned (.int .i64 ((nW n : Nat) : Int)) ∧ w = w' := by
  have w1 : IntKind.i64.wrap ((n : Int) + 4) = n + 4 := by rw [IntKind.wrap_i64]; omega
  have w2 : IntKind.i64.wrap ((n : Int) + 4 - 1) = n + 4 - 1 := by rw [IntKind.wrap_i64]; omega
  have w2' : IntKind.i64.wrap ((n : Int) + 3) = n + 3 := by rw [IntKind.wrap_i64]; omega
  have w3 : ((n : Int) + 4 - 1).tdiv 4 = ((nW n : Nat) : Int) := by
    rw [Int.tdiv_eq_ediv_of_nonneg (by omega)]; unfold nW; omega
  have w3' : ((n : Int) + 3).tdiv 4 = ((nW n : Nat) : Int) := by
    rw [Int.tdiv_eq_ediv_of_nonneg (by omega)]; unfold nW; omega
  have w4 : IntKind.i64.wrap ((nW n : Nat) : Int) = ((nW n : Nat) : Int) := by rw [IntKind.wrap_i64]; unfold nW; omega
  go_enter Try.func84, Try.ntmps84
  go_wp2
  go_ret
  exact ⟨rfl, rfl⟩
theorem Words_no (l : List UInt8) (hl : 255 < l.length) (w : World) : Calls Try.prog 79 #[st l] w fun e w' => e = .returned (.tuple #[.slice none 0 0, .int .i64 1]) ∧ w = w' := by
  go_enter Try.func79, Try.ntmps79
  go_wp2
  go_ret2
  exact ⟨rfl, rfl⟩
/-- The word k behind j bytes. -/
def cw (l : List UInt8) (j k : Nat) : Nat := if k = 0 then l.length else wd (l.take j) (k - 1)
theorem cw_all (l : List UInt8) : (List.range (1 + nW l.length)).map (fun k => wv (cw l l.length k)) = (enc l).map wv := by
  apply List.ext_getElem (by simp [enc_len])
  intro i h1 h2
  simp only [List.getElem_map, List.getElem_range]
  congr 2
  simp only [List.length_map, List.length_range] at h1
  have e : (enc l)[i]'(by rw [enc_len]; exact h1) = (enc l).getD i 0 := by rw [List.getD_eq_getElem?_getD, List.getElem?_eq_getElem]; rfl
  rw [e]
  cases i with
  | zero => rfl
  | succ i =>
    rw [enc_succ l (by omega)]
    unfold cw
    rw [if_neg (by omega), List.take_of_length_le (Nat.le_refl _), Nat.add_sub_cancel]
set_option maxRecDepth 100000 in
set_option maxHeartbeats 4000000 in
theorem Words_yes (l : List UInt8) (hl : l.length ≤ 255) (w : World) : Calls Try.prog 79 #[st l] w fun e w' => ∃ v, e = .returned (.tuple #[v, .int .i64 0]) ∧ Sl w' w.heap.size 52 1 v (enc l).length ((enc l).map wv) ∧ New w w' := by
  obtain ⟨m, hm⟩ : ∃ m, m = nW l.length := ⟨_, rfl⟩
  have hm2 : m ≤ 64 := by rw [hm]; unfold nW; omega
  obtain ⟨M, hM⟩ : ∃ M, M = 1 + m := ⟨_, rfl⟩
  have hwd := words_any l.length (by omega)
  rw [← hm] at hwd
  have w1 : IntKind.i64.wrap (1 + (m : Int)) = (M : Int) := by rw [IntKind.wrap_i64]; omega
  have w2 : IntKind.u64.wrap (l.length : Int) = l.length := by rw [IntKind.wrap_u64]; omega
  have hmk : (Instr.makeSlice 25 (.int .i64 (M : Int)) (.int .i64 (M : Int))).run Try.prog w = .ok (.slice (some ⟨w.heap.size, 0, none⟩) M M) (w.alloc (.cells (zarr M (.int .u64 0)) 52)) := by
    rw [zarr_made]
    exact run_make_row' 25 52 (.int .u64 0) 8 Try.underlying25 word_info rfl .i64 .i64 M (by omega) (by omega) w
  have hr0 : Arr (w.alloc (.cells ((zarr M (.int .u64 0)).setIfInBounds 0 (.int .u64 (l.length : Int))) 52)) w.heap.size 52 M (fun k => if k = 0 then .int .u64 (l.length : Int) else .int .u64 0) := by
    refine ⟨_, Blk.new w _ _, by rw [Array.size_setIfInBounds, zarr_size], fun k hk => ?_⟩
    rw [Array.getElem?_setIfInBounds]
    show _ = some (if k = 0 then Value.int .u64 (l.length : Int) else .int .u64 0)
    by_cases e : 0 = k
    · subst e; rw [if_pos rfl, if_pos (by rw [zarr_size]; exact hk), if_pos rfl]
    · rw [if_neg e, if_neg (fun h => e h.symm), zarr_get _ hk]
  have hc0 := (Arr.new w 52 M (.int .u64 0)).cell (i := 0) (by omega)
  have hf0 := (Arr.new w 52 M (.int .u64 0)).frozen 0
  have hn0 : New w (w.alloc (.cells ((zarr M (.int .u64 0)).setIfInBounds 0 (.int .u64 (l.length : Int))) 52)) := (New.refl w).alloc _
  have A := hid (And.intro hr0 (And.intro hn0 (And.intro hm hM)))
  have iM : (0 : Int) < (M : Int) := by omega
  clear hr0 hn0 hm hM
  go_enter Try.func79, Try.ntmps79
  go_wp2_with fail
  refine (hwd _).mono ?_
  rintro e w' ⟨rfl, rfl⟩
  go_wp2_with fail
  go_loopw [22] (fun c wr => ∃ j : Nat, j ≤ l.length ∧ c = .int .i64 (j : Int) ∧ Arr wr w.heap.size 52 M (fun k => wv (cw l j k)) ∧ New w wr) (fun c _ => l.length - (intOf c).toNat)
  case atStart =>
    refine ⟨0, Nat.zero_le _, rfl, A.out.1.congr fun i hi => ?_, A.out.2.1⟩
    unfold cw
    by_cases e : i = 0
    · rw [if_pos e, if_pos e]
    · rw [if_neg e, if_neg e, List.take_zero, wd_nil]; rfl
  case round =>
    obtain ⟨j, hj, rfl, harr, hnr⟩ := hrel
    have w3 : IntKind.i64.wrap ((j : Int) + 1) = j + 1 := by rw [IntKind.wrap_i64]; omega
    clear hmk hc0 hf0
    by_cases hjl : j < l.length
    · have hm' := A.out.2.2.1
      have hM' := A.out.2.2.2
      obtain ⟨K, hK⟩ : ∃ K, K = 1 + j / 4 := ⟨_, rfl⟩
      obtain ⟨T, hT⟩ : ∃ T, T = j % 4 * 9 := ⟨_, rfl⟩
      have hkm : K < M := by rw [hM', hm']; have := nW_le _ _ hjl; omega
      have t1 : (j : Int).tdiv 4 = (j : Int) / 4 := by rw [Int.tdiv_eq_ediv_of_nonneg (by omega)]
      have t2 : (j : Int).tmod 4 = (j : Int) % 4 := by rw [Int.tmod_eq_emod_of_nonneg (by omega)]
      have w4 : IntKind.i64.wrap (1 + (j : Int) / 4) = (K : Int) := by rw [IntKind.wrap_i64]; omega
      have w4' : IntKind.i64.wrap ((j : Int) / 4) = (j : Int) / 4 := by rw [IntKind.wrap_i64]; omega
      have w5 : IntKind.i64.wrap ((j : Int) % 4 * 9) = (T : Int) := by rw [IntKind.wrap_i64]; omega
      have hct := harr.cell hkm
      have hft := harr.frozen K
      have ecw : cw l j K = wd (l.take j) (j / 4) := by unfold cw; rw [if_neg (by omega), hK, Nat.add_sub_cancel_left]
      rw [ecw] at hct
      have hq := fun X => put_yes_any (wd (l.take j) (j / 4)) (j % 4 * 9) 9 (byN l j) (Nat.lt_trans (wd_lt _ _) (by decide)) (Nat.lt_trans (byN_lt _ _) (by decide)) (by decide) (by omega) X
      rw [wd_step, ← hT] at hq
      have hby2 := byN_lt l j
      obtain ⟨B, hB⟩ : ∃ B, B = byN l j := ⟨_, rfl⟩
      rw [← hB] at hq hby2
      have hjs : j < (ByteArray.mk l.toArray).size := by show j < l.toArray.size; rw [List.size_toArray]; exact hjl
      have hby : (((ByteArray.mk l.toArray)[j]'hjs).toNat : Int) = (B : Int) := by
        rw [hB, byN, List.getD_eq_getElem?_getD, List.getElem?_eq_getElem hjl]; rfl
      have w6 : IntKind.u64.wrap (B : Int) = (B : Int) := by rw [IntKind.wrap_u64]; omega
      generalize wd (l.take j) (j / 4) = X0 at hct hq
      have i0 : (0 : Int) ≤ (K : Int) := by omega
      have i1 : (K : Int) < (M : Int) := by omega
      have i2 : (0 : Int) ≤ (j : Int) := by omega
      have i3 : (j : Int) < (l.length : Int) := by omega
      have Q := hid hq
      have R := hid (And.intro harr (And.intro hnr (And.intro hK hkm)))
      clear hq harr hnr ecw hby2 hm' hM' hkm hK hT hB
      go_wp2_with fail
      go_region_with (first | (go_at_call 58; refine (Q.out _).mono ?_; rintro e w4 ⟨rfl, rfl⟩))
      all_goals
        go_wp2_with fail
        obtain ⟨harr, hnr, hK, hkm⟩ := R.out
        have ha2 : Arr (wr.setCell ⟨w.heap.size, K, none⟩ (wv (wd (l.take (j + 1)) (j / 4)))).drew w.heap.size 52 M (fun k => wv (cw l (j + 1) k)) := ((harr.set K (wv (wd (l.take (j + 1)) (j / 4)))).drewN 1).congr fun i hi => by
          show (if i = K then wv (wd (l.take (j + 1)) (j / 4)) else wv (cw l j i)) = wv (cw l (j + 1) i)
          by_cases e : i = K
          · rw [if_pos e]
            unfold cw
            rw [if_neg (by omega), e, hK, Nat.add_sub_cancel_left]
          · rw [if_neg e]
            unfold cw
            by_cases e0 : i = 0
            · rw [if_pos e0, if_pos e0]
            · rw [if_neg e0, if_neg e0, wd_other l j (i - 1) (by omega)]
        refine ⟨⟨j + 1, by omega, by go_num, ha2, (hnr.setCell (Nat.le_refl _) _).drew⟩, ?_⟩
        simp [intOf]; omega
    · have ej : j = l.length := by omega
      rw [ej] at harr
      have hm' := A.out.2.2.1
      have hM' := A.out.2.2.2
      have hsl := Arr.sl harr (base := w.heap.size) (Nat.le_refl _) (by unfold maxLen; omega)
      have hMl : M = (enc l).length := by rw [enc_len, hM', hm']
      rw [show M = 1 + nW l.length by rw [hM', hm'], cw_all, ← enc_len] at hsl
      have R := hid (And.intro hsl (And.intro hnr hMl))
      clear hsl hMl hm' hM' harr hnr ej
      go_wp2_with fail
      go_ret2
      exact ⟨_, rfl, by rw [R.out.2.2]; exact R.out.1, R.out.2.1⟩
def encK (l : List UInt8) (k : Nat) : List Nat := l.length :: (List.range k).map (wd l)
theorem encK_len (l : List UInt8) (k : Nat) : (encK l k).length = 1 + k := by unfold encK; simp [Nat.add_comm]
theorem encK_succ (l : List UInt8) (k : Nat) : encK l (k + 1) = encK l k ++ [wd l k] := by unfold encK; rw [List.range_succ, List.map_append]; rfl
theorem encK_all (l : List UInt8) : encK l (nW l.length) = enc l := rfl
set_option maxRecDepth 100000 in
set_option maxHeartbeats 4000000 in
/-- The reference's. -/
theorem Letters_any (l : List UInt8) (hl : l.length ≤ 255) (w : World) : Calls Try.prog 62 #[st l] w fun e w' => ∃ v, e = .returned v ∧ Sl w' w.heap.size 52 1 v (enc l).length ((enc l).map wv) ∧ New w w' := by
  obtain ⟨ti, hi, hzz⟩ := Option.map_eq_some_iff.1 word_info
  simp only [Prod.mk.injEq] at hzz
  have HT := hid (And.intro hi hzz)
  clear hi hzz
  have w2 : IntKind.u64.wrap (l.length : Int) = l.length := by rw [IntKind.wrap_u64]; omega
  have hs0 : Sl (w.alloc (.cells #[.int .u64 (l.length : Int)] 52)) w.heap.size 52 1 (.slice (some ⟨w.heap.size, 0, none⟩) 1 1) (encK l 0).length ((encK l 0).map wv) := Sl.of_blk (Blk.new w 52 #[.int .u64 (l.length : Int)]) (Nat.le_refl _) (by show 1 ≤ maxLen; unfold maxLen; decide)
  have A := hid hs0
  clear hs0
  go_enter Try.func62, Try.ntmps62
  go_wp2_with fail
  go_loopw [3, 4] (fun v i wr => ∃ k I : Nat, I = 4 * k ∧ k ≤ nW l.length ∧ i = .int .i64 (I : Int) ∧ Sl wr w.heap.size 52 1 v (encK l k).length ((encK l k).map wv) ∧ New w wr) (fun _ i _ => l.length + 4 - (intOf i).toNat)
  case atStart => exact ⟨0, 0, rfl, Nat.zero_le _, rfl, A.out, (New.refl w).alloc _⟩
  case round =>
    clear A
    obtain ⟨k, I, hI, hk, rfl, hsl, hnr⟩ := hrel
    have hkb : k ≤ 64 := by unfold nW at hk; omega
    have w3 : IntKind.i64.wrap ((I : Int) + 4) = I + 4 := by rw [IntKind.wrap_i64]; omega
    by_cases hkl : I < l.length
    · have hkl' : (I : Int) < l.length := by omega
      have HI := hid hI
      have R := hid (And.intro hsl hnr)
      clear hI hsl hnr
      go_wp2_with fail
      go_loopw [5, 6] (fun x q wr => ∃ t : Nat, t ≤ 4 ∧ x = .int .u64 ((acc l k t : Nat) : Int) ∧ q = .int .i64 (t : Int) ∧ Sl wr w.heap.size 52 1 u3 (encK l k).length ((encK l k).map wv) ∧ New w wr) (fun _ q _ => 4 - (intOf q).toNat)
      case atStart => exact ⟨0, by omega, rfl, rfl, R.out.1, R.out.2⟩
      case round =>
        clear R
        obtain ⟨t, ht, rfl, rfl, hsl, hnr⟩ := hrel
        have w4 : IntKind.i64.wrap ((t : Int) + 1) = t + 1 := by rw [IntKind.wrap_i64]; omega
        have w5 : IntKind.i64.wrap ((I : Int) + t) = I + t := by rw [IntKind.wrap_i64]; omega
        by_cases ht4 : t < 4
        · have ha := acc_lt l k (t + 1) (by omega)
          have hb := byN_lt l (I + t)
          have e1 : acc l k (t + 1) = acc l k t * 512 + byN l (I + t) := by rw [HI.out]; rfl
          obtain ⟨X1, hX1⟩ : ∃ X1, X1 = acc l k (t + 1) := ⟨_, rfl⟩
          have HX := hid hX1
          rw [← hX1] at e1 ha
          clear hX1
          generalize acc l k t = X at e1
          have ht4' : (t : Int) < 4 := by omega
          have i0 : (0 : Int) ≤ (I : Int) + t := by omega
          by_cases hit : I + t < l.length
          · have hit' : (I : Int) + t < l.length := by omega
            have hjs : I + t < (ByteArray.mk l.toArray).size := by show I + t < l.toArray.size; rw [List.size_toArray]; exact hit
            obtain ⟨B, hB⟩ : ∃ B, B = byN l (I + t) := ⟨_, rfl⟩
            rw [← hB] at e1 hb
            have hby : (((ByteArray.mk l.toArray)[I + t]'hjs).toNat : Int) = (B : Int) := by
              rw [hB, byN, List.getD_eq_getElem?_getD, List.getElem?_eq_getElem hit]; rfl
            have w6 : IntKind.u64.wrap (B : Int) = (B : Int) := by rw [IntKind.wrap_u64]; omega
            have w7 : IntKind.u64.wrap ((X : Int) * 512) = X * 512 := by rw [IntKind.wrap_u64]; omega
            have w8 : IntKind.u64.wrap ((X : Int) * 512 + B) = (X1 : Int) := by rw [IntKind.wrap_u64]; omega
            clear hB e1 ha
            go_wp2_with fail
            refine ⟨⟨t + 1, by omega, by rw [HX.out], by go_num, hsl, hnr⟩, ?_⟩
            simp [intOf]; omega
          · have hit' : ¬ (I : Int) + t < l.length := by omega
            rw [byN_out (by omega)] at e1
            have w7 : IntKind.u64.wrap ((X : Int) * 512) = (X1 : Int) := by rw [IntKind.wrap_u64]; omega
            clear e1 ha
            go_wp2_with fail
            refine ⟨⟨t + 1, by omega, by rw [HX.out], by go_num, hsl, hnr⟩, ?_⟩
            simp [intOf]; omega
        · have e4 : t = 4 := by omega
          have ht4' : ¬ (t : Int) < 4 := by omega
          rw [e4, acc_four]
          clear e4 ht4 ht
          have hns := hnr.size
          have hel := encK_len l k
          obtain ⟨hi, hz, hs, hbt⟩ := HT.out
          have hi' := hid hi
          have hz' := hid hz
          have hs' := hid hs
          have hbt' := hid hbt
          have hsl' := hid hsl
          clear hi hz hs hbt
          go_wp2_with (at_builtin; refine wpList_append_sl _ rfl (.tmp 37) (.tmp 39) 25 rfl w.heap.size 52 ti (.int .u64 0) 1 8 Try.underlying25 hi'.out hz'.out hs'.out hbt'.out rfl (by decide) u3 (encK l k).length _ rfl (hsl'.out.alloc _) ⟨wr.heap.size, 0, none⟩ 1 1 [wv (wd l k)] rfl (by decide) rfl (cell_one_new _ _ _) (by simp [Value.oneCell']) (by unfold maxLen; omega) (by omega) (by rw [World.size_alloc]; omega) ?_; intro v' w3 hs3 hg3 hb3)
          have hnw : New w w3 := New.grown (hnr.alloc _) hg3 (fun k hk => (hsl'.out.lt k hk).1)
          refine ⟨⟨k + 1, I + 4, by have := HI.out; omega, by have := HI.out; unfold nW; omega, by go_num, ?_, hnw⟩, ?_⟩
          · rw [encK_succ, List.length_append, List.map_append]
            exact hs3
          · simp [intOf]; omega
    · have ek : k = nW l.length := by unfold nW at hk ⊢; omega
      rw [ek, encK_all] at hsl
      have R := hid (And.intro hsl hnr)
      have hkl' : ¬ (I : Int) < l.length := by omega
      clear hsl hnr ek
      go_wp2_with fail
      go_ret
      exact ⟨_, rfl, R.out.1, R.out.2⟩
end Go.Proofs.Yteakbhfegbghoaa.Letters
