/- The walk of FramesBack. -/
import Derived.Test.YtfgfhaknecolpaaFramesAwake
import Derived.Test.YtfgfhaknecolpaaRefMay
import Derived.BigQuiet
namespace Go.Proofs.Ytfgfhaknecolpaa.Law
open Go Go.RowKit Go.ChangeShapes Go.WideShapes Go.Deep Go.Proofs.Ytfgfhaknecolpaa.Kit Go.Proofs.Ytfgfhaknecolpaa.Frames Go.Proofs.Ytfgfhaknecolpaa.Point Go.Proofs.Ytfgfhaknecolpaa.Open
set_option linter.unusedSimpArgs false
set_option linter.unusedVariables false
theorem upd_upd (S : Nat → List Fr) (r : Nat) (L M : List Fr) : upd (upd S r L) r M = upd S r M := by
  funext k
  show (if k = r then M else if k = r then L else S k) = (if k = r then M else S k)
  split <;> rfl
theorem upd_at (S : Nat → List Fr) (r : Nat) (L : List Fr) : upd S r L r = L := if_pos rfl
theorem upd_nothing (r : Nat) : upd nothing r [] = nothing := by
  funext k
  show (if k = r then [] else []) = ([] : List Fr)
  split <;> rfl
def bk (x : Fr) : List Value := [.int .i64 x.a, .int .i64 x.b, .int .i64 x.c, .int .i64 x.d]
def bks (L : List Fr) : List Value := L.flatMap bk
theorem bks_app (L : List Fr) (x : Fr) : bks (L ++ [x]) = bks L ++ bk x := by unfold bks; rw [List.flatMap_append]; simp
theorem bks_len (L : List Fr) : (bks L).length = L.length * 4 := by
  induction L with
  | nil => rfl
  | cons x t ih =>
    have : bks (x :: t) = bk x ++ bks t := rfl
    rw [this, List.length_append, ih, List.length_cons]
    show 4 + _ = _
    omega
theorem bks_get (L : List Fr) (j i : Nat) (hj : j < L.length) (hi : i < 4) : (bks L)[j * 4 + i]? = (bk L[j])[i]? := by
  induction L generalizing j with
  | nil => simp at hj
  | cons x t ih =>
    have e : bks (x :: t) = bk x ++ bks t := rfl
    cases j with
    | zero =>
      rw [e, List.getElem?_append_left (by show _ < 4; omega), Nat.zero_mul, Nat.zero_add]
      rfl
    | succ j =>
      have h4 : (bk x).length = 4 := rfl
      rw [e, List.getElem?_append_right (by omega), h4, show (j + 1) * 4 + i - 4 = j * 4 + i by omega, ih j (by simpa using hj)]
      rfl
theorem point_info : (Try.prog.info? 29).map (fun i => (i.zero.map (fun z => z.cells.size), i.size, i.bytes)) = some (some 4, 4, 32) := by kernel_rfl
theorem sl_notFT {w : World} {base B n : Nat} {v : Value} {cs : List Value} (h : Sl w B 29 4 v n cs) : ∀ g, v.ownBlock = some g → ¬ FT w base g := by
  intro g hg
  obtain ⟨_, arr, hb⟩ := h.blk hg
  exact FT.not hb (by decide) (by decide)
set_option maxRecDepth 100000 in
set_option maxHeartbeats 4000000 in
theorem framesBack_walk (a : Option Addr) (n c : Nat) (f : Nat → Nat → Int) (y : Int) (hy0 : 0 ≤ y) (hy1 : y < 256) (W : World)
    (hc : 0 < n → ∃ b o, a = some ⟨b, o, none⟩ ∧ b < W.heap.size ∧ ∀ i j, i < n → j < 4 → W.cell? ⟨b, o + i * 4 + j, none⟩ = some (.int .i64 (f i j))) :
    Calls Try.prog 7 #[.slice a n c, .int .u8 y] W fun e w' => e = .returned (.bool true) ∧ New W w' := by
  have H := hid hc
  clear hc
  have he := fun (a b c d a' b' c' d' : Int) w => neq_pt a b c d a' b' c' d' w
  obtain ⟨r, hr⟩ : ∃ r : Nat, y % 8 = r := ⟨(y % 8).toNat, by omega⟩
  have hr8 : r < 8 := by omega
  have hrt : y.tmod 8 = (r : Int) := by rw [Int.tmod_eq_emod_of_nonneg hy0]; exact hr
  go_enter Try.func7, Try.ntmps7
  go_wp2_with fail
  refine (awake_any W).mono ?_
  rintro e w0 ⟨rfl, n0⟩
  go_wp2_with fail
  refine (new_any w0).mono ?_
  rintro e w1 ⟨rfl, n1, a1⟩
  have a1 := a1 W.heap.size n0.size
  have n1 := n0.step n1
  have hb : ∀ {X : World} i, FT X W.heap.size i → W.heap.size ≤ i := fun i h => h.1
  by_cases h60 : 60 < n
  · go_wp2
    go_ret
    exact ⟨rfl, n1⟩
  obtain ⟨ti, hi, hzz⟩ := Option.map_eq_some_iff.1 point_info
  simp only [Prod.mk.injEq] at hzz
  obtain ⟨hz1, hz2, hz3⟩ := hzz
  obtain ⟨z, hz4, hz5⟩ := Option.map_eq_some_iff.1 hz1
  have HT := hid (And.intro hi (And.intro hz2 (And.intro hz3 (And.intro hz4 hz5))))
  have A := hid (And.intro a1 n1)
  clear hi hz1 hz2 hz3 hz4 hz5 a1 n1
  go_wp2_with fail
  go_loopw [7, 8] (fun v i wr => ∃ (j : Nat) (L : List Fr), j ≤ n ∧ i = .int .i64 (j : Int) ∧ Sl wr W.heap.size 29 4 v L.length (bks L) ∧ At wr W.heap.size w0.heap.size (upd nothing r L) ∧ New W wr) (fun _ i _ => n - (intOf i).toNat)
  case atStart => exact ⟨0, [], Nat.zero_le _, rfl, Sl.nil _ _ _ _, by rw [upd_nothing]; exact A.out.1, A.out.2⟩
  case round =>
    clear A
    obtain ⟨j, L, hj, rfl, hsl, hat, hnr⟩ := hrel
    obtain ⟨oa, oc, rfl⟩ := hsl.val
    have hlen := hat.len r
    rw [upd_at] at hlen
    have w1' : IntKind.i64.wrap ((j : Int) + 1) = j + 1 := by rw [IntKind.wrap_i64]; omega
    by_cases hjl : j < n
    · obtain ⟨b, o, rfl, hb', hcell⟩ := H.out (by omega)
      have hC := fun q (hq : q < 4) => hcell j q hjl hq
      generalize f j = p at hC
      have c0 := hnr.cellK (hC 0 (by decide))
      have c1 := hnr.cellK (hC 1 (by decide))
      have c2 := hnr.cellK (hC 2 (by decide))
      have c3 := hnr.cellK (hC 3 (by decide))
      clear hcell
      have d0 : wr.cell? ⟨b, o + j * 4, none⟩ = some (.int .i64 (p 0)) := c0
      have HC := hid hC
      clear hC c0
      cases hm : mayB (p 0) (p 1) (p 2) (p 3) with
      | false =>
        have q := push_arg2 wr w0.heap.size (r : Int) (p 0) (p 1) (p 2) (p 3) (by omega) hm
        have q2 := refmay_any (p 0) (p 1) (p 2) (p 3)
        rw [hm] at q2
        have Q := hid (And.intro q q2)
        clear q q2 hm
        go_wp2_with fail
        refine Q.out.1.mono ?_
        rintro e w3 ⟨rfl, n3⟩
        have y3 := hnr.step n3
        have c0 : w3.cell? ⟨b, o + j * 4, none⟩ = some (.int .i64 (p 0)) := y3.cellK (HC.out 0 (by decide))
        have c1 := y3.cellK (HC.out 1 (by decide))
        have c2 := y3.cellK (HC.out 2 (by decide))
        have c3 := y3.cellK (HC.out 3 (by decide))
        have A := hid (And.intro (hat.new_ n3) (hsl.new_ n3))
        clear d0 hat hsl hnr
        go_wp2_with fail
        refine (Q.out.2 _).mono ?_
        rintro e w4 ⟨rfl, n4⟩
        go_wp2_with fail
        refine ⟨⟨j + 1, L, by omega, by go_num, A.out.2.new_ n4, A.out.1.new_ n4, y3.step n4⟩, ?_⟩
        simp [intOf]; omega
      | true =>
        have q2 := refmay_any (p 0) (p 1) (p 2) (p 3)
        rw [hm] at q2
        by_cases h16 : L.length = 16
        · have q := push_full wr _ _ _ hat r hr8 (p 0) (p 1) (p 2) (p 3) hm (by rw [upd_at]; exact h16)
          have Q := hid (And.intro q q2)
          have hl16 : ¬ (L.length : Int) < 16 := by omega
          clear q q2 hm h16
          go_wp2_with fail
          refine Q.out.1.mono ?_
          rintro e w3 ⟨rfl, n3⟩
          have y3 := hnr.step n3
          have c0 : w3.cell? ⟨b, o + j * 4, none⟩ = some (.int .i64 (p 0)) := y3.cellK (HC.out 0 (by decide))
          have c1 := y3.cellK (HC.out 1 (by decide))
          have c2 := y3.cellK (HC.out 2 (by decide))
          have c3 := y3.cellK (HC.out 3 (by decide))
          have A := hid (And.intro (hat.new_ n3) (hsl.new_ n3))
          clear d0 hat hsl hnr
          go_wp2_with fail
          refine (Q.out.2 _).mono ?_
          rintro e w4 ⟨rfl, n4⟩
          go_wp2_with fail
          refine ⟨⟨j + 1, L, by omega, by go_num, A.out.2.new_ n4, A.out.1.new_ n4, y3.step n4⟩, ?_⟩
          simp [intOf]; omega
        · have q := push_yes wr _ _ _ hat hnr.size r hr8 (p 0) (p 1) (p 2) (p 3) hm (by rw [upd_at]; omega)
          rw [upd_at, upd_upd] at q
          have Q := hid (And.intro q q2)
          have hl16 : (L.length : Int) < 16 := by omega
          have HL := hid h16
          clear q q2 hm h16
          go_wp2_with fail
          refine Q.out.1.mono ?_
          rintro e w3 ⟨rfl, a3, k3⟩
          have y3 := hnr.kept k3 hb
          have s3 := hsl.keeps k3 (sl_notFT hsl)
          have c0 : w3.cell? ⟨b, o + j * 4, none⟩ = some (.int .i64 (p 0)) := y3.cellK (HC.out 0 (by decide))
          have c1 := y3.cellK (HC.out 1 (by decide))
          have c2 := y3.cellK (HC.out 2 (by decide))
          have c3 := y3.cellK (HC.out 3 (by decide))
          have A := hid (And.intro a3 s3)
          clear d0 hat hsl hnr a3 s3 k3
          go_wp2_with fail
          refine (Q.out.2 _).mono ?_
          rintro e w4 ⟨rfl, n4⟩
          have y4 := y3.step n4
          have hy4 := y4.size
          have c0 : w4.cell? ⟨b, o + j * 4, none⟩ = some (.int .i64 (p 0)) := y4.cellK (HC.out 0 (by decide))
          have c1 := y4.cellK (HC.out 1 (by decide))
          have c2 := y4.cellK (HC.out 2 (by decide))
          have c3 := y4.cellK (HC.out 3 (by decide))
          have s4 := A.out.2.new_ n4
          have a4 := A.out.1.new_ n4
          have HN : Hid (∀ W : World, W.heap[w4.heap.size]? = some (.cells (bk ⟨fun _ => 0, p 0, p 1, p 2, p 3⟩).toArray 29 (0, 0)) → ∀ j u, (bk ⟨fun _ => 0, p 0, p 1, p 2, p 3⟩)[j]? = some u → W.cell? ((⟨w4.heap.size, 0, none⟩ : Addr).add j) = some u) := by
            intro W hW j u hu
            rw [Addr.add_lit, Nat.zero_add, Blk.cell hW, List.getElem?_toArray]
            exact hu
          have HN1 : Hid (∀ u ∈ bk ⟨fun _ => 0, p 0, p 1, p 2, p 3⟩, u.oneCell' = true) := by
            intro u hu
            simp only [bk, List.mem_cons, List.not_mem_nil, or_false] at hu
            rcases hu with rfl | rfl | rfl | rfl <;> rfl
          have HS := hid s4
          have HA := hid a4
          clear s4 a4
          go_wp2_with (at_builtin; refine wpList_append_sl _ rfl (.tmp 83) (.tmp 88) 52 rfl W.heap.size 29 ti z 4 32 Try.underlying52 HT.out.1 HT.out.2.2.2.1 HT.out.2.1 HT.out.2.2.1 HT.out.2.2.2.2 (by decide) (.slice oa L.length oc) L.length (bks L) rfl (HS.out.alloc _) ⟨w4.heap.size, 0, none⟩ 1 1 (bk ⟨fun _ => 0, p 0, p 1, p 2, p 3⟩) rfl (by decide) rfl (HN.out _ (heap_alloc_new w4 _)) HN1.out (by unfold maxLen; omega) (by omega) (by rw [World.size_alloc]; omega) ?_; intro v' w5 hs5 hg5 hb5)
          refine ⟨⟨j + 1, L ++ [⟨fun _ => 0, p 0, p 1, p 2, p 3⟩], by omega, by go_num, by rw [bks_app, List.length_append]; exact hs5, ?_, ?_⟩, ?_⟩
          · have a5 := HA.out.new_ ((New.refl _).alloc (.cells #[.int .i64 (p 0), .int .i64 (p 1), .int .i64 (p 2), .int .i64 (p 3)] 29))
            refine a5.keeps (F := fun b => (Value.slice oa L.length oc).ownBlock = some b) ⟨hg5.os, hg5.tape, hg5.output, hg5.size, fun i hi hn => hg5.block i hi (fun e => hn e.symm)⟩ fun i hi e => ?_
            exact sl_notFT (HS.out.alloc _) i e hi
          · exact New.grown (y4.alloc _) hg5 (fun k hk => (HS.out.lt k hk).1)
          · simp [intOf]; omega
    · have A := hid (And.intro hsl (And.intro hat hnr))
      have w2' : IntKind.i64.wrap ((L.length : Int) - 1) = L.length - 1 := by rw [IntKind.wrap_i64]; omega
      clear hat hnr hsl hj H
      go_wp2_with fail
      go_loopw [12] (fun i wr => ∃ (j : Nat), j ≤ L.length ∧ i = .int .i64 ((j : Int) - 1) ∧ Sl wr W.heap.size 29 4 (.slice oa L.length oc) L.length (bks L) ∧ At wr W.heap.size w0.heap.size (upd nothing r (L.take j)) ∧ New W wr) (fun i _ => (intOf i + 1).toNat)
      case atStart => exact ⟨L.length, Nat.le_refl _, rfl, A.out.1, by rw [List.take_length]; exact A.out.2.1, A.out.2.2⟩
      case round =>
        clear A w2'
        obtain ⟨j, hj, rfl, hsl, hat, hnr⟩ := hrel
        by_cases hj0 : 0 < j
        · obtain ⟨k, rfl⟩ : ∃ k, j = k + 1 := ⟨j - 1, by omega⟩
          have hkl : k < L.length := by omega
          obtain ⟨x, hx⟩ : ∃ x, x = L[k] := ⟨_, rfl⟩
          have htk : L.take (k + 1) = L.take k ++ [x] := by rw [List.take_add_one, List.getElem?_eq_getElem hkl, hx]; rfl
          rw [htk] at hat
          have hlk : (L.take k).length = k := by rw [List.length_take]; omega
          obtain ⟨g, o2, cap, hv, hbg, hgl, hcap, hcl, _⟩ := hsl.form (by omega)
          injection hv with hv1 _ hv2
          subst hv1 hv2
          have hon : ∀ i u, i < 4 → (bk x)[i]? = some u → wr.cell? ⟨g, o2 + k * 4 + i, none⟩ = some u := by
            intro i u hi hu
            have := hcl (k * 4 + i) u (by rw [bks_get L k i hkl hi, ← hx]; exact hu)
            rw [← Nat.add_assoc] at this
            exact this
          have e1 : (((k + 1 : Nat) : Int) - 1) = k := by omega
          rw [e1]
          have q1 := fun X (h : New wr X) => Top_yes X _ _ _ (hat.new_ h) r hr8 (L.take k) x (upd_at _ _ _)
          have q2 := fun X (h : New wr X) => Pop_yes X _ _ _ (hat.new_ h) (hnr.step h).size r hr8 (L.take k) x (upd_at _ _ _)
          rw [upd_upd] at q2
          have w3' : IntKind.i64.wrap ((k : Int) - 1) = k - 1 := by rw [IntKind.wrap_i64]; omega
          have hpt : ptEq x.a x.b x.c x.d x.a x.b x.c x.d = true := by simp [ptEq]
          have hk0 : (0 : Int) ≤ (k : Int) := by omega
          have hkL : (k : Int) < (L.length : Int) := by omega
          have HSL := hid hsl
          have Q := hid (And.intro q1 q2)
          have HON := hid hon
          clear q1 q2 hat hcl hon e1 htk hx hsl
          go_wp2_with fail
          refine (Q.out.1 _ (by (repeat (first | exact New.refl _ | (refine New.step ?_ (by assumption)) | apply New.alloc | apply New.drewN | apply New.drew)))).mono ?_
          rintro e w3 ⟨rfl, n3⟩
          go_wp2_with fail
          refine (Q.out.1 _ (by (repeat (first | exact New.refl _ | (refine New.step ?_ (by assumption)) | apply New.alloc | apply New.drewN | apply New.drew)))).mono ?_
          rintro e w4 ⟨rfl, n4⟩
          go_wp2_with fail
          refine (Q.out.2 _ (by (repeat (first | exact New.refl _ | (refine New.step ?_ (by assumption)) | apply New.alloc | apply New.drewN | apply New.drew)))).mono ?_
          rintro e w5 ⟨rfl, a5, k5⟩
          obtain ⟨ar, har⟩ : ∃ ar : Array Value, ar = #[.int .i64 x.a, .int .i64 x.b, .int .i64 x.c, .int .i64 x.d] := ⟨_, rfl⟩
          have hA4 : Blk (w4.alloc (.cells ar 29)) w3.heap.size 29 ar := by rw [har]; exact ((Blk.new w3 29 _).new_ n4).alloc _
          have hB4 : Blk (w4.alloc (.cells ar 29)) w4.heap.size 29 ar := Blk.new _ _ _
          have hnX : New wr (w4.alloc (.cells ar 29)) := (((n3.alloc _).step n4).alloc _)
          have hSX := HSL.out.new_ hnX
          rw [har] at hA4 hB4 hnX hSX
          have hA5 := hA4.keeps k5 (FT.not hA4 (by decide) (by decide))
          have hB5 := hB4.keeps k5 (FT.not hB4 (by decide) (by decide))
          have hgF := sl_notFT (base := W.heap.size) hSX g rfl
          have hO : ∀ i u, i < 4 → (bk x)[i]? = some u → w5.cell? ⟨g, o2 + k * 4 + i, none⟩ = some u := fun i u hi hu => k5.cell (hnX.cellK (HON.out i u hi hu)) hgF
          have y5 := (hnr.step hnX).kept k5 hb
          have HW : Hid (∀ cs t n, Calls Try.prog 18 #[.pointer (some ⟨w0.heap.size, 0, none⟩), .int .i64 (r : Int)] ((w5.alloc (.cells cs t)).drewN n) fun e w' => e = .returned (.int .i64 (k : Int)) ∧ w' = (w5.alloc (.cells cs t)).drewN n) := by
            intro cs t n
            have q := depth_yes _ _ _ _ ((a5.new_ ((New.refl _).alloc (.cells cs t))).drewN n) r hr8
            rw [upd_at, hlk] at q
            refine q.mono ?_
            rintro e w' ⟨rfl, rfl⟩
            exact ⟨rfl, rfl⟩
          have hsz : g < w5.heap.size := World.block_lt_of_cell? w5 _ (hO 0 _ (by decide) rfl)
          have hs3 : w3.heap.size < w5.heap.size := hA5.lt
          have hs4 : w4.heap.size < w5.heap.size := hB5.lt
          have a0 : w5.cell? ⟨w3.heap.size, 0, none⟩ = some (.int .i64 x.a) := by rw [hA5.cell]; rfl
          have a1 : w5.cell? ⟨w3.heap.size, 1, none⟩ = some (.int .i64 x.b) := by rw [hA5.cell]; rfl
          have a2 : w5.cell? ⟨w3.heap.size, 2, none⟩ = some (.int .i64 x.c) := by rw [hA5.cell]; rfl
          have a3 : w5.cell? ⟨w3.heap.size, 3, none⟩ = some (.int .i64 x.d) := by rw [hA5.cell]; rfl
          have b0 : w5.cell? ⟨w4.heap.size, 0, none⟩ = some (.int .i64 x.a) := by rw [hB5.cell]; rfl
          have b1 : w5.cell? ⟨w4.heap.size, 1, none⟩ = some (.int .i64 x.b) := by rw [hB5.cell]; rfl
          have b2 : w5.cell? ⟨w4.heap.size, 2, none⟩ = some (.int .i64 x.c) := by rw [hB5.cell]; rfl
          have b3 : w5.cell? ⟨w4.heap.size, 3, none⟩ = some (.int .i64 x.d) := by rw [hB5.cell]; rfl
          have o0 : w5.cell? ⟨g, o2 + k * 4, none⟩ = some (.int .i64 x.a) := hO 0 _ (by decide) rfl
          have o1 := hO 1 _ (by decide) rfl
          have o2' := hO 2 _ (by decide) rfl
          have o3 := hO 3 _ (by decide) rfl
          have HE := hid (And.intro a5 (And.intro y5 (HSL.out.new_ hnX |>.keeps k5 (fun g' hg' => by cases hg'; exact hgF))))
          clear hA4 hB4 hnX hSX hA5 hB5 hgF hO y5 a5 k5 Q HON n3 n4 hlk har
          go_wp2_with fail
          go_quiet (first | (go_at_call 18; exact Calls.quiet_of_same (HW.out _ _ _)))
          go_wp2_with fail
          have nA : New w5 ((w5.alloc (.cells #[.int .i64 x.a, .int .i64 x.b, .int .i64 x.c, .int .i64 x.d] 29)).drewN nq) := ((New.refl _).alloc _).drewN nq
          refine ⟨⟨k, by omega, rfl, HE.out.2.2.new_ nA, HE.out.1.new_ nA, HE.out.2.1.step nA⟩, ?_⟩
          simp [intOf]
        · have hj1 : ¬ (0 : Int) ≤ (j : Int) - 1 := by omega
          go_wp2_with fail
          go_ret
          exact ⟨rfl, hnr⟩
theorem framesBack_row {H : Type} {enc : TypeId × Value → H} (W : World) {base : Nat}
    (v0 : Value) (d0 : DataW H) (p0 : List MemPlace) (k0 : Value.okWide Try.prog W .any base 52 v0) (h0 : DataW.Trod enc Try.prog W 0 (fun _ => true) true 52 v0 d0 p0) (l0 : ∀ x ∈ p0, x.block < W.heap.size)
    (v1 : Value) (d1 : DataW H) (p1 : List MemPlace) (k1 : Value.okWide Try.prog W .any base 5 v1) (h1 : DataW.Trod enc Try.prog W 0 (fun _ => true) true 5 v1 d1 p1) (l1 : ∀ x ∈ p1, x.block < W.heap.size)
    : Calls Try.prog 7 #[v0, v1] W fun e W' => e = .returned (.bool true) ∧ Below W.heap.size W W' := by
  obtain ⟨n, a, c, g, rfl, hc, hw, _⟩ := open_stuples Try.underlying52 (pt_ints H) (by decide) k0 h0
  obtain ⟨y, rfl, rfl, rfl, wy⟩ := open_int Try.underlying5 k1 h1
  have hy := wf_u8 wy
  refine framesBack_walk a n c g y hy.1 hy.2 W fun h0 => ?_
  obtain ⟨b, o, e, hb, hcell⟩ := hc h0
  refine ⟨b, o, e, hb, fun i j hi hj => hcell i j .i64 hi ?_⟩
  rcases (show j = 0 ∨ j = 1 ∨ j = 2 ∨ j = 3 by omega) with rfl | rfl | rfl | rfl <;> rfl
end Go.Proofs.Ytfgfhaknecolpaa.Law
