/- The contract of slices.Insert at rooms. -/
import Derived.Test.YteakbhfegbghoaaAreaS
import Derived.Test.YteakbhfegbghoaaCopy
import Derived.Lib.Overlaps
import Derived.Lib.AppendZeros
import Derived.Lib.AppendZerosOnto
import Derived.Laws.IdiomCopy
namespace Go.Proofs.Yteakbhfegbghoaa.Area
open Go Go.RowKit Go.Proofs.Yteakbhfegbghoaa.Kit
set_option linter.unusedSimpArgs false
set_option linter.unusedVariables false
theorem sizeT (w : World) : (Go.sizeOf 126).run Try.prog w = .ok 2 w := by kernel_rfl
def InsPost (w : World) (base : Nat) (e : TypeId) (v : Value) (n : Nat) (cs : List Value) (en : Ending) (w' : World) : Prop :=
  ∃ v', en = .returned v' ∧ Sl w' base e 2 v' n cs ∧ Keeps (fun k => v.ownBlock = some k) w w' ∧ (v'.ownBlock = v.ownBlock ∨ ∃ g, v'.ownBlock = some g ∧ w.heap.size ≤ g)
set_option maxRecDepth 100000 in
set_option maxHeartbeats 4000000 in
theorem insert_any (w : World) (base : Nat) (hbase : base ≤ w.heap.size) (v : Value) (cs : List Value) (n i : Nat) (hs : Sl w base 126 2 v n cs) (hn : n ≤ 100000) (hi : i ≤ n) (h1 : ∀ u ∈ cs, u.oneCell' = true)
    (g : Nat) (news : List Value) (hl4 : news.length = 2) (hb : Blk w g 126 news.toArray) (hne : v.ownBlock ≠ some g) (h1n : ∀ u ∈ news, u.oneCell' = true) :
    Calls Try.prog 54 #[v, .int .i64 (i : Int), .slice (some ⟨g, 0, none⟩) 1 1] w (InsPost w base 126 v (n + 1) (cs.take (i * 2) ++ news ++ cs.drop (i * 2))) := by
  obtain ⟨ti, hti, hzz⟩ := Option.map_eq_some_iff.1 room_info
  simp only [Prod.mk.injEq] at hzz
  have HT := hid (And.intro hti hzz)
  have hnews : ∀ j u, news[j]? = some u → w.cell? ((⟨g, 0, none⟩ : Addr).add j) = some u := by
    intro j u hu
    rw [Addr.add_lit, Nat.zero_add, hb.cell, List.getElem?_toArray]
    exact hu
  by_cases hin : i = n
  · have hcl := hs.1
    obtain ⟨res, hres⟩ : ∃ res, res = cs.take (i * 2) ++ news ++ cs.drop (i * 2) := ⟨_, rfl⟩
    obtain ⟨N, hN⟩ : ∃ N, N = n + 1 := ⟨_, rfl⟩
    rw [← hres, ← hN]
    have htk : Hid (N = i + 1 ∧ res = cs ++ news) := by
      refine ⟨by rw [hN, hin], ?_⟩
      rw [hres, hin, ← hcl, List.take_length, List.drop_length, List.append_nil]
    clear hres hN
    subst hin
    have hsv := hs.val
    obtain ⟨a, cap, rfl⟩ := hsv
    have hcap : i ≤ cap ∧ cap ≤ maxLen := by
      rcases hs.2 with ⟨e, h0⟩ | ⟨_, _, _, _, e, _, _, h1, h2, _⟩
      · injection e with e1 e2 e3; omega
      · injection e with e1 e2 e3; omega
    unfold maxLen at hcap
    obtain ⟨hc1, hc2⟩ := hcap
    by_cases hci : i = cap
    · subst hci
      have R := hid (And.intro hs (And.intro hnews (And.intro h1n hl4)))
      clear hs hnews h1n hl4 h1 hti hzz hb hcl
      go_enter Try.func54, Try.ntmps54
      go_wp2_with (at_builtin; refine wpList_append_sl _ rfl (.tmp 23) (.tmp 24) 122 rfl base 126 ti _ 2 32 Try.underlying122 HT.out.1 HT.out.2.1 HT.out.2.2.1 HT.out.2.2.2 rfl (by decide) (.slice a i i) i _ rfl R.out.1 ⟨g, 0, none⟩ 1 1 news rfl (by decide) (by rw [R.out.2.2.2]) R.out.2.1 R.out.2.2.1 (by unfold maxLen; omega) (by omega) hbase ?_; intro v' w3 hs3 hg3 hb3)
      have HF := hid (show InsPost w base 126 (.slice a i i) N res (.returned v') w3 from ⟨v', rfl, by rw [htk.out.1, htk.out.2]; exact hs3, (Keeps.refl _ w).grown hg3 (fun k hk => .inr hk), hb3⟩)
      clear hs3 hg3 hb3
      go_wp2
      go_ret
      exact HF.out
    · have hci2 : ¬ cap = i := fun e => hci e.symm
      have R := hid (And.intro hs (And.intro hnews (And.intro h1n hl4)))
      clear hs hnews h1n hl4 h1 hti hzz hb hcl
      go_enter Try.func54, Try.ntmps54
      go_wp2_with (at_builtin; refine wpList_append_sl _ rfl (.tmp 23) (.tmp 24) 122 rfl base 126 ti _ 2 32 Try.underlying122 HT.out.1 HT.out.2.1 HT.out.2.2.1 HT.out.2.2.2 rfl (by decide) (.slice a i cap) i _ rfl R.out.1 ⟨g, 0, none⟩ 1 1 news rfl (by decide) (by rw [R.out.2.2.2]) R.out.2.1 R.out.2.2.1 (by unfold maxLen; omega) (by omega) hbase ?_; intro v' w3 hs3 hg3 hb3)
      have HF := hid (show InsPost w base 126 (.slice a i cap) N res (.returned v') w3 from ⟨v', rfl, by rw [htk.out.1, htk.out.2]; exact hs3, (Keeps.refl _ w).grown hg3 (fun k hk => .inr hk), hb3⟩)
      clear hs3 hg3 hb3
      go_wp2
      go_ret
      exact HF.out
  · have hin' : ¬ (i : Int) = (n : Int) := by omega
    have hin2 : ((i : Int) == (n : Int)) = false := by rw [beq_eq_false_iff_ne]; exact hin'
    obtain ⟨g0, o, cap, rfl, hb0, hg0, hnc, hcell, hfr⟩ := hs.form (by omega)
    have hcm : cap ≤ maxLen := by
      rcases hs.2 with ⟨e, h0⟩ | ⟨_, _, _, _, e, _, _, h1, h2, _⟩
      · cases e
      · injection e with e1 e2 e3; omega
    unfold maxLen at hcm
    have hgg : g0 ≠ g := fun e => hne (by rw [e]; rfl)
    have hcl := hs.1
    obtain ⟨res, hres⟩ : ∃ res, res = cs.take (i * 2) ++ news ++ cs.drop (i * 2) := ⟨_, rfl⟩
    obtain ⟨N, hN⟩ : ∃ N, N = n + 1 := ⟨_, rfl⟩
    rw [← hres, ← hN]
    have htk : Hid (N = n + 1 ∧ res = cs.take (i * 2) ++ news ++ cs.drop (i * 2)) := ⟨hN, hres⟩
    clear hres hN
    by_cases hroom : n + 1 ≤ cap
    · have hsA : w.shape? g = some (126, 2) := by
        have := hb
        unfold Blk at this
        simp [World.shape?, this, hl4]
      obtain ⟨cur, cur1, hbc, hf1, hbc1, hf2, hfin⟩ := Sl.insIn (w := w.drew) (news := news) hs.drew hi hroom hl4
      have hsB : ∃ kB, w.shape? g0 = some (126, kB) ∧ kB ≠ 0 := by
        have : Blk w g0 126 cur := hbc
        unfold Blk at this
        exact ⟨cur.size, by simp [World.shape?, this], by omega⟩
      obtain ⟨kB, hsB, hkB⟩ := hsB
      have hov : ∀ lb cb, (callFunc 68 #[.slice (some ⟨g, 0, none⟩) 1 1, .slice (some ⟨g0, o + (i + 1) * 2, none⟩) lb cb]).run Try.prog w = .ok (.value (.bool false)) w := fun lb cb => by
        rw [run_callFunc_extern Try.func68 (by kernel_rfl) (by kernel_rfl) (by kernel_rfl) (e := Extern.SlicesOverlaps.overlaps #[122, 122] #[4]) (by kernel_rfl),
          Lib.run_overlaps_apart w 122 4 126 Try.underlying122 2 sizeT ⟨g, 0, none⟩ ⟨g0, o + (i + 1) * 2, none⟩ 1 1 lb cb (fun e => hgg e.symm) 126 126 2 kB hsA hsB hkB (hb.frozen 0) (hb.frozen 2)]
        rfl
      have hdl : (cs.drop (i * 2)).length = (n - i) * 2 := by rw [List.length_drop, hcl]; omega
      have hcp1 : ∀ ty dc sc, (Builtin.copy_ #[122, 122] ty #[.slice (some ⟨g0, o + (i + 1) * 2, none⟩) (n - i) dc, .slice (some ⟨g0, o + i * 2, none⟩) (n + 1 - i) sc]).run Try.prog w.drew = .ok (goInt (Nat.min (n + 1 - i) (n - i))) (w.drew.setCells g0 (o + (i + 1) * 2) (cs.drop (i * 2))) := fun ty dc sc =>
        run_copy_k w.drew 122 122 ty 126 126 ti g0 _ _ dc ⟨g0, o + i * 2, none⟩ _ sc (cs.drop (i * 2)) cur Try.underlying122 hti
          (by rw [hdl, hzz.2.1]; congr 1; simp only [Nat.min_def]; split <;> omega)
          (fun j u hj => by rw [Addr.add_lit, Nat.add_assoc]; exact hcell (i * 2 + j) u (by rwa [List.getElem?_drop] at hj)) hbc hf1 (fun u hu => h1 u (List.mem_of_mem_drop hu))
      obtain ⟨W1, hW1⟩ : ∃ W1, W1 = w.drew.setCells g0 (o + (i + 1) * 2) (cs.drop (i * 2)) := ⟨_, rfl⟩
      rw [← hW1] at hcp1 hbc1 hfin
      have hk1 : Keeps (fun k => (Value.slice (some ⟨g0, o, none⟩) n cap).ownBlock = some k) w W1 := by
        rw [hW1]
        exact ((Keeps.refl _ w).drew).grown (setCells_keeps g0 _ _ _) (fun k hk => .inr hk)
      have hgW1 : Blk W1 g 126 news.toArray := hb.keeps hk1 (fun e => hne e)
      have hcp2 : ∀ ty dc, (Builtin.copy_ #[122, 122] ty #[.slice (some ⟨g0, o + i * 2, none⟩) (n + 1 - i) dc, .slice (some ⟨g, 0, none⟩) 1 1]).run Try.prog W1 = .ok (goInt (Nat.min 1 (n + 1 - i))) (W1.setCells g0 (o + i * 2) news) := fun ty dc =>
        run_copy_k W1 122 122 ty 126 126 ti g0 _ _ dc ⟨g, 0, none⟩ 1 1 news cur1 Try.underlying122 hti
          (by rw [hl4, hzz.2.1, show Nat.min 1 (n + 1 - i) = 1 by simp only [Nat.min_def]; split <;> omega])
          (fun j u hu => by rw [Addr.add_lit, Nat.zero_add, hgW1.cell, List.getElem?_toArray]; exact hu) hbc1 hf2 h1n
      have hk2 : Keeps (fun k => (Value.slice (some ⟨g0, o, none⟩) n cap).ownBlock = some k) w (W1.setCells g0 (o + i * 2) news) := hk1.grown (setCells_keeps g0 _ _ _) (fun k hk => .inr hk)
      have HF := hid (show InsPost w base 126 (.slice (some ⟨g0, o, none⟩) n cap) N res (.returned (.slice (some ⟨g0, o, none⟩) (n + 1) cap)) (W1.setCells g0 (o + i * 2) news) from ⟨_, rfl, by rw [htk.out.1, htk.out.2]; exact hfin, hk2, .inl rfl⟩)
      have hz3 : ¬ ((cap : Int) < (n : Int) + 1) := by omega
      have hw1 : IntKind.i64.wrap ((i : Int) + 1) = (i : Int) + 1 := by rw [IntKind.wrap_i64]; omega
      have hw2 : IntKind.i64.wrap ((n : Int) + 1) = (n : Int) + 1 := by rw [IntKind.wrap_i64]; omega
      have hb0' : (0 : Int) ≤ (i : Int) + 1 := by omega
      have htn : ((i : Int) + 1).toNat = i + 1 := by omega
      have hb2 : ¬ (cap = i + 1) := by omega
      have hb3 : (i : Int) ≤ (n : Int) + 1 := by omega
      have hb4 : ¬ (cap = i) := by omega
      clear hs hti hzz hb hne hnews hcell hfr hcl hbc hf1 hbc1 hf2 hfin hsA hsB hdl hk1 hk2 hgW1 hl4 h1 h1n
      have HW1 := hid hW1
      clear hW1
      go_enter Try.func54, Try.ntmps54
      go_wp2_with (simp only [hov])
      go_region_law (refine step_copy_run rfl _ _ 122 122 rfl _ _ (by simp [Act.eval, Act.put]) (by simp [Act.eval, Act.put]) (hcp1 _ _ _) ?_)
      go_wp2
      go_ret
      exact HF.out
    · have hcn : cap = n := by omega
      have hcn' := hid hcn
      have hdl : (cs.drop (i * 2)).length = n * 2 - i * 2 := by rw [List.length_drop, hcl]
      have htl : (cs.take (i * 2)).length = i * 2 := by rw [List.length_take, hcl]; omega
      have hz := Lib.run_append_grow_zeros (P := Try.prog) w 122 3 122 126 ti _ .i64 .i64 Try.underlying122 Try.underlying3 hti hzz.1 (some ⟨g0, o, none⟩) i cap (cs.take (i * 2))
        (by
          have := run_loadCells_list (P := Try.prog) w.drew ⟨g0, o, none⟩ (cs.take (i * 2)) (fun j u hu => by
            rw [Addr.add_lit]
            have hj : j < i * 2 := by rw [← htl]; exact (List.getElem?_eq_some_iff.1 hu).1
            rw [List.getElem?_take_of_lt hj] at hu
            exact hcell j u hu)
          rw [htl] at this
          rw [hzz.2.1]
          exact this)
        (n + 1 - i) (by omega) (by rw [hzz.2.1]; decide) (by omega) (by omega) (by rw [hzz.2.2]; omega) (growslice_fits (by omega) (by rw [hzz.2.2]; omega))
      rw [show i + (n + 1 - i) = n + 1 by omega, show ((n + 1 - i : Nat) : Int) = (n : Int) + 1 - i by omega] at hz
      have hM1 := grownCap_ge w (n + 1) cap 126
      have hM2 := grownCap_le_maxLen w (n + 1) cap 126 (by unfold maxLen; omega)
      generalize grownCap w (n + 1) cap 126 = M at hz hM1 hM2
      obtain ⟨Z, hZ⟩ : ∃ Z, Z = (Value.agg #[Value.int IntKind.i64 0, Value.slice none 0 0]).cells := ⟨_, rfl⟩
      have hZl : Z.size = 2 := by rw [hZ]; rfl
      rw [← hZ] at hz
      obtain ⟨arr, harr⟩ : ∃ arr, arr = (List.take (i * 2) cs).toArray ++ Builtin.zeroCells Z (n + 1 - i) ++ Builtin.zeroCells Z (M - (n + 1)) := ⟨_, rfl⟩
      rw [← harr] at hz
      have hasz : arr.size = M * 2 := by rw [harr, Array.size_append, Array.size_append, size_zeroCells, size_zeroCells, hZl, List.size_toArray, htl]; omega
      have hatl : arr.toList = cs.take (i * 2) ++ (Builtin.zeroCells Z (n + 1 - i) ++ Builtin.zeroCells Z (M - (n + 1))).toList := by rw [harr, Array.append_assoc, Array.toList_append]
      have hBa : Blk (w.drew.alloc (.cells arr 126)) w.heap.size 126 arr := Blk.new w.drew _ _
      have hkA : Keeps (fun k => (Value.slice (some ⟨g0, o, none⟩) n cap).ownBlock = some k) w (w.drew.alloc (.cells arr 126)) := ((Keeps.refl _ w).drew).alloc _
      have hnA : New w (w.drew.alloc (.cells arr 126)) := ((New.refl w).drew).alloc _
      obtain ⟨W0, hW0⟩ : ∃ W0, W0 = w.drew.alloc (.cells arr 126) := ⟨_, rfl⟩
      obtain ⟨H, hH⟩ : ∃ H, H = w.heap.size := ⟨_, rfl⟩
      rw [← hW0] at hz hBa hkA hnA
      rw [← hH] at hz hBa
      have hgH : g ≠ H := by have := hb.lt; omega
      obtain ⟨hf1, cur1, hbc1, hf2, hfin⟩ := Sl.insNew (base := base) (n := n) (D := cs.drop (i * 2)) hBa hatl htl hdl hi hl4 hM1 hM2 hasz (by omega)
      have hgW0 : Blk W0 g 126 news.toArray := hb.new_ hnA
      have hcp1 : ∀ ty dc, (Builtin.copy_ #[122, 122] ty #[.slice (some ⟨H, i * 2, none⟩) (n + 1 - i) dc, .slice (some ⟨g, 0, none⟩) 1 1]).run Try.prog W0 = .ok (goInt (Nat.min 1 (n + 1 - i))) (W0.setCells H (i * 2) news) := fun ty dc =>
        run_copy_k W0 122 122 ty 126 126 ti H _ _ dc ⟨g, 0, none⟩ 1 1 news arr Try.underlying122 hti
          (by rw [hl4, hzz.2.1, show Nat.min 1 (n + 1 - i) = 1 by simp only [Nat.min_def]; split <;> omega])
          (fun j u hu => by rw [Addr.add_lit, Nat.zero_add, hgW0.cell, List.getElem?_toArray]; exact hu) hBa hf1 h1n
      obtain ⟨W1, hW1⟩ : ∃ W1, W1 = W0.setCells H (i * 2) news := ⟨_, rfl⟩
      rw [← hW1] at hcp1 hbc1
      have hg01 : W0.grownBy W1 (some H) := by rw [hW1]; exact setCells_keeps H _ _ _
      have hk1 := hkA.grown hg01 (fun k hk => .inl (by cases hk; omega))
      have hn1 := hnA.grown hg01 (fun k hk => by cases hk; omega)
      have hcell1 : ∀ j u, cs[j]? = some u → W1.drew.cell? ⟨g0, o + j, none⟩ = some u := fun j u hu => hn1.drew.cellK (hcell j u hu)
      have hbc2 : Blk W1.drew H 126 cur1 := hbc1
      have hcp2 : ∀ ty dc sc, (Builtin.copy_ #[122, 122] ty #[.slice (some ⟨H, (i + 1) * 2, none⟩) (n - i) dc, .slice (some ⟨g0, o + i * 2, none⟩) (n - i) sc]).run Try.prog W1.drew = .ok (goInt (Nat.min (n - i) (n - i))) (W1.drew.setCells H ((i + 1) * 2) (cs.drop (i * 2))) := fun ty dc sc =>
        run_copy_k W1.drew 122 122 ty 126 126 ti H _ _ dc ⟨g0, o + i * 2, none⟩ _ sc (cs.drop (i * 2)) cur1 Try.underlying122 hti
          (by rw [hdl, hzz.2.1]; simp only [Nat.min_def]; split <;> omega)
          (fun j u hj => by rw [Addr.add_lit, Nat.add_assoc]; exact hcell1 (i * 2 + j) u (by rwa [List.getElem?_drop] at hj)) hbc2 hf2 (fun u hu => h1 u (List.mem_of_mem_drop hu))
      have hsf := hfin W1.drew hbc2
      have hk2 := hk1.drew.grown (setCells_keeps H (cs.drop (i * 2)) ((i + 1) * 2) W1.drew) (fun k hk => .inl (by cases hk; omega))
      obtain ⟨W2, hW2⟩ : ∃ W2, W2 = W1.drew.setCells H ((i + 1) * 2) (cs.drop (i * 2)) := ⟨_, rfl⟩
      rw [← hW2] at hcp2 hsf hk2
      have HF := hid (show InsPost w base 126 (.slice (some ⟨g0, o, none⟩) n cap) N res (.returned (.slice (some ⟨H, 0, none⟩) (n + 1) M)) W2 from ⟨_, rfl, by rw [htk.out.1, htk.out.2]; exact hsf, hk2, .inr ⟨H, rfl, by omega⟩⟩)
      have hz3 : (cap : Int) < (n : Int) + 1 := by omega
      have hw1 : IntKind.i64.wrap ((i : Int) + 1) = (i : Int) + 1 := by rw [IntKind.wrap_i64]; omega
      have hw2 : IntKind.i64.wrap ((n : Int) + 1) = (n : Int) + 1 := by rw [IntKind.wrap_i64]; omega
      have hw3 : IntKind.i64.wrap ((n : Int) + 1 - i) = (n : Int) + 1 - i := by rw [IntKind.wrap_i64]; omega
      have hb0' : (0 : Int) ≤ (i : Int) + 1 := by omega
      have htn : ((i : Int) + 1).toNat = i + 1 := by omega
      have hb2 : ¬ (M = i + 1) := by omega
      have hb3 : (i : Int) ≤ (n : Int) + 1 := by omega
      have hb4 : ¬ (cap = i) := by omega
      have hb5 : ¬ (M = i) := by omega
      have hb6 : (i : Int) + 1 ≤ (n : Int) + 1 := by omega
      unfold maxLen at hM2
      have hb7 : (n : Int) + 1 ≤ (M : Int) := by omega
      clear hs hti hzz hb hne hnews hcell hfr hcl hbc1 hf1 hbc2 hf2 hfin hdl htl hk1 hk2 hgW0 hl4 h1 h1n hcn hZ hZl harr hasz hatl hBa hkA hnA hW0 hH hW1 hW2 hg01 hn1 hcell1 hsf
      go_enter Try.func54, Try.ntmps54
      go_wp2_with (at_builtin; refine Lib.wpList_append_run _ rfl _ _ _ _ rfl _ _ rfl rfl _ _ hz ?_)
      go_region_law (refine step_copy_run rfl _ _ 122 122 rfl _ _ (by simp [Act.eval, Act.put]) (by simp [Act.eval, Act.put]) (hcp2 _ _ _) ?_)
      go_wp2
      go_ret
      exact HF.out
end Go.Proofs.Yteakbhfegbghoaa.Area
