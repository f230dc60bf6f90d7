/- The contract of slices.Delete at rooms. -/
import Derived.Test.YteakbhfegbghoaaAreaI
import Derived.Test.YteakbhfegbghoaaDel
namespace Go.Proofs.Yteakbhfegbghoaa.Area
open Go Go.RowKit Go.Proofs.Yteakbhfegbghoaa.Kit
set_option linter.unusedSimpArgs false
set_option linter.unusedVariables false
set_option maxRecDepth 100000 in
set_option maxHeartbeats 4000000 in
theorem delete_any (w : World) (base : Nat) (v : Value) (cs : List Value) (n i : Nat) (hs : Sl w base 126 2 v n cs) (hn : n ≤ 100000) (hi : i < n) (h1 : ∀ u ∈ cs, u.oneCell' = true) :
    Calls Try.prog 56 #[v, .int .i64 (i : Int), .int .i64 ((i : Int) + 1)] w (InsPost w base 126 v (n - 1) (cs.take (i * 2) ++ cs.drop ((i + 1) * 2))) := by
  obtain ⟨ti, hti, hzz⟩ := Option.map_eq_some_iff.1 room_info
  simp only [Prod.mk.injEq] at hzz
  obtain ⟨g0, o, cap, rfl, hb0, hg0, hnc, hcell, hfr⟩ := hs.form (by omega)
  have hcm : cap ≤ maxLen := by
    rcases hs.2 with ⟨e, h0⟩ | ⟨_, _, _, _, e, _, _, h1, h2, _⟩
    · cases e
    · injection e with e1 e2 e3; omega
  unfold maxLen at hcm
  have hcl := hs.1
  obtain ⟨res, hres⟩ : ∃ res, res = cs.take (i * 2) ++ cs.drop ((i + 1) * 2) := ⟨_, rfl⟩
  obtain ⟨N, hN⟩ : ∃ N, N = n - 1 := ⟨_, rfl⟩
  obtain ⟨d, hd⟩ : ∃ d, d = n - (i + 1) := ⟨_, rfl⟩
  obtain ⟨zs, hzs⟩ : ∃ zs : List Value, zs = [.int .i64 0, .slice none 0 0] := ⟨_, rfl⟩
  obtain ⟨cur, cur1, hbc, hf1, hbc1, hf2, hfin⟩ := Sl.delIn (w := w.drew) (zs := zs) hs.drew hi (by rw [hzs]; rfl)
  rw [← hres, ← hN]
  rw [← hres, ← hN] at hfin
  rw [← hN] at hf2
  have hdl : (cs.drop ((i + 1) * 2)).length = d * 2 := by rw [List.length_drop, hcl, hd]; omega
  have hap : ∀ ty (a : Addr) c, (a = ⟨g0, o + (i + 1) * 2, none⟩ ∨ d = 0) → (Builtin.append_ #[122, 122] ty #[.slice (some ⟨g0, o, none⟩) i cap, .slice (some a) d c]).run Try.prog w.drew = .ok (.slice (some ⟨g0, o, none⟩) N cap) (w.drew.setCells g0 (o + i * 2) (cs.drop ((i + 1) * 2))) := fun ty a c ha => by
    have := run_append_room_cells (P := Try.prog) w.drew 122 ty 126 ti Try.underlying122 hti g0 o i cap a d c (cs.drop ((i + 1) * 2)) (by rw [hdl, hzz.2.1])
      (fun j u hj => by
        rcases ha with rfl | h0
        · rw [Addr.add_lit, Nat.add_assoc]; exact hcell _ u (by rwa [List.getElem?_drop] at hj)
        · have := (List.getElem?_eq_some_iff.1 hj).1; omega)
      (fun u hu => h1 u (List.mem_of_mem_drop hu)) (by omega)
      (fun j hj => by rw [hbc.cell, hzz.2.1]; simp; omega) (fun j hj => hbc.frozen _)
    rw [hzz.2.1, show i + d = N by omega] at this
    exact this
  obtain ⟨W1, hW1⟩ : ∃ W1, W1 = w.drew.setCells g0 (o + i * 2) (cs.drop ((i + 1) * 2)) := ⟨_, rfl⟩
  rw [← hW1] at hap hbc1 hfin
  have hcr : ∀ ty cc, (Builtin.clear_ #[122] ty #[.slice (some ⟨g0, o + N * 2, none⟩) 1 cc]).run Try.prog W1 = .ok (.tuple #[]) (W1.setCells g0 (o + N * 2) zs) := fun ty cc =>
    run_clear_k W1 122 ty 126 126 ti _ Try.underlying122 hti hzz.1 g0 _ _ cc (by decide) zs (by rw [hzs]; kernel_rfl) cur1 hbc1 hf2 (by rw [hzs]; decide)
  have hk1 : Keeps (fun k => (Value.slice (some ⟨g0, o, none⟩) n cap).ownBlock = some k) w W1 := by
    rw [hW1]
    exact ((Keeps.refl _ w).drew).grown (setCells_keeps g0 _ _ _) (fun k hk => .inr hk)
  have hk2 : Keeps (fun k => (Value.slice (some ⟨g0, o, none⟩) n cap).ownBlock = some k) w (W1.setCells g0 (o + N * 2) zs) := hk1.grown (setCells_keeps g0 _ _ _) (fun k hk => .inr hk)
  have HF := hid (show InsPost w base 126 (.slice (some ⟨g0, o, none⟩) n cap) N res (.returned (.slice (some ⟨g0, o, none⟩) N cap)) (W1.setCells g0 (o + N * 2) zs) from ⟨_, rfl, hfin, hk2, .inl rfl⟩)
  have z1 : ¬ (i : Int) = (i : Int) + 1 := by omega
  have z2 : ((i : Int) == (i : Int) + 1) = false := by rw [beq_eq_false_iff_ne]; exact z1
  have z3 : (0 : Int) ≤ (i : Int) := by omega
  have z4 : (0 : Int) ≤ (i : Int) + 1 := by omega
  have z5 : (i : Int) + 1 ≤ (n : Int) := by omega
  have z6 : (i : Int) ≤ (i : Int) + 1 := by omega
  have z7 : ((i : Int) + 1).toNat = i + 1 := by omega
  have z8 : ¬ cap = i := by omega
  have z9 : (i : Int) ≤ (cap : Int) := by omega
  have z10 : (n : Int) ≤ (cap : Int) := by omega
  have z11 : (i : Int) + 1 ≤ (cap : Int) := by omega
  have z12 : (N : Int) ≤ (n : Int) := by omega
  have z13 : (0 : Int) ≤ (N : Int) := by omega
  have z14 : ¬ cap = N := by omega
  have z15 : n - N = 1 := by omega
  have z16 : (0 : Int) ≤ (n : Int) := by omega
  by_cases hcap : cap = i + 1
  · have hd0 : d = 0 := by omega
    have hap := fun ty a c => hap ty a c (.inr hd0)
    subst hcap
    clear hs hti hzz hcell hfr hcl hbc hf1 hbc1 hf2 hfin hdl hk1 hk2 h1 hW1 hzs hres hN
    rw [hd] at hap
    clear hd hd0
    go_enter Try.func56, Try.ntmps56
    go_wp2_with fail
    go_region_law (refine step_append_run rfl (.tmp 22) (.tmp 25) 122 122 rfl (.slice (some ⟨g0, o, none⟩) i (i + 1)) (.slice (some ⟨g0, o, none⟩) (n - (i + 1)) 0) (by simp [Act.eval, Act.put]) (by simp [Act.eval, Act.put]; omega) (hap _ ⟨g0, o, none⟩ 0) ?_)
    go_wp2_with (at_builtin; refine wpList_clear_run _ rfl _ _ rfl _ rfl (hcr _ _) ?_)
    go_wp2
    go_ret
    exact HF.out
  · have hap := fun ty c => hap ty _ c (.inl rfl)
    clear hs hti hzz hcell hfr hcl hbc hf1 hbc1 hf2 hfin hdl hk1 hk2 h1 hW1 hzs hres hN
    rw [hd] at hap
    clear hd
    go_enter Try.func56, Try.ntmps56
    go_wp2_with fail
    go_region_law (refine step_append_run rfl (.tmp 22) (.tmp 25) 122 122 rfl (.slice (some ⟨g0, o, none⟩) i cap) (.slice (some ⟨g0, o + (i + 1) * 2, none⟩) (n - (i + 1)) (cap - (i + 1))) (by simp [Act.eval, Act.put]) (by simp [Act.eval, Act.put]) (hap _ (cap - (i + 1))) ?_)
    go_wp2_with (at_builtin; refine wpList_clear_run _ rfl _ _ rfl _ rfl (hcr _ _) ?_)
    go_wp2
    go_ret
    exact HF.out
end Go.Proofs.Yteakbhfegbghoaa.Area
