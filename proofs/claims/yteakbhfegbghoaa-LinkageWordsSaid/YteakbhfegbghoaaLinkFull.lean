/- LinkageFull: its sections, plain. -/
import Derived.Test.YteakbhfegbghoaaLinkA
namespace Go.Proofs.Yteakbhfegbghoaa.Link
open Go Go.RowKit Go.ChangeMaps Go.Proofs.Yteakbhfegbghoaa.Kit Go.Proofs.Yteakbhfegbghoaa.Area Go.Proofs.Yteakbhfegbghoaa.Wd Go.Proofs.Yteakbhfegbghoaa.Str
open Go.Proofs.Yteakbhfegbghoaa.Obj (Ob ObAt Lens ul uw)
set_option linter.unusedSimpArgs false
set_option linter.unusedVariables false
def oS (K : Nat) : Ob := ⟨[], List.replicate K 0, [], []⟩
theorem oS_lens (K : Nat) : Lens (oS K) := ⟨fun d hd => (by cases hd), fun x hx => (by cases hx)⟩
theorem oS_n (K : Nat) : 1 + (oS K).static.length + (oS K).links.length = K + 1 := by
  show 1 + (List.replicate K 0).length + 0 = K + 1
  rw [List.length_replicate]; omega
theorem oS_may {K : Nat} (h : K ≤ 60) : Obj.mayB (oS K) = true := by
  have e1 : (Obj.encO (oS K)).length = K + 5 := by
    simp [Obj.encO, oS, Obj.tl]
  unfold Obj.mayB
  rw [e1]
  have : Obj.fitsB (oS K) = true := by
    unfold Obj.fitsB oS
    simp only [Bool.and_eq_true, decide_eq_true_eq, List.length_replicate]
    refine ⟨by decide, by omega, by decide, ?_, by decide, by decide⟩
    unfold Obj.wholeB
    rw [List.all_eq_true]
    intro x hx
    rw [List.eq_of_mem_replicate hx]
    decide
  rw [this, Bool.true_and]
  exact decide_eq_true (by omega)
theorem oS_at {w : World} {G K : Nat} (hK : K ≤ 60) (h : Blk w G 52 (zarr K (.int .u64 0))) : ObAt w (.agg #[.slice none 0 0, .slice (some ⟨G, 0, none⟩) K K, .slice none 0 0, .slice none 0 0]) (oS K) :=
  ⟨_, _, _, _, rfl, LsAt.nil, kls_w h (by omega), LsAt.nil, LsAt.nil⟩
/-- The one at place i, and those before M. -/
def nth (K i : Nat) : Sc := newSc 4 (i + 1) (i * (K + 1)) (oS K)
def secs (K M : Nat) : List Sc := (List.range M).map (nth K)
theorem nth_size (K i : Nat) : (nth K i).size = K + 1 := by unfold nth; rw [newSc_size, oS_n]
theorem secs_succ (K M : Nat) : secs K (M + 1) = secs K M ++ [nth K M] := by unfold secs; rw [List.range_succ, List.map_append]; rfl
theorem mem_secs {K M : Nat} {q : Sc} (h : q ∈ secs K M) : ∃ i, i < M ∧ q = nth K i := by
  obtain ⟨i, hi, rfl⟩ := List.mem_map.1 h
  exact ⟨i, List.mem_range.1 hi, rfl⟩
theorem nth_mem {K M i : Nat} (h : i < M) : nth K i ∈ secs K M := List.mem_map.2 ⟨i, List.mem_range.2 h, rfl⟩
theorem nth_key (K i : Nat) : (nth K i).key = ((4 : Int), ((i + 1 : Nat) : Int)) := rfl
theorem secs_none {K M s : Nat} (h : M < s) : findS (secs K M) (((4 : Nat) : Int), (s : Int)) = none := find_none (fun q hq e => by
  obtain ⟨i, hi, rfl⟩ := mem_secs hq
  rw [nth_key] at e
  have := congrArg Prod.snd e
  simp only at this
  omega)
theorem step_le {i j n : Nat} (h : i < j) : i * n + n ≤ j * n := by
  have := Nat.mul_le_mul_right n (show i + 1 ≤ j by omega)
  rw [Nat.add_mul, Nat.one_mul] at this
  exact this
theorem secs_free (K M : Nat) : FreeQ (secs K M) 4 (K + 1) (M * (K + 1)) := by
  intro q hq _
  obtain ⟨i, hi, rfl⟩ := mem_secs hq
  left
  rw [nth_size]
  exact step_le hi
theorem cover {K y M : Nat} (hy : y < M * (K + 1)) : ∃ i, i < M ∧ i * (K + 1) ≤ y ∧ y < i * (K + 1) + (K + 1) := by
  refine ⟨y / (K + 1), ?_, Nat.div_mul_le_self _ _, ?_⟩
  · exact (Nat.div_lt_iff_lt_mul (by omega)).2 hy
  · have := Nat.lt_div_mul_add (a := y) (b := K + 1) (by omega)
    exact this
theorem secs_not {K M y : Nat} (Q : List Sc) (hQ : ∀ i, i < M → nth K i ∈ Q) (hy : y < M * (K + 1)) : ¬ FreeQ Q 4 (K + 1) y := by
  intro h
  obtain ⟨i, hi, h1, h2⟩ := cover hy
  rcases h _ (hQ i hi) rfl with h3 | h3
  · rw [nth_size] at h3
    have : (nth K i).base = i * (K + 1) := rfl
    omega
  · have : (nth K i).base = i * (K + 1) := rfl
    omega
theorem secs_full {K M : Nat} (h : 256 < (M + 1) * (K + 1)) : ∀ y, y + (K + 1) ≤ 256 → ¬ FreeQ (secs K M) 4 (K + 1) y := fun y hy =>
  secs_not _ (fun i hi => nth_mem hi) (by rw [Nat.add_mul, Nat.one_mul] at h; omega)
theorem free5 (K M n x : Nat) : FreeQ (secs K M) 5 n x := fun q hq e => by
  obtain ⟨i, hi, rfl⟩ := mem_secs hq
  cases e
theorem none5 (K M : Nat) : findS (secs K M) (((5 : Nat) : Int), ((9 : Nat) : Int)) = none := find_none (fun q hq e => by
  obtain ⟨i, hi, rfl⟩ := mem_secs hq
  rw [nth_key] at e
  have := congrArg Prod.fst e
  simp only at this
  omega)
/-- With the one of ring 5. -/
def with5 (K M : Nat) : List Sc := secs K M ++ [newSc 5 9 0 (oS K)]
/-- Without the one at place i. -/
def lack (K M i : Nat) : List Sc := (with5 K M).filter fun p => decide (p.key ≠ (nth K i).key)
theorem lack_none (K M i : Nat) : findS (lack K M i) (((4 : Nat) : Int), ((i + 1 : Nat) : Int)) = none := find_none (fun q hq => by
  exact of_decide_eq_true (List.mem_filter.1 hq).2)
theorem lack_free {K M i : Nat} (hi : i < M) : FreeQ (lack K M i) 4 (K + 1) (i * (K + 1)) := by
  intro q hq hr
  have hk := (List.mem_filter.1 hq).2
  rcases List.mem_append.1 (List.mem_filter.1 hq).1 with h | h
  · obtain ⟨j, hj, rfl⟩ := mem_secs h
    have hb : (nth K j).base = j * (K + 1) := rfl
    rw [nth_size, hb]
    rcases Nat.lt_trichotomy i j with h1 | h1 | h1
    · right; exact step_le h1
    · subst h1; simp at hk
    · left; exact step_le h1
  · rw [List.mem_singleton.1 h] at hr
    cases hr
theorem lack_not {K M i y : Nat} (hi : i < M) (hy : y < i * (K + 1)) : ¬ FreeQ (lack K M i) 4 (K + 1) y :=
  secs_not _ (fun j hj => List.mem_filter.2 ⟨List.mem_append_left _ (nth_mem (by omega)), by
    rw [nth_key, nth_key]
    apply decide_eq_true
    intro e
    have := congrArg Prod.snd e
    simp only at this
    omega⟩) hy
theorem back_perm : ∀ {Q : List Sc} {q : Sc}, (Q.map Sc.key).Nodup → q ∈ Q → ((Q.filter fun p => decide (p.key ≠ q.key)) ++ [q]).Perm Q
  | [], q, _, h => by cases h
  | a :: Q, q, hn, h => by
    rw [List.map_cons, List.nodup_cons] at hn
    rcases List.mem_cons.1 h with rfl | h2
    · have e : (q :: Q).filter (fun p => decide (p.key ≠ q.key)) = Q := by
        rw [List.filter_cons, if_neg (by simp), List.filter_eq_self]
        intro p hp
        apply decide_eq_true
        intro e
        exact hn.1 (List.mem_map.2 ⟨p, hp, e⟩)
      rw [e]
      exact List.perm_append_singleton _ _
    · have hne : a.key ≠ q.key := fun e => hn.1 (List.mem_map.2 ⟨q, h2, e.symm⟩)
      rw [List.filter_cons, if_pos (decide_eq_true hne), List.cons_append]
      exact (back_perm hn.2 h2).cons a
theorem sum_perm {Q Q' : List Sc} (h : Q.Perm Q') (r : Nat) : ((ofR Q r).map Sc.size).sum = ((ofR Q' r).map Sc.size).sum := ((h.filter _).map _).sum_nat
theorem secs_sum (K : Nat) : ∀ M, ((secs K M).map Sc.size).sum = M * (K + 1)
  | 0 => by simp [secs]
  | M + 1 => by rw [secs_succ, List.map_append, List.sum_append, secs_sum K M, Nat.add_mul, Nat.one_mul]; simp [nth_size]
theorem with5_sum (K M : Nat) : ((ofR (with5 K M) 4).map Sc.size).sum = M * (K + 1) := by
  have e : ofR (with5 K M) 4 = secs K M := by
    unfold ofR with5
    rw [List.filter_append, show List.filter (fun q : Sc => decide (q.ring = 4)) [newSc 5 9 0 (oS K)] = [] from rfl, List.append_nil, List.filter_eq_self]
    intro q hq
    obtain ⟨i, hi, rfl⟩ := mem_secs hq
    rfl
  rw [e, secs_sum]
theorem end_sum {K M i : Nat} (hn : ((with5 K M).map Sc.key).Nodup) (hi : i < M) : ((ofR (lack K M i ++ [nth K i]) 4).map Sc.size).sum = M * (K + 1) := by
  unfold lack
  rw [sum_perm (back_perm hn (List.mem_append_left _ (nth_mem hi))), with5_sum]
section
variable {w0 w w' : World} {X b G K : Nat} {Q : List Sc} {T : Nat → Prop}
theorem openS (h : Lk w0 w X b Q T) {r s B : Nat} (hr : r < 8) (hs0 : 1 ≤ s) (hs : s ≤ 63) (hK : K ≤ 60) (hG : T G) (hb : Blk w G 52 (zarr K (.int .u64 0))) (hg : findS Q ((r : Int), (s : Int)) = none) (hB : B + (K + 1) ≤ 256) (hf : FreeQ Q r (K + 1) B) (hy : ∀ y, y < B → ¬ FreeQ Q r (K + 1) y) :
    Calls Try.prog 10 #[ptr X, .int .i64 (r : Int), .int .i64 (s : Int), .agg #[.slice none 0 0, .slice (some ⟨G, 0, none⟩) K K, .slice none 0 0, .slice none 0 0]] w fun e w' => e = .returned (.tuple #[.int .i64 (B : Int), .int .i64 0]) ∧ Lk w0 w' X b (Q ++ [newSc r s B (oS K)]) T ∧ Same T w w' :=
  OpenQ_ok h hr hs0 hs _ _ _ _ (oS K) (fun W _ hs => oS_at hK (Blk.of_block hb (hs.2 _ hG))) (oS_lens K) (oS_may hK) hg (by rw [oS_n]; exact hB) (by rw [oS_n]; exact hf) (by rw [oS_n]; exact hy)
theorem openS_full (h : Lk w0 w X b Q T) {r s : Nat} (hr : r < 8) (hs0 : 1 ≤ s) (hs : s ≤ 63) (hK : K ≤ 60) (hb : Blk w G 52 (zarr K (.int .u64 0))) (hg : findS Q ((r : Int), (s : Int)) = none) (hf : ∀ y, y + (K + 1) ≤ 256 → ¬ FreeQ Q r (K + 1) y) :
    Calls Try.prog 10 #[ptr X, .int .i64 (r : Int), .int .i64 (s : Int), .agg #[.slice none 0 0, .slice (some ⟨G, 0, none⟩) K K, .slice none 0 0, .slice none 0 0]] w fun e w' => e = .returned (.tuple #[.int .i64 0, .int .i64 7]) ∧ Lk w0 w' X b Q T ∧ Same T w w' :=
  OpenQ_full h hr hs0 hs _ _ _ _ (oS K) (oS_at hK hb) (oS_lens K) (oS_may hK) hg (by rw [oS_n]; exact hf)
end
end Go.Proofs.Yteakbhfegbghoaa.Link
