/- Package linkage: New, Close. -/
import Derived.Test.YteakbhfegbghoaaLinkD
import Derived.Deep.RegionWith
namespace Go.Proofs.Yteakbhfegbghoaa.Link
open Go Go.RowKit Go.ChangeMaps Go.Proofs.Yteakbhfegbghoaa.Kit Go.Proofs.Yteakbhfegbghoaa.Area Go.Proofs.Yteakbhfegbghoaa.Wd
set_option linter.unusedSimpArgs false
set_option linter.unusedVariables false
section
variable {w0 w w' : World} {X b : Nat} {A : Nat → Nat} {ms : Nat → Ms} {M M' : List (Key × Sec)} {T : Nat → Prop}
theorem CloseM_no (h : LkO w0 w X b A ms M T) (r s : Int) (hk : okK (r, s)) (hg : get? M (r, s) = none) :
    Calls Try.prog 11 #[ptr X, .int .i64 r, .int .i64 s] w fun e w' => e = .returned (.bool false) ∧ New w w' := by
  have H := hid (get_none h r s hk hg)
  clear h hk hg
  go_enter Try.func11, Try.ntmps11
  go_wp2_with fail
  refine H.out.mono ?_
  rintro e w1 ⟨rfl, hn⟩
  have hn1 := hid hn
  clear hn
  go_wp2
  go_ret
  exact ⟨rfl, hn1.out.alloc _⟩
theorem CloseM_yes (h : LkO w0 w X b A ms M T) {r : Nat} (hr : r < 8) (s : Int) (hk : okK ((r : Int), s)) {B s1 l1 : Nat} (hg : get? M ((r : Int), s) = some (B, s1, l1)) :
    Calls Try.prog 11 #[ptr X, .int .i64 (r : Int), .int .i64 s] w fun e w' => e = .returned (.bool true) ∧ LkO w0 w' X b A (upd ms r (giveM (ms r) (B : Int))) (del M ((r : Int), s)) T ∧ Same T w w' := by
  have H := hid (get_some h (r : Int) s hk _ hg)
  have HL := hid h
  have HK := hid hk
  have i0 : (0 : Int) ≤ (r : Int) := by omega
  have i1 : (r : Int) < 8 := by omega
  clear h hk hg
  go_enter Try.func11, Try.ntmps11
  go_wp2_with fail
  refine H.out.mono ?_
  rintro e w1 ⟨rfl, hn1⟩
  have HN := hid hn1
  have hl1' := HL.out.new_ hn1
  clear hn1
  go_wp2_with fail
  have hl4 := hl1'.box (.cells #[.int .i64 (B : Int), .int .i64 (s1 : Int), .int .i64 (l1 : Int)] 87)
  have hB4 := Blk.new w1 87 #[.int .i64 (B : Int), .int .i64 (s1 : Int), .int .i64 (l1 : Int)]
  have hn4 := HN.out.alloc (.cells #[.int .i64 (B : Int), .int .i64 (s1 : Int), .int .i64 (l1 : Int)] 87)
  obtain ⟨w4, hw4⟩ : ∃ w4, w4 = w1.alloc (.cells #[.int .i64 (B : Int), .int .i64 (s1 : Int), .int .i64 (l1 : Int)] 87) := ⟨_, rfl⟩
  obtain ⟨G, hG⟩ : ∃ G, G = w1.heap.size := ⟨_, rfl⟩
  rw [← hw4, ← hG] at hl4 hB4 ⊢
  rw [← hw4] at hn4
  have hW4 := hid (giveL (hl4.new_ (New.refl w4).drew) hr (B : Int))
  have cA : w4.cell? ⟨X, r, none⟩ = some (ptr (A r)) := hl4.cellA hr
  have cB : w4.cell? ⟨G, 0, none⟩ = some (.int .i64 (B : Int)) := hB4.cell 0
  have HB4 := hid hB4
  have HN4 := hid hn4
  clear hl1' hl4 hB4 hn4 hw4 hG
  go_region_held3 (fun w' => w'.cell? ⟨X, r, none⟩ = some (ptr (A r)) ∧ w'.cell? ⟨G, 0, none⟩ = some (.int .i64 (B : Int))) (first | exact ⟨cA, cB⟩ | exact hS5) (first | (go_at_call 36; (with_reducible refine hW4.out.mono ?_); rintro e w5 ⟨rfl, h5, s5⟩; have hS5 := And.intro (h5.cellA hr) (Blk.cell (Blk.of_block HB4.out (s5.2 G (.inl (.inr rfl)))) 0)))
  obtain ⟨lx, hlx⟩ := key_of ((r : Int), s) HK.out
  obtain ⟨ob, hob, O, hO⟩ := h5.map.delete_fix 0 keyed Try.underlying80 h5.keysOf (inj M) (x := ((r : Int), s)) hlx
  have hrun : (Builtin.delete_ #[80, 94] 0 #[.map (some b), .agg #[.int .i64 (r : Int), .int .i64 s]]).run Try.prog w5 = .ok (.tuple #[]) (setBlock w5 b (O w5)) := (hO w5 hob).1
  have hfin := LkO.setMap h5 (hO w5 hob).2 (fun p hp => h5.keys p (mem_del.1 hp).1)
  have cM := h5.cellM
  have H5 := hid (And.intro hfin s5)
  clear hfin s5 h5 hS5 cA cB hlx hob hO
  go_wp2
  go_ret
  exact ⟨rfl, H5.out.1.1.less (fun k hk => .inl hk), Same.trans (Same.less (HL.out.after HN4.out.drew H5.out.2 (fun k hk => hk.elim (fun h => .inl (.inl h)) .inr)) (fun k hk => .inl hk)) (Same.less H5.out.1.2 (fun k hk => .inl hk))⟩
/-- The struct's cells when n areas are there. -/
def ncells (A : Nat → Nat) (b n : Nat) : Array Value := #[if 0 < n then ptr (A 0) else .pointer none, if 1 < n then ptr (A 1) else .pointer none, if 2 < n then ptr (A 2) else .pointer none, if 3 < n then ptr (A 3) else .pointer none, if 4 < n then ptr (A 4) else .pointer none, if 5 < n then ptr (A 5) else .pointer none, if 6 < n then ptr (A 6) else .pointer none, if 7 < n then ptr (A 7) else .pointer none, .map (some b)]
theorem ncells_all (A : Nat → Nat) (b : Nat) : ncells A b 8 = lcells A b := rfl
theorem ncells_next (A : Nat → Nat) (b x : Nat) {n : Nat} (hn : n < 8) : (ncells A b n).setIfInBounds n (ptr x) = ncells (upd A n x) b (n + 1) := by
  match n, hn with
  | 0, _ => rfl | 1, _ => rfl | 2, _ => rfl | 3, _ => rfl | 4, _ => rfl | 5, _ => rfl | 6, _ => rfl | 7, _ => rfl
theorem ncells_at (A : Nat → Nat) (b : Nat) {n : Nat} (hn : n < 8) : (ncells A b n)[n]? = some (.pointer none) := by
  match n, hn with
  | 0, _ => rfl | 1, _ => rfl | 2, _ => rfl | 3, _ => rfl | 4, _ => rfl | 5, _ => rfl | 6, _ => rfl | 7, _ => rfl
def OpN (w0 w : World) (X b : Nat) (A : Nat → Nat) (n : Nat) : Prop :=
  Blk w X 84 (ncells A b n) ∧ MapOf ek ev w b ([] : List (Key × Sec)) ∧ (∀ r, r < n → OwnA w (A r) 256 (fun k => k = A r) []) ∧ (∀ r s, r < n → s < n → r ≠ s → A r ≠ A s) ∧ (∀ r, r < n → A r ≠ X ∧ A r ≠ b ∧ w0.heap.size ≤ A r) ∧ New w0 w ∧ w0.heap.size ≤ X ∧ w0.heap.size ≤ b
theorem OpN.start (w : World) : OpN w ((w.alloc (.map #[] 0)).alloc (.cells (ncells (fun _ => 0) w.heap.size 0) 84)) (w.heap.size + 1) w.heap.size (fun _ => 0) 0 := by
  refine ⟨?_, MapIs.alloc (MapIs.new w) _, fun r hr => absurd hr (Nat.not_lt_zero _), fun r s hr => absurd hr (Nat.not_lt_zero _), fun r hr => absurd hr (Nat.not_lt_zero _), ((New.refl w).alloc _).alloc _, Nat.le_succ _, Nat.le_refl _⟩
  have := Blk.new (w.alloc (.map #[] 0)) 84 (ncells (fun _ => 0) w.heap.size 0)
  rw [World.size_alloc] at this
  exact this
theorem OpN.step {n : Nat} (h : OpN w0 w X b A n) (hn : n < 8) {w1 : World} (hnw : New w w1) (ho : OwnA w1 w.heap.size 256 (fun k => k = w.heap.size) []) : OpN w0 (w1.setCell ⟨X, n, none⟩ (ptr w.heap.size)) X b (upd A n w.heap.size) (n + 1) := by
  obtain ⟨h1, h2, h3, h4, h5, h6, h7, h8⟩ := h
  have hk : Keeps (fun k => k = X) w1 (w1.setCell ⟨X, n, none⟩ (ptr w.heap.size)) := Keeps.setCell (F := fun k => k = X) (Keeps.refl _ _) (.inr rfl) _
  have hX := h1.lt
  have hb := MapIs.lt h2
  have hA : ∀ r, r < n → A r < w.heap.size := fun r hr => (h3 r hr).lt rfl
  refine ⟨?_, MapIs.keeps (MapIs.of_block h2 (hnw.block b hb)) hk (fun e => MapIs.ne_blk h2 h1 e.symm), fun r hr => ?_, fun r s hr hs hrs => ?_, fun r hr => ?_, (h6.step hnw).kept hk (fun k e => e ▸ h7), h7, h8⟩
  · rw [← ncells_next A b w.heap.size hn]
    exact (h1.new_ hnw).set n _
  · by_cases e : r = n
    · subst e; rw [upd_same]
      exact ho.keeps hk (fun k e e2 => by omega)
    · rw [upd_ne _ _ e]
      have hr' : r < n := by omega
      exact ((h3 r hr').new_ hnw).keeps hk (fun k e e2 => (h5 r hr').1 (by omega))
  · by_cases e : r = n
    · subst e
      rw [upd_same, upd_ne _ _ (Ne.symm hrs)]
      have := hA s (by omega); omega
    · rw [upd_ne _ _ e]
      by_cases e2 : s = n
      · subst e2; rw [upd_same]; have := hA r (by omega); omega
      · rw [upd_ne _ _ e2]; exact h4 r s (by omega) (by omega) hrs
  · by_cases e : r = n
    · subst e; rw [upd_same]
      exact ⟨by omega, by omega, h6.size⟩
    · rw [upd_ne _ _ e]; exact h5 r (by omega)
theorem OpN.drew {n : Nat} (h : OpN w0 w X b A n) : OpN w0 w.drew X b A n := ⟨h.1.drew, h.2.1, h.2.2.1, h.2.2.2.1, h.2.2.2.2.1, h.2.2.2.2.2.1.drew, h.2.2.2.2.2.2⟩
theorem OpN.done (h : OpN w0 w X b A 8) : LkO w0 w X b A (fun _ => []) [] (fun _ => False) := by
  obtain ⟨h1, h2, h3, h4, h5, h6, h7, h8⟩ := h
  refine ⟨fun r k => k = A r, ⟨by rw [← ncells_all]; exact h1, h2, h3, fun r s hr hs hrs k e e2 => h4 r s hr hs hrs (e.symm.trans e2), fun r hr => ⟨fun e => (h5 r hr).1 e.symm, fun e => (h5 r hr).2.1 e.symm⟩, fun p hp => by cases hp⟩, h6, fun k hk => ?_, fun k hk => hk.elim⟩
  rcases hk with rfl | rfl | ⟨r, hr, rfl⟩
  · exact h7
  · exact h8
  · exact (h5 r hr).2.2
end
theorem newK (w : World) : Calls Try.prog 9 #[] w fun e w' => e = .returned (ptr (w.heap.size + 1)) ∧ ∃ A, LkO w w' (w.heap.size + 1) w.heap.size A (fun _ => []) [] (fun _ => False) := by
  have H := hid (OpN.start w)
  have hmm := @run_makeMap Try.prog
  obtain ⟨b, hb⟩ : ∃ b, b = w.heap.size := ⟨_, rfl⟩
  obtain ⟨X, hX⟩ : ∃ X, X = w.heap.size + 1 := ⟨_, rfl⟩
  go_enter Try.func9, Try.ntmps9
  go_wp2_with fail
  rw [← hX, ← hb] at H ⊢
  have HX := hid (And.intro hX hb)
  clear hX hb hmm
  go_loopw [2, 6] (fun _ i wx => ∃ (n : Nat) (A : Nat → Nat), n ≤ 8 ∧ i = .int .i64 (n : Int) ∧ OpN w wx X b A n) (fun _ i _ => 8 - (intOf i).toNat)
  case atStart => exact ⟨0, _, Nat.zero_le _, rfl, H.out⟩
  case round =>
    obtain ⟨n, A, hn, rfl, ho⟩ := hrel
    by_cases hn8 : n < 8
    · have w2' : IntKind.i64.wrap ((n : Int) + 1) = n + 1 := by rw [IntKind.wrap_i64]; omega
      have i0 : (0 : Int) ≤ (n : Int) := by omega
      have i1 : (n : Int) < 8 := by omega
      have HN := hid (newA 256 wr.drew)
      have HO := hid ho
      have hfr : wr.drew.frozen? ⟨X, n, none⟩ = false := ho.1.frozen n
      have hXl : X < wr.heap.size := ho.1.lt
      have hcn : wr.drew.cell? ⟨X, n, none⟩ = some (.pointer none) := by rw [ho.1.drew.cell]; exact ncells_at A b hn8
      clear ho
      go_wp2_with fail
      go_region_with (first | (go_at_call 30; refine HN.out.mono ?_; rintro e w4 ⟨rfl, o4, n4⟩; have H4 := hid (And.intro o4 n4); have hf4 : w4.frozen? ⟨X, n, none⟩ = false := (HO.out.1.drew.new_ n4).frozen n; have hX4 : X < w4.heap.size := (HO.out.1.drew.new_ n4).lt; have hc4 : w4.cell? ⟨X, n, none⟩ = some (.pointer none) := n4.cellK hcn))
      all_goals
        go_wp2_with fail
        refine ⟨⟨n + 1, _, by omega, by go_num, OpN.step (OpN.drew HO.out) hn8 H4.out.2 H4.out.1⟩, by simp [intOf]; omega⟩
    · have hne : n = 8 := by omega
      subst hne
      have HO := hid ho.done
      clear ho
      go_wp2
      go_ret
      rw [← HX.out.1, ← HX.out.2]
      exact ⟨rfl, A, HO.out⟩
end Go.Proofs.Yteakbhfegbghoaa.Link
