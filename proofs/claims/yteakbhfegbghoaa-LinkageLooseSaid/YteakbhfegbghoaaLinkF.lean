/- Package linkage: its inner functions. -/
import Derived.Test.YteakbhfegbghoaaLink
import Derived.Deep.RegionWith
import Derived.Deep.RegionHeld3
import Derived.BigQuiet
namespace Go.Proofs.Yteakbhfegbghoaa.Link
open Go Go.RowKit Go.ChangeMaps Go.Proofs.Yteakbhfegbghoaa.Kit Go.Proofs.Yteakbhfegbghoaa.Area
open Go.Proofs.Yteakbhfegbghoaa.Point (pt packN pack_yes mayB)
set_option linter.unusedSimpArgs false
set_option linter.unusedVariables false
section
variable {w0 w w' : World} {X b : Nat} {A : Nat → Nat} {ms : Nat → Ms} {M M' : List (Key × Sec)} {T : Nat → Prop}
theorem zero_sec (w : World) : (zeroValue 87).run Try.prog w = .ok (.agg #[.int .i64 0, .int .i64 0, .int .i64 0]) w := Try.zeroValue87 w
theorem get_none (h : LkO w0 w X b A ms M T) (r s : Int) (hk : okK (r, s)) (hg : get? M (r, s) = none) :
    Calls Try.prog 31 #[ptr X, .int .i64 r, .int .i64 s] w fun e w' => e = .returned (.tuple #[.agg #[.int .i64 0, .int .i64 0, .int .i64 0], .bool false]) ∧ New w w' := by
  obtain ⟨lx, hlx⟩ := key_of (r, s) hk
  have hl : ∀ o, (Instr.lookup 80 (.map (some b)) (.agg #[.int .i64 r, .int .i64 s]) true).run Try.prog (w.alloc o) = .ok (.tuple #[.agg #[.int .i64 0, .int .i64 0, .int .i64 0], .bool false]) (w.alloc o) := fun o => by
    have := (h.new_ ((New.refl w).alloc o)).map.lookup_ok keyed Try.underlying80 (zero_sec _) h.keysOf (inj M) hlx true
    rw [hg] at this
    exact this
  have hc := fun o => (h.new_ ((New.refl w).alloc o)).cellM
  clear h hk hlx hg
  go_enter Try.func31, Try.ntmps31
  go_wp2
  refine bodyPost_ret (v := .tuple #[.agg #[.int .i64 0, .int .i64 0, .int .i64 0], .bool false]) (by simp [results, Try.results31, go_sem]) rfl ?_
  exact ⟨rfl, by (repeat (first | exact New.refl _ | (refine New.step ?_ (by assumption)) | apply New.alloc | apply New.drewN | apply New.drew))⟩
theorem get_some (h : LkO w0 w X b A ms M T) (r s : Int) (hk : okK (r, s)) (v : Sec) (hg : get? M (r, s) = some v) :
    Calls Try.prog 31 #[ptr X, .int .i64 r, .int .i64 s] w fun e w' => e = .returned (.tuple #[ev v, .bool true]) ∧ New w w' := by
  obtain ⟨lx, hlx⟩ := key_of (r, s) hk
  have hl : ∀ o, (Instr.lookup 80 (.map (some b)) (.agg #[.int .i64 r, .int .i64 s]) true).run Try.prog (w.alloc o) = .ok (.tuple #[ev v, .bool true]) (w.alloc o) := fun o => by
    have := (h.new_ ((New.refl w).alloc o)).map.lookup_ok keyed Try.underlying80 (zero_sec _) h.keysOf (inj M) hlx true
    rw [hg] at this
    exact this
  have hc := fun o => (h.new_ ((New.refl w).alloc o)).cellM
  clear h hk hlx hg
  go_enter Try.func31, Try.ntmps31
  go_wp2
  refine bodyPost_ret (v := .tuple #[ev v, .bool true]) (by simp [results, Try.results31, go_sem]) rfl ?_
  exact ⟨rfl, by (repeat (first | exact New.refl _ | (refine New.step ?_ (by assumption)) | apply New.alloc | apply New.drewN | apply New.drew))⟩
theorem put_any (h : LkO w0 w X b A ms M T) {r : Nat} (hr : r < 8) (x off y : Int) :
    Calls Try.prog 34 #[ptr X, .int .i64 (r : Int), .int .i64 x, .int .i64 off, .int .u64 y] w fun e w' => e = .returned (.tuple #[]) ∧ LkO w0 w' X b A (upd ms r (writeM (ms r) x off (cutW y))) M T ∧ Same (fun k => T k ∨ k = b) w w' := by
  have hc := h.cellA hr
  have i0 : (0 : Int) ≤ (r : Int) := by omega
  have i1 : (r : Int) < 8 := by omega
  have H := hid (writeL h hr x off y)
  clear h
  go_enter Try.func34, Try.ntmps34
  go_wp2_with fail
  refine H.out.mono ?_
  rintro e w1 ⟨rfl, h1, h2⟩
  have H1 := hid (And.intro h1 h2)
  clear h1 h2
  go_wp2
  go_end0
  exact ⟨rfl, H1.out.1, H1.out.2⟩
theorem fault_any (r s i : Nat) (h : mayB s r 1 i = true) (w : World) :
    Calls Try.prog 35 #[.int .i64 (r : Int), .int .i64 (s : Int), .int .i64 (i : Int)] w fun e w' => e = .returned (.int .u64 (packN s r 1 i : Int)) ∧ New w w' := by
  have H := hid (pack_yes s r 1 i h w)
  clear h
  go_enter Try.func35, Try.ntmps35
  go_wp2_with fail
  refine H.out.mono ?_
  rintro e w1 ⟨rfl, n1⟩
  have N1 := hid n1
  clear n1
  go_wp2
  go_ret
  exact ⟨rfl, N1.out⟩
theorem link_none (h : LkO w0 w X b A ms M T) (r s i : Int) (hk : okK (r, s)) (hg : get? M (r, s) = none) :
    Calls Try.prog 38 #[ptr X, .int .i64 r, .int .i64 s, .int .i64 i] w fun e w' => e = .returned (.tuple #[.agg #[.int .i64 0, .int .i64 0, .int .i64 0], .int .i64 0, .int .i64 4]) ∧ New w w' := by
  have H := hid (fun W (hW : New w W) => get_none (h.new_ hW) r s hk hg)
  clear h hk hg
  go_enter Try.func38, Try.ntmps38
  go_wp2_with fail
  refine (H.out _ (by (repeat (first | exact New.refl _ | (refine New.step ?_ (by assumption)) | apply New.alloc | apply New.drewN | apply New.drew)))).mono ?_
  rintro e w1 ⟨rfl, hn⟩
  have hc := boxed hn
  have hf := fun i => ((Blk.new w 87 _).new_ hn).frozen i
  have hs := hn.size
  rw [World.size_alloc] at hs
  have hz : w.heap.size < w1.heap.size := by omega
  have hn1 := New.step ((New.refl w).alloc _) hn
  clear hn
  go_wp2
  refine bodyPost_ret (v := .tuple #[.agg #[.int .i64 0, .int .i64 0, .int .i64 0], .int .i64 0, .int .i64 4]) (by simp [results, Try.results38, go_sem, hz, hc, hf, size_setCell, World.cell?_setCell_other]) rfl ?_
  refine ⟨rfl, ?_⟩
  repeat (first | exact hn1 | (refine New.alloc ?_ _) | (refine New.setCell ?_ (by first | exact Nat.le_refl _ | (simp; omega)) _) | (refine New.drew ?_))
theorem link_bad (h : LkO w0 w X b A ms M T) (r s i : Int) (hk : okK (r, s)) {B s1 l1 : Nat} (hg : get? M (r, s) = some (B, s1, l1)) (hi : i < 0 ∨ (l1 : Int) ≤ i) :
    Calls Try.prog 38 #[ptr X, .int .i64 r, .int .i64 s, .int .i64 i] w fun e w' => e = .returned (.tuple #[.agg #[.int .i64 0, .int .i64 0, .int .i64 0], .int .i64 0, .int .i64 8]) ∧ New w w' := by
  have H := hid (fun W (hW : New w W) => get_some (h.new_ hW) r s hk _ hg)
  clear h hk hg
  by_cases h0 : i < 0
  · clear hi
    go_enter Try.func38, Try.ntmps38
    go_wp2_with fail
    refine (H.out _ (by (repeat (first | exact New.refl _ | (refine New.step ?_ (by assumption)) | apply New.alloc | apply New.drewN | apply New.drew)))).mono ?_
    rintro e w1 ⟨rfl, hn⟩
    have hc := boxed hn
    have hf := fun i => ((Blk.new w 87 _).new_ hn).frozen i
    have hs := hn.size
    rw [World.size_alloc] at hs
    have hz : w.heap.size < w1.heap.size := by omega
    have hn1 := New.step ((New.refl w).alloc _) hn
    clear hn
    go_wp2
    refine bodyPost_ret (v := .tuple #[.agg #[.int .i64 0, .int .i64 0, .int .i64 0], .int .i64 0, .int .i64 8]) (by simp [results, Try.results38, go_sem, hz, hc, hf, size_setCell, World.cell?_setCell_other]) rfl ?_
    refine ⟨rfl, ?_⟩
    repeat (first | exact hn1 | (refine New.alloc ?_ _) | (refine New.setCell ?_ (by first | exact Nat.le_refl _ | (simp; omega)) _) | (refine New.drew ?_))
  · have h1 : (l1 : Int) ≤ i := by omega
    clear hi
    go_enter Try.func38, Try.ntmps38
    go_wp2_with fail
    refine (H.out _ (by (repeat (first | exact New.refl _ | (refine New.step ?_ (by assumption)) | apply New.alloc | apply New.drewN | apply New.drew)))).mono ?_
    rintro e w1 ⟨rfl, hn⟩
    have hc := boxed hn
    have hf := fun i => ((Blk.new w 87 _).new_ hn).frozen i
    have hs := hn.size
    rw [World.size_alloc] at hs
    have hz : w.heap.size < w1.heap.size := by omega
    have hn1 := New.step ((New.refl w).alloc _) hn
    clear hn
    go_wp2
    refine bodyPost_ret (v := .tuple #[.agg #[.int .i64 0, .int .i64 0, .int .i64 0], .int .i64 0, .int .i64 8]) (by simp [results, Try.results38, go_sem, hz, hc, hf, size_setCell, World.cell?_setCell_other]) rfl ?_
    refine ⟨rfl, ?_⟩
    repeat (first | exact hn1 | (refine New.alloc ?_ _) | (refine New.setCell ?_ (by first | exact Nat.le_refl _ | (simp; omega)) _) | (refine New.drew ?_))
theorem link_ok (h : LkO w0 w X b A ms M T) (r s : Int) (n k : Nat) (hk : okK (r, s)) {B s1 l1 : Nat} (hg : get? M (r, s) = some (B, s1, l1)) (hi : n < l1) (hs1 : s1 ≤ 1000) (hl1 : l1 ≤ 1000) (hkv : k = 1 + s1 + n) :
    Calls Try.prog 38 #[ptr X, .int .i64 r, .int .i64 s, .int .i64 (n : Int)] w fun e w' => e = .returned (.tuple #[ev (B, s1, l1), .int .i64 (k : Int), .int .i64 0]) ∧ New w w' := by
  have H := hid (fun W (hW : New w W) => get_some (h.new_ hW) r s hk _ hg)
  have j0 : ¬ (n : Int) < 0 := by omega
  have j1 : ¬ (l1 : Int) ≤ (n : Int) := by omega
  obtain ⟨m, hm⟩ : ∃ m : Nat, m = 1 + s1 := ⟨_, rfl⟩
  have w1' : IntKind.i64.wrap (1 + (s1 : Int)) = (m : Int) := by rw [IntKind.wrap_i64]; omega
  have w2' : IntKind.i64.wrap ((m : Int) + (n : Int)) = (k : Int) := by rw [IntKind.wrap_i64]; omega
  clear hm
  have hkI : Hid (k = 1 + s1 + n) := hkv
  clear h hk hg hkv
  go_enter Try.func38, Try.ntmps38
  go_wp2_with fail
  refine (H.out _ (by (repeat (first | exact New.refl _ | (refine New.step ?_ (by assumption)) | apply New.alloc | apply New.drewN | apply New.drew)))).mono ?_
  rintro e w1 ⟨rfl, hn⟩
  have hc := boxed hn
  have hf := fun i => ((Blk.new w 87 _).new_ hn).frozen i
  have hs := hn.size
  rw [World.size_alloc] at hs
  have hz : w.heap.size < w1.heap.size := by omega
  have hn1 := New.step ((New.refl w).alloc _) hn
  clear hn
  go_wp2_with fail
  go_region_law (fail)
  all_goals
    go_wp2_with fail
    refine bodyPost_ret (v := .tuple #[ev (B, s1, l1), .int .i64 (k : Int), .int .i64 0]) (by simp [results, Try.results38, go_sem, hz, hc, hf, size_setCell, World.cell?_setCell_other]) rfl ?_
    refine ⟨rfl, ?_⟩
    repeat (first | exact hn1 | (refine New.alloc ?_ _) | (refine New.setCell ?_ (by first | exact Nat.le_refl _ | (simp; omega)) _) | (refine New.drew ?_))
theorem own_none (h : LkO w0 w X b A ms M T) (r s i : Int) (hk : okK (r, s)) (hg : get? M (r, s) = none) :
    Calls Try.prog 44 #[ptr X, .int .i64 r, .int .i64 s, .int .i64 i] w fun e w' => e = .returned (.tuple #[.agg #[.int .i64 0, .int .i64 0, .int .i64 0], .int .i64 0, .int .i64 4]) ∧ New w w' := by
  have H := hid (fun W (hW : New w W) => get_none (h.new_ hW) r s hk hg)
  clear h hk hg
  go_enter Try.func44, Try.ntmps44
  go_wp2_with fail
  refine (H.out _ (by (repeat (first | exact New.refl _ | (refine New.step ?_ (by assumption)) | apply New.alloc | apply New.drewN | apply New.drew)))).mono ?_
  rintro e w1 ⟨rfl, hn⟩
  have hc := boxed hn
  have hf := fun i => ((Blk.new w 87 _).new_ hn).frozen i
  have hs := hn.size
  rw [World.size_alloc] at hs
  have hz : w.heap.size < w1.heap.size := by omega
  have hn1 := New.step ((New.refl w).alloc _) hn
  clear hn
  go_wp2
  refine bodyPost_ret (v := .tuple #[.agg #[.int .i64 0, .int .i64 0, .int .i64 0], .int .i64 0, .int .i64 4]) (by simp [results, Try.results44, go_sem, hz, hc, hf, size_setCell, World.cell?_setCell_other]) rfl ?_
  refine ⟨rfl, ?_⟩
  repeat (first | exact hn1 | (refine New.alloc ?_ _) | (refine New.setCell ?_ (by first | exact Nat.le_refl _ | (simp; omega)) _) | (refine New.drew ?_))
theorem own_bad (h : LkO w0 w X b A ms M T) (r s i : Int) (hk : okK (r, s)) {B s1 l1 : Nat} (hg : get? M (r, s) = some (B, s1, l1)) (hi : i < 0 ∨ (s1 : Int) ≤ i) :
    Calls Try.prog 44 #[ptr X, .int .i64 r, .int .i64 s, .int .i64 i] w fun e w' => e = .returned (.tuple #[.agg #[.int .i64 0, .int .i64 0, .int .i64 0], .int .i64 0, .int .i64 8]) ∧ New w w' := by
  have H := hid (fun W (hW : New w W) => get_some (h.new_ hW) r s hk _ hg)
  clear h hk hg
  by_cases h0 : i < 0
  · clear hi
    go_enter Try.func44, Try.ntmps44
    go_wp2_with fail
    refine (H.out _ (by (repeat (first | exact New.refl _ | (refine New.step ?_ (by assumption)) | apply New.alloc | apply New.drewN | apply New.drew)))).mono ?_
    rintro e w1 ⟨rfl, hn⟩
    have hc := boxed hn
    have hf := fun i => ((Blk.new w 87 _).new_ hn).frozen i
    have hs := hn.size
    rw [World.size_alloc] at hs
    have hz : w.heap.size < w1.heap.size := by omega
    have hn1 := New.step ((New.refl w).alloc _) hn
    clear hn
    go_wp2
    refine bodyPost_ret (v := .tuple #[.agg #[.int .i64 0, .int .i64 0, .int .i64 0], .int .i64 0, .int .i64 8]) (by simp [results, Try.results44, go_sem, hz, hc, hf, size_setCell, World.cell?_setCell_other]) rfl ?_
    refine ⟨rfl, ?_⟩
    repeat (first | exact hn1 | (refine New.alloc ?_ _) | (refine New.setCell ?_ (by first | exact Nat.le_refl _ | (simp; omega)) _) | (refine New.drew ?_))
  · have h1 : (s1 : Int) ≤ i := by omega
    clear hi
    go_enter Try.func44, Try.ntmps44
    go_wp2_with fail
    refine (H.out _ (by (repeat (first | exact New.refl _ | (refine New.step ?_ (by assumption)) | apply New.alloc | apply New.drewN | apply New.drew)))).mono ?_
    rintro e w1 ⟨rfl, hn⟩
    have hc := boxed hn
    have hf := fun i => ((Blk.new w 87 _).new_ hn).frozen i
    have hs := hn.size
    rw [World.size_alloc] at hs
    have hz : w.heap.size < w1.heap.size := by omega
    have hn1 := New.step ((New.refl w).alloc _) hn
    clear hn
    go_wp2
    refine bodyPost_ret (v := .tuple #[.agg #[.int .i64 0, .int .i64 0, .int .i64 0], .int .i64 0, .int .i64 8]) (by simp [results, Try.results44, go_sem, hz, hc, hf, size_setCell, World.cell?_setCell_other]) rfl ?_
    refine ⟨rfl, ?_⟩
    repeat (first | exact hn1 | (refine New.alloc ?_ _) | (refine New.setCell ?_ (by first | exact Nat.le_refl _ | (simp; omega)) _) | (refine New.drew ?_))
theorem own_ok (h : LkO w0 w X b A ms M T) (r s : Int) (n k : Nat) (hk : okK (r, s)) {B s1 l1 : Nat} (hg : get? M (r, s) = some (B, s1, l1)) (hi : n < s1) (hs1 : s1 ≤ 1000) (hl1 : l1 ≤ 1000) (hkv : k = 1 + n) :
    Calls Try.prog 44 #[ptr X, .int .i64 r, .int .i64 s, .int .i64 (n : Int)] w fun e w' => e = .returned (.tuple #[ev (B, s1, l1), .int .i64 (k : Int), .int .i64 0]) ∧ New w w' := by
  have H := hid (fun W (hW : New w W) => get_some (h.new_ hW) r s hk _ hg)
  have j0 : ¬ (n : Int) < 0 := by omega
  have j1 : ¬ (s1 : Int) ≤ (n : Int) := by omega
  have w1' : IntKind.i64.wrap (1 + (n : Int)) = (k : Int) := by rw [IntKind.wrap_i64]; omega
  have hkI : Hid (k = 1 + n) := hkv
  clear h hk hg hkv
  go_enter Try.func44, Try.ntmps44
  go_wp2_with fail
  refine (H.out _ (by (repeat (first | exact New.refl _ | (refine New.step ?_ (by assumption)) | apply New.alloc | apply New.drewN | apply New.drew)))).mono ?_
  rintro e w1 ⟨rfl, hn⟩
  have hc := boxed hn
  have hf := fun i => ((Blk.new w 87 _).new_ hn).frozen i
  have hs := hn.size
  rw [World.size_alloc] at hs
  have hz : w.heap.size < w1.heap.size := by omega
  have hn1 := New.step ((New.refl w).alloc _) hn
  clear hn
  go_wp2
  refine bodyPost_ret (v := .tuple #[ev (B, s1, l1), .int .i64 (k : Int), .int .i64 0]) (by simp [results, Try.results44, go_sem, hz, hc, hf, size_setCell, World.cell?_setCell_other]) rfl ?_
  refine ⟨rfl, ?_⟩
  repeat (first | exact hn1 | (refine New.alloc ?_ _) | (refine New.setCell ?_ (by first | exact Nat.le_refl _ | (simp; omega)) _) | (refine New.drew ?_))
end
end Go.Proofs.Yteakbhfegbghoaa.Link
