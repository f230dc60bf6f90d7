/- The contracts of package known. A table is a block of 577 cells (64 entries of nine, and the map's place) and its map's block. -/
import Derived.Test.YtgiipmccolmmdaaProg
import Derived.Test.YtgiipmccolmmdaaKit
import Derived.Test.YtgiipmccolmmdaaAl
import Derived.Test.YtgiipmccolmmdaaSl
import Derived.Test.YtgiipmccolmmdaaEqArr
import Derived.LaidEqlPtr
import Derived.StillTailTactics
import Derived.WideLaws
namespace Go.Proofs.Ytgiipmccolmmdaa.Known
open Go Go.RowKit Go.Maps Go.Proofs.Ytgiipmccolmmdaa.Kit
open Go.ChangeMaps (setBlock)
set_option linter.unusedSimpArgs false
set_option linter.unusedVariables false

structure St where
  U : Nat → Int
  C : Nat → Nat → Int
  L : List (Int × Nat)
abbrev ek (x : Int) : Value := .int .i64 x
abbrev ev (s : Nat) : Value := .int .i64 (s : Int)
structure Row (w : World) (p m : Nat) (S : St) (arr : Array Value) : Prop where
  blk : Blk w p 48 arr
  size : arr.size = 577
  uid : ∀ s : Nat, s < 64 → arr[s * 9]? = some (.int .i64 (S.U s))
  uses : ∀ s r : Nat, s < 64 → r < 8 → arr[s * 9 + 1 + r]? = some (.int .i64 (S.C s r))
  map : arr[576]? = some (.map (some m))
structure At (w : World) (p m : Nat) (S : St) : Prop where
  row : ∃ arr, Row w p m S arr
  mp : MapOf ek ev w m S.L
  both : ∀ (u : Int) (s : Nat), get? S.L u = some s ↔ (1 ≤ s ∧ s < 64 ∧ S.U s = u ∧ 1 ≤ u)
  zero : S.U 0 = 0
  pos : ∀ s, 0 ≤ S.U s ∧ S.U s ≤ 4611686018427387904
  cnt : ∀ s r, 0 ≤ S.C s r ∧ S.C s r ≤ 4611686018427387904
  free : ∀ s r, S.U s = 0 → S.C s r = 0
def new : St := ⟨fun _ => 0, fun _ _ => 0, []⟩
theorem law : Keyed Try.prog 3 := int_keyed Try.underlying3
theorem inj (L : List (Int × Nat)) : ∀ q ∈ L, ∀ x : Int, ek q.1 = ek x → q.1 = x := fun q _ x h => by injection h
theorem keyOf_i64 {x : Int} (h0 : -9223372036854775808 ≤ x) (h1 : x ≤ 9223372036854775807) : keyOf Try.prog 3 (ek x) = some (.int .i64 x) := keyOf_int_mk Try.underlying3 (WalkArith.wf_i64 ⟨h0, h1⟩)
def zs : Array Value := (List.replicate 576 (Value.int .i64 0) ++ [Value.map none]).toArray
theorem zs_size : zs.size = 577 := by
  unfold zs
  rw [List.size_toArray, List.length_append, List.length_replicate]
  rfl
set_option maxRecDepth 100000 in
theorem zs_run (w : World) : (zeroValue 48).run Try.prog w = .ok (.agg zs) w := by kernel_rfl
theorem zs_get {i : Nat} (h : i < 576) : zs[i]? = some (.int .i64 0) := by
  unfold zs
  rw [List.getElem?_toArray, List.getElem?_append_left (by rw [List.length_replicate]; exact h), List.getElem?_replicate, if_pos h]
set_option maxRecDepth 100000 in
theorem new_any (w : World) : Calls Try.prog 8 #[] w fun e w' => e = .returned (.pointer (some ⟨w.heap.size + 1, 0, none⟩)) ∧ New w w' ∧ At w' (w.heap.size + 1) w.heap.size new := by
  have hmm := @run_makeMap Try.prog
  have hz := zs_run
  have hs := zs_size
  go_enter Try.func8, Try.ntmps8
  go_wp2
  go_ret
  have hB := Blk.new (w.alloc (.map #[] 0)) 48 (zs.setIfInBounds 576 (.map (some w.heap.size)))
  rw [World.size_alloc] at hB
  refine ⟨rfl, by (repeat (first | exact New.refl _ | (refine New.step ?_ (by assumption)) | apply New.alloc | apply New.drewN | apply New.drew)), ⟨_, hB, by simpa using hs, fun s hs' => ?_, fun s r hs' hr => ?_, ?_⟩, (MapIs.new w).alloc _, ?_, rfl, fun s => by simp [new], fun s r => by simp [new], fun s r _ => rfl⟩
  · rw [Array.getElem?_setIfInBounds, if_neg (by omega)]
    exact zs_get (by omega)
  · rw [Array.getElem?_setIfInBounds, if_neg (by omega)]
    exact zs_get (by omega)
  · rw [Array.getElem?_setIfInBounds, if_pos rfl, if_pos (by omega)]
  · intro u s
    simp only [new, get?_nil]
    constructor
    · intro h; cases h
    · intro h; omega
theorem ring_any (r : Int) (w : World) : Calls Try.prog 16 #[.int .i64 r] w fun e w' => e = .returned (.bool (decide (0 ≤ r ∧ r < 8))) ∧ w = w' := by
  by_cases c1 : r < 0
  · have e : decide (0 ≤ r ∧ r < 8) = false := by simp; omega
    rw [e]
    go_enter Try.func16, Try.ntmps16
    go_wp2
    go_ret
    exact ⟨rfl, rfl⟩
  · by_cases c2 : r < 8
    · have e : decide (0 ≤ r ∧ r < 8) = true := by simp; omega
      rw [e]
      go_enter Try.func16, Try.ntmps16
      go_wp2
      go_ret
      exact ⟨rfl, rfl⟩
    · have e : decide (0 ≤ r ∧ r < 8) = false := by simp; omega
      rw [e]
      go_enter Try.func16, Try.ntmps16
      go_wp2
      go_ret
      exact ⟨rfl, rfl⟩
theorem At.keyOf {w : World} {p m : Nat} {S : St} (h : At w p m S) : ∀ q ∈ S.L, ∃ l, keyOf Try.prog 3 (ek q.1) = some l := fun q hq => by
  have := (h.both q.1 q.2).1 (get?_of_mem (MapOf.nodup h.mp) hq)
  have h2 := h.pos q.2
  exact ⟨_, keyOf_i64 (by omega) (by omega)⟩
theorem At.drewN {w : World} {p m : Nat} {S : St} (h : At w p m S) (n : Nat) : At (w.drewN n) p m S := by
  obtain ⟨arr, r⟩ := h.row
  exact ⟨⟨arr, r.blk, r.size, r.uid, r.uses, r.map⟩, h.mp, h.both, h.zero, h.pos, h.cnt, h.free⟩
theorem At.keeps {w w' : World} {p m : Nat} {S : St} (h : At w p m S) {F : Nat → Prop} (k : Keeps F w w') (h1 : ¬ F p) (h2 : ¬ F m) : At w' p m S := by
  obtain ⟨arr, r⟩ := h.row
  exact ⟨⟨arr, r.blk.keeps k h1, r.size, r.uid, r.uses, r.map⟩, MapIs.keeps h.mp k h2, h.both, h.zero, h.pos, h.cnt, h.free⟩
theorem At.ne {w : World} {p m : Nat} {S : St} (h : At w p m S) : p ≠ m := by
  obtain ⟨arr, r⟩ := h.row
  exact MapIs.ne_blk h.mp r.blk
theorem At.lt {w : World} {p m : Nat} {S : St} (h : At w p m S) : p < w.heap.size ∧ m < w.heap.size := by
  obtain ⟨arr, r⟩ := h.row
  exact ⟨r.blk.lt, MapIs.lt h.mp⟩
theorem number_any (w : World) (p m : Nat) (S : St) (h : At w p m S) (u : Int) (h0 : -9223372036854775808 ≤ u) (h1 : u ≤ 9223372036854775807) :
    Calls Try.prog 15 #[.pointer (some ⟨p, 0, none⟩), .int .i64 u] w fun e w' => e = .returned (match get? S.L u with | some s => .tuple #[.int .i64 (s : Int), .bool true] | none => .tuple #[.int .i64 0, .bool false]) ∧ w = w' := by
  obtain ⟨arr, r⟩ := h.row
  have c0 : w.cell? ⟨p, 576, none⟩ = some (.map (some m)) := by rw [r.blk.cell]; exact r.map
  have hz : (zeroValue 3).run Try.prog w = .ok (.int .i64 0) w := by kernel_rfl
  have hl := h.mp.lookup_ok (z := .int .i64 0) law Try.underlying43 hz h.keyOf (inj _) (keyOf_i64 h0 h1) true
  cases hg : get? S.L u <;> rw [hg] at hl <;> simp only [if_true] at hl ⊢ <;> clear hz hg
  all_goals
    go_enter Try.func15, Try.ntmps15
    go_wp2
    go_ret2
    exact ⟨rfl, rfl⟩
def uidV (S : St) (seg : Int) : Value := if 1 ≤ seg ∧ seg < 64 then .tuple #[.int .i64 (S.U seg.toNat), .bool (decide (0 < S.U seg.toNat))] else .tuple #[.int .i64 0, .bool false]
theorem uid_any (w : World) (p m : Nat) (S : St) (h : At w p m S) (seg : Int) :
    Calls Try.prog 13 #[.pointer (some ⟨p, 0, none⟩), .int .i64 seg] w fun e w' => e = .returned (uidV S seg) ∧ ∃ n, w' = w.drewN n := by
  obtain ⟨arr, r⟩ := h.row
  unfold uidV
  by_cases c1 : seg < 1
  · rw [if_neg (by omega)]
    go_enter Try.func13, Try.ntmps13
    go_wp2
    go_ret2
    exact ⟨rfl, 0, rfl⟩
  by_cases c2 : 63 < seg
  · rw [if_neg (by omega)]
    go_enter Try.func13, Try.ntmps13
    go_wp2
    go_ret2
    exact ⟨rfl, 0, rfl⟩
  rw [if_pos (by omega)]
  obtain ⟨s, rfl⟩ : ∃ s : Nat, seg = s := ⟨seg.toNat, by omega⟩
  rw [Int.toNat_natCast]
  have c0 : w.cell? ⟨p, s * 9, none⟩ = some (.int .i64 (S.U s)) := by rw [r.blk.cell]; exact r.uid s (by omega)
  have i0 : (0 : Int) ≤ (s : Int) := by omega
  have i1 : (s : Int) < 64 := by omega
  have i2 : (s : Int) ≤ 64 := by omega
  clear h r
  generalize S.U s = x at c0
  go_enter Try.func13, Try.ntmps13
  go_wp2_with fail
  go_quiet (fail)
  go_wp2_with fail
  go_ret2
  exact ⟨rfl, _, rfl⟩
def countV (S : St) (seg r : Int) : Int := if 1 ≤ seg ∧ seg < 64 ∧ 0 ≤ r ∧ r < 8 then S.C seg.toNat r.toNat else 0
theorem count_any (w : World) (p m : Nat) (S : St) (h : At w p m S) (seg r : Int) :
    Calls Try.prog 14 #[.pointer (some ⟨p, 0, none⟩), .int .i64 seg, .int .i64 r] w fun e w' => e = .returned (.int .i64 (countV S seg r)) ∧ ∃ n, w' = w.drewN n := by
  have hu := uid_any w p m S h seg
  have hr := fun n => ring_any r (w.drewN n)
  obtain ⟨arr, row⟩ := h.row
  by_cases c1 : 1 ≤ seg ∧ seg < 64
  · obtain ⟨s, rfl⟩ : ∃ s : Nat, seg = s := ⟨seg.toNat, by omega⟩
    have hV : uidV S s = .tuple #[.int .i64 (S.U s), .bool (decide (0 < S.U s))] := by unfold uidV; rw [if_pos c1, Int.toNat_natCast]
    rw [hV] at hu
    by_cases c2 : 0 < S.U s
    · have e2 : decide (0 < S.U s) = true := decide_eq_true c2
      rw [e2] at hu
      by_cases c3 : 0 ≤ r ∧ r < 8
      · obtain ⟨t, rfl⟩ : ∃ t : Nat, r = t := ⟨r.toNat, by omega⟩
        have hC : countV S s t = S.C s t := by unfold countV; rw [if_pos ⟨c1.1, c1.2, c3⟩, Int.toNat_natCast, Int.toNat_natCast]
        rw [hC]
        have e3 : decide (0 ≤ (t : Int) ∧ (t : Int) < 8) = true := decide_eq_true c3
        rw [e3] at hr
        have c0 : w.cell? ⟨p, s * 9 + 1 + t, none⟩ = some (.int .i64 (S.C s t)) := by rw [row.blk.cell]; exact row.uses s t (by omega) (by omega)
        have i0 : (0 : Int) ≤ (s : Int) := by omega
        have i1 : (s : Int) < 64 := by omega
        have i2 : (0 : Int) ≤ (t : Int) := by omega
        have i3 : (t : Int) < 8 := by omega
        clear h row hV hC e2 e3 c1 c2 c3
        go_enter Try.func14, Try.ntmps14
        go_wp2_with fail
        refine hu.mono ?_
        rintro e w' ⟨rfl, n, rfl⟩
        go_wp2_with fail
        refine (hr n).mono ?_
        rintro e w' ⟨rfl, rfl⟩
        go_wp2
        go_ret
        exact ⟨rfl, n, rfl⟩
      · have hC : countV S s r = 0 := by unfold countV; rw [if_neg (by omega)]
        rw [hC]
        have e3 : decide (0 ≤ r ∧ r < 8) = false := decide_eq_false c3
        rw [e3] at hr
        clear h row hV hC e2 e3 c1 c2 c3
        go_enter Try.func14, Try.ntmps14
        go_wp2_with fail
        refine hu.mono ?_
        rintro e w' ⟨rfl, n, rfl⟩
        go_wp2_with fail
        refine (hr n).mono ?_
        rintro e w' ⟨rfl, rfl⟩
        go_wp2
        go_ret
        exact ⟨rfl, n, rfl⟩
    · have e2 : decide (0 < S.U s) = false := decide_eq_false c2
      rw [e2] at hu
      have hC : countV S s r = 0 := by
        unfold countV
        split
        · rw [Int.toNat_natCast]; exact h.free s _ (by have := (h.pos s).1; omega)
        · rfl
      rw [hC]
      clear h row hV hC e2 c1 c2
      go_enter Try.func14, Try.ntmps14
      go_wp2_with fail
      refine hu.mono ?_
      rintro e w' ⟨rfl, n, rfl⟩
      go_wp2
      go_ret
      exact ⟨rfl, n, rfl⟩
  · have hV : uidV S seg = .tuple #[.int .i64 0, .bool false] := by unfold uidV; rw [if_neg c1]
    rw [hV] at hu
    have hC : countV S seg r = 0 := by unfold countV; rw [if_neg (by omega)]
    rw [hC]
    clear h row hV hC c1
    go_enter Try.func14, Try.ntmps14
    go_wp2_with fail
    refine hu.mono ?_
    rintro e w' ⟨rfl, n, rfl⟩
    go_wp2
    go_ret
    exact ⟨rfl, n, rfl⟩
theorem forget_no (w : World) (p m : Nat) (S : St) (h : At w p m S) (seg : Int) (hs : ¬ (1 ≤ seg ∧ seg < 64 ∧ 0 < S.U seg.toNat)) :
    Calls Try.prog 10 #[.pointer (some ⟨p, 0, none⟩), .int .i64 seg] w fun e w' => e = .returned (.bool false) ∧ ∃ n, w' = w.drewN n := by
  have hu := uid_any w p m S h seg
  have hV : ∃ x, uidV S seg = .tuple #[.int .i64 x, .bool false] := by
    unfold uidV
    split
    · exact ⟨_, by rw [decide_eq_false (by omega)]⟩
    · exact ⟨_, rfl⟩
  obtain ⟨x, hV⟩ := hV
  rw [hV] at hu
  clear hV hs
  go_enter Try.func10, Try.ntmps10
  go_wp2_with fail
  refine hu.mono ?_
  rintro e w' ⟨rfl, n, rfl⟩
  go_wp2
  go_ret
  exact ⟨rfl, n, rfl⟩
theorem zero9 (arr : Array Value) (b : Nat) (hb : b + 9 ≤ arr.size) (v : Value) (i : Nat) : (((((((((arr.setIfInBounds (b) v).setIfInBounds (b + 1) v).setIfInBounds (b + 2) v).setIfInBounds (b + 3) v).setIfInBounds (b + 4) v).setIfInBounds (b + 5) v).setIfInBounds (b + 6) v).setIfInBounds (b + 7) v).setIfInBounds (b + 8) v)[i]? = if b ≤ i ∧ i < b + 9 then some v else arr[i]? := by
  by_cases h : b ≤ i ∧ i < b + 9
  · rw [if_pos h]
    have h9 : i = b ∨ i = b + 1 ∨ i = b + 2 ∨ i = b + 3 ∨ i = b + 4 ∨ i = b + 5 ∨ i = b + 6 ∨ i = b + 7 ∨ i = b + 8 := by omega
    rcases h9 with rfl | rfl | rfl | rfl | rfl | rfl | rfl | rfl | rfl
    all_goals
      repeat (first | rw [Array.getElem?_setIfInBounds, if_neg (by omega)] | rw [Array.getElem?_setIfInBounds, if_pos rfl, if_pos (by first | (simp only [Array.size_setIfInBounds]; omega) | omega)])
  · rw [if_neg h]
    repeat rw [Array.getElem?_setIfInBounds, if_neg (by omega)]
/-- Behind Forget. -/
def forgetS (S : St) (s : Nat) : St := ⟨fun t => if t = s then 0 else S.U t, fun t r => if t = s then 0 else S.C t r, del S.L (S.U s)⟩
theorem forget_yes (w : World) (p m : Nat) (S : St) (h : At w p m S) (s : Nat) (h1 : 1 ≤ s) (h2 : s < 64) (h3 : 0 < S.U s) :
    Calls Try.prog 10 #[.pointer (some ⟨p, 0, none⟩), .int .i64 (s : Int)] w fun e w' => e = .returned (.bool true) ∧ At w' p m (forgetS S s) ∧ Keeps (fun i => i = p ∨ i = m) w w' := by
  have hu := uid_any w p m S h s
  have hV : uidV S s = .tuple #[.int .i64 (S.U s), .bool true] := by unfold uidV; rw [if_pos (by omega), Int.toNat_natCast, decide_eq_true h3]
  rw [hV] at hu
  obtain ⟨arr, row⟩ := h.row
  have pm := h.ne
  have hps := h.pos s
  obtain ⟨ob, hob, O, hO⟩ := h.mp.delete_fix 0 law Try.underlying43 h.keyOf (inj _) (x := S.U s) (keyOf_i64 (by omega) (by omega))
  have hob1 : ∀ n, (w.drewN n).heap[m]? = some ob := fun n => hob
  have hrun : ∀ W : World, W.heap[m]? = some ob → (Builtin.delete_ #[43, 3] 0 #[.map (some m), .int .i64 (S.U s)]).run Try.prog W = .ok (.tuple #[]) (setBlock W m (O W)) := fun W hW => (hO W hW).1
  have c0 : w.cell? ⟨p, 576, none⟩ = some (.map (some m)) := by rw [row.blk.cell]; exact row.map
  have hB := fun n => (row.blk.drewN n).farBlock pm.symm (O (w.drewN n))
  have hf := fun n => (hB n).frozen
  have k0 : ∀ n, (setBlock (w.drewN n) m (O (w.drewN n))).cell? ⟨p, s * 9, none⟩ = some (.int .i64 (S.U s)) := fun n => by rw [(hB n).cell]; exact row.uid s h2
  have k1 : ∀ n, (setBlock (w.drewN n) m (O (w.drewN n))).cell? ⟨p, s * 9 + 1, none⟩ = some (.int .i64 (S.C s 0)) := fun n => by rw [(hB n).cell]; exact row.uses s 0 h2 (by decide)
  have k2 : ∀ n, (setBlock (w.drewN n) m (O (w.drewN n))).cell? ⟨p, s * 9 + 2, none⟩ = some (.int .i64 (S.C s 1)) := fun n => by rw [(hB n).cell]; exact row.uses s 1 h2 (by decide)
  have k3 : ∀ n, (setBlock (w.drewN n) m (O (w.drewN n))).cell? ⟨p, s * 9 + 3, none⟩ = some (.int .i64 (S.C s 2)) := fun n => by rw [(hB n).cell]; exact row.uses s 2 h2 (by decide)
  have k4 : ∀ n, (setBlock (w.drewN n) m (O (w.drewN n))).cell? ⟨p, s * 9 + 4, none⟩ = some (.int .i64 (S.C s 3)) := fun n => by rw [(hB n).cell]; exact row.uses s 3 h2 (by decide)
  have k5 : ∀ n, (setBlock (w.drewN n) m (O (w.drewN n))).cell? ⟨p, s * 9 + 5, none⟩ = some (.int .i64 (S.C s 4)) := fun n => by rw [(hB n).cell]; exact row.uses s 4 h2 (by decide)
  have k6 : ∀ n, (setBlock (w.drewN n) m (O (w.drewN n))).cell? ⟨p, s * 9 + 6, none⟩ = some (.int .i64 (S.C s 5)) := fun n => by rw [(hB n).cell]; exact row.uses s 5 h2 (by decide)
  have k7 : ∀ n, (setBlock (w.drewN n) m (O (w.drewN n))).cell? ⟨p, s * 9 + 7, none⟩ = some (.int .i64 (S.C s 6)) := fun n => by rw [(hB n).cell]; exact row.uses s 6 h2 (by decide)
  have k8 : ∀ n, (setBlock (w.drewN n) m (O (w.drewN n))).cell? ⟨p, s * 9 + 8, none⟩ = some (.int .i64 (S.C s 7)) := fun n => by rw [(hB n).cell]; exact row.uses s 7 h2 (by decide)
  have i0 : (0 : Int) ≤ (s : Int) := by omega
  have i1 : (s : Int) < 64 := by omega
  have A := hid (And.intro hB (And.intro hO h))
  have HR := hid row
  clear hV hB hO h row
  go_enter Try.func10, Try.ntmps10
  go_wp2_with fail
  refine hu.mono ?_
  rintro e w' ⟨rfl, n, rfl⟩
  go_wp2_with fail
  go_ret
  obtain ⟨hB, hO, h⟩ := A.out
  have hb : s * 9 + 9 ≤ arr.size := by rw [HR.out.size]; omega
  have hK : Keeps (fun i => i = p ∨ i = m) w (setBlock (w.drewN n) m (O (w.drewN n))) := (((Keeps.refl _ w).drewN n).setBlock (.inr (.inr rfl)) _)
  refine ⟨rfl, ⟨⟨_, (((((((((hB n).set (s * 9) (.int .i64 0)).set (s * 9 + 1) (.int .i64 0)).set (s * 9 + 2) (.int .i64 0)).set (s * 9 + 3) (.int .i64 0)).set (s * 9 + 4) (.int .i64 0)).set (s * 9 + 5) (.int .i64 0)).set (s * 9 + 6) (.int .i64 0)).set (s * 9 + 7) (.int .i64 0)).set (s * 9 + 8) (.int .i64 0), by simpa using HR.out.size, ?_, ?_, ?_⟩, ?_, ?_, ?_, ?_, ?_, ?_⟩, ?_⟩
  · intro t ht
    rw [zero9 _ _ hb]
    show _ = some (Value.int .i64 (if t = s then 0 else S.U t))
    by_cases e : t = s
    · subst e; rw [if_pos (by omega), if_pos rfl]
    · rw [if_neg (by omega), if_neg e]; exact HR.out.uid t ht
  · intro t r ht hr
    rw [zero9 _ _ hb]
    show _ = some (Value.int .i64 (if t = s then 0 else S.C t r))
    by_cases e : t = s
    · subst e; rw [if_pos (by omega), if_pos rfl]
    · rw [if_neg (by omega), if_neg e]; exact HR.out.uses t r ht hr
  · rw [zero9 _ _ hb, if_neg (by omega)]
    exact HR.out.map
  · exact (MapIs.set (MapIs.set (MapIs.set (MapIs.set (MapIs.set (MapIs.set (MapIs.set (MapIs.set (MapIs.set (hO _ (hob1 n)).2 pm.symm _) pm.symm _) pm.symm _) pm.symm _) pm.symm _) pm.symm _) pm.symm _) pm.symm _) pm.symm _)
  · intro u t
    show get? (del S.L (S.U s)) u = some t ↔ (1 ≤ t ∧ t < 64 ∧ (if t = s then 0 else S.U t) = u ∧ 1 ≤ u)
    rw [get?_del]
    have hss := (h.both (S.U s) s).2 ⟨h1, h2, rfl, by omega⟩
    by_cases e : u = S.U s
    · rw [if_pos e]
      constructor
      · intro h'; cases h'
      · rintro ⟨q1, q2, q3, q4⟩
        by_cases et : t = s
        · rw [if_pos et] at q3; omega
        · rw [if_neg et] at q3
          have := (h.both u t).2 ⟨q1, q2, q3, q4⟩
          rw [e, hss] at this
          exact absurd (Option.some.inj this).symm et
    · rw [if_neg e, h.both]
      by_cases et : t = s
      · subst et; rw [if_pos rfl]
        constructor
        · rintro ⟨_, _, q, _⟩; exact absurd q.symm e
        · rintro ⟨_, _, q, q4⟩; omega
      · rw [if_neg et]
  · show (if 0 = s then 0 else S.U 0) = 0
    rw [h.zero]; simp
  · intro t
    show 0 ≤ (if t = s then 0 else S.U t) ∧ (if t = s then 0 else S.U t) ≤ 4611686018427387904
    have := h.pos t
    split <;> omega
  · intro t r
    show 0 ≤ (if t = s then 0 else S.C t r) ∧ (if t = s then 0 else S.C t r) ≤ 4611686018427387904
    have := h.cnt t r
    split <;> omega
  · intro t r
    show (if t = s then 0 else S.U t) = 0 → (if t = s then 0 else S.C t r) = 0
    have := h.free t r
    split <;> simp_all
  · exact (((((((((hK.setCell (.inr (.inl rfl)) _).setCell (.inr (.inl rfl)) _).setCell (.inr (.inl rfl)) _).setCell (.inr (.inl rfl)) _).setCell (.inr (.inl rfl)) _).setCell (.inr (.inl rfl)) _).setCell (.inr (.inl rfl)) _).setCell (.inr (.inl rfl)) _).setCell (.inr (.inl rfl)) _)
theorem drop_arg (w : World) (p m : Nat) (S : St) (h : At w p m S) (seg r : Int) (hr : ¬ (0 ≤ r ∧ r < 8)) :
    Calls Try.prog 12 #[.pointer (some ⟨p, 0, none⟩), .int .i64 seg, .int .i64 r] w fun e w' => e = .returned (.tuple #[.bool false, .int .i64 1]) ∧ w = w' := by
  have hrr := ring_any r w
  rw [decide_eq_false hr] at hrr
  clear hr
  go_enter Try.func12, Try.ntmps12
  go_wp2_with fail
  refine hrr.mono ?_
  rintro e w' ⟨rfl, rfl⟩
  go_wp2
  go_ret2
  exact ⟨rfl, rfl⟩
theorem drop_none (w : World) (p m : Nat) (S : St) (h : At w p m S) (seg r : Int) (hr : 0 ≤ r ∧ r < 8) (hc : countV S seg r = 0) :
    Calls Try.prog 12 #[.pointer (some ⟨p, 0, none⟩), .int .i64 seg, .int .i64 r] w fun e w' => e = .returned (.tuple #[.bool false, .int .i64 4]) ∧ ∃ n, w' = w.drewN n := by
  have hrr := ring_any r w
  rw [decide_eq_true hr] at hrr
  have hcc := count_any w p m S h seg r
  rw [hc] at hcc
  clear hr hc
  go_enter Try.func12, Try.ntmps12
  go_wp2_with fail
  refine hrr.mono ?_
  rintro e w' ⟨rfl, rfl⟩
  go_wp2_with fail
  refine hcc.mono ?_
  rintro e w' ⟨rfl, n, rfl⟩
  go_wp2
  go_ret2
  exact ⟨rfl, n, rfl⟩
theorem eq8 (D : Nat → Int) (w : World) : (Op.equalIn 10000 41 (.agg #[.int .i64 (D 0), .int .i64 (D 1), .int .i64 (D 2), .int .i64 (D 3), .int .i64 (D 4), .int .i64 (D 5), .int .i64 (D 6), .int .i64 (D 7)]) (.agg #[.int .i64 0, .int .i64 0, .int .i64 0, .int .i64 0, .int .i64 0, .int .i64 0, .int .i64 0, .int .i64 0])).run Try.prog w = .ok ((List.range 8).all fun i => D i == 0) w := by
  obtain ⟨i, hi⟩ : ∃ i, Try.prog.info? 3 = some i := Option.isSome_iff_exists.1 (by kernel_rfl)
  rw [run_equalIn_array w 9999 _ _ Try.underlying41 hi, show Try.prog.cellsOf 3 = 1 from by kernel_rfl]
  exact eqItems_ints Try.underlying3 (by kernel_rfl) 9998 [D 0, D 1, D 2, D 3, D 4, D 5, D 6, D 7] [0, 0, 0, 0, 0, 0, 0, 0] w (List.range 8) (fun i hi => by have := List.mem_range.1 hi; exact ⟨this, this⟩)
def decS (S : St) (s t : Nat) : St := ⟨S.U, fun a b => if a = s ∧ b = t then S.C s t - 1 else S.C a b, S.L⟩
/-- No use is left. -/
def lastB (S : St) (s t : Nat) : Bool := (List.range 8).all fun i => (decS S s t).C s i == 0
def dropS (S : St) (s t : Nat) : St := if lastB S s t = true then forgetS (decS S s t) s else decS S s t
theorem drop_yes (w : World) (p m : Nat) (S : St) (h : At w p m S) (s t : Nat) (h1 : 1 ≤ s) (h2 : s < 64) (h3 : t < 8) (hc : 0 < S.C s t) :
    Calls Try.prog 12 #[.pointer (some ⟨p, 0, none⟩), .int .i64 (s : Int), .int .i64 (t : Int)] w fun e w' => e = .returned (.tuple #[.bool (lastB S s t), .int .i64 0]) ∧ At w' p m (dropS S s t) ∧ Keeps (fun i => i = p ∨ i = m) w w' := by
  have hrr := ring_any t w
  rw [decide_eq_true (by omega)] at hrr
  have hcc := count_any w p m S h s t
  have hV : countV S s t = S.C s t := by unfold countV; rw [if_pos (by omega), Int.toNat_natCast, Int.toNat_natCast]
  rw [hV] at hcc
  obtain ⟨arr, row⟩ := h.row
  have c0 : w.cell? ⟨p, s * 9 + 1 + t, none⟩ = some (.int .i64 (S.C s t)) := by rw [row.blk.cell]; exact row.uses s t h2 h3
  have f0 : w.frozen? ⟨p, s * 9 + 1 + t, none⟩ = false := row.blk.frozen _
  have i0 : (0 : Int) ≤ (s : Int) := by omega
  have i1 : (s : Int) < 64 := by omega
  have i2 : (0 : Int) ≤ (t : Int) := by omega
  have i3 : (t : Int) < 8 := by omega
  have hcn := h.cnt s t
  have w1 : IntKind.i64.wrap (S.C s t - 1) = S.C s t - 1 := by rw [IntKind.wrap_i64]; omega
  have hne : (S.C s t == 0) = false := by simp; omega
  obtain ⟨D, hD⟩ : ∃ D : Nat → Int, D = fun j => (decS S s t).C s j := ⟨_, rfl⟩
  have hB1 := fun k => (row.blk.drewN k).set (s * 9 + 1 + t) (.int .i64 (S.C s t - 1))
  have hDj : ∀ j, j < 8 → (arr.setIfInBounds (s * 9 + 1 + t) (.int .i64 (S.C s t - 1)))[s * 9 + 1 + j]? = some (.int .i64 (D j)) := by
    intro j hj
    rw [Array.getElem?_setIfInBounds, hD]
    show _ = some (Value.int .i64 (if s = s ∧ j = t then S.C s t - 1 else S.C s j))
    by_cases e : j = t
    · subst e; rw [if_pos rfl, if_pos (by rw [row.size]; omega), if_pos ⟨rfl, rfl⟩]
    · rw [if_neg (by omega), if_neg (fun h => e h.2)]; exact row.uses s j h2 hj
  have d0 : ∀ k, ((w.drewN k).setCell ⟨p, s * 9 + 1 + t, none⟩ (.int .i64 (S.C s t - 1))).cell? ⟨p, s * 9 + 1, none⟩ = some (.int .i64 (D 0)) := fun k => by rw [(hB1 k).cell]; exact hDj 0 (by decide)
  have d1 : ∀ k, ((w.drewN k).setCell ⟨p, s * 9 + 1 + t, none⟩ (.int .i64 (S.C s t - 1))).cell? ⟨p, s * 9 + 1 + 1, none⟩ = some (.int .i64 (D 1)) := fun k => by rw [(hB1 k).cell]; exact hDj 1 (by decide)
  have d2 : ∀ k, ((w.drewN k).setCell ⟨p, s * 9 + 1 + t, none⟩ (.int .i64 (S.C s t - 1))).cell? ⟨p, s * 9 + 1 + 2, none⟩ = some (.int .i64 (D 2)) := fun k => by rw [(hB1 k).cell]; exact hDj 2 (by decide)
  have d3 : ∀ k, ((w.drewN k).setCell ⟨p, s * 9 + 1 + t, none⟩ (.int .i64 (S.C s t - 1))).cell? ⟨p, s * 9 + 1 + 3, none⟩ = some (.int .i64 (D 3)) := fun k => by rw [(hB1 k).cell]; exact hDj 3 (by decide)
  have d4 : ∀ k, ((w.drewN k).setCell ⟨p, s * 9 + 1 + t, none⟩ (.int .i64 (S.C s t - 1))).cell? ⟨p, s * 9 + 1 + 4, none⟩ = some (.int .i64 (D 4)) := fun k => by rw [(hB1 k).cell]; exact hDj 4 (by decide)
  have d5 : ∀ k, ((w.drewN k).setCell ⟨p, s * 9 + 1 + t, none⟩ (.int .i64 (S.C s t - 1))).cell? ⟨p, s * 9 + 1 + 5, none⟩ = some (.int .i64 (D 5)) := fun k => by rw [(hB1 k).cell]; exact hDj 5 (by decide)
  have d6 : ∀ k, ((w.drewN k).setCell ⟨p, s * 9 + 1 + t, none⟩ (.int .i64 (S.C s t - 1))).cell? ⟨p, s * 9 + 1 + 6, none⟩ = some (.int .i64 (D 6)) := fun k => by rw [(hB1 k).cell]; exact hDj 6 (by decide)
  have d7 : ∀ k, ((w.drewN k).setCell ⟨p, s * 9 + 1 + t, none⟩ (.int .i64 (S.C s t - 1))).cell? ⟨p, s * 9 + 1 + 7, none⟩ = some (.int .i64 (D 7)) := fun k => by rw [(hB1 k).cell]; exact hDj 7 (by decide)
  have hat1 : ∀ k, At ((w.drewN k).setCell ⟨p, s * 9 + 1 + t, none⟩ (.int .i64 (S.C s t - 1))) p m (decS S s t) := by
    intro k
    refine ⟨⟨_, hB1 k, by simpa using row.size, fun a ha => ?_, fun a b ha hb => ?_, ?_⟩, MapIs.set (p := ⟨p, s * 9 + 1 + t, none⟩) h.mp h.ne.symm _, h.both, h.zero, h.pos, fun a b => ?_, fun a b => ?_⟩
    · rw [Array.getElem?_setIfInBounds, if_neg (by omega)]; exact row.uid a ha
    · rw [Array.getElem?_setIfInBounds]
      show _ = some (Value.int .i64 (if a = s ∧ b = t then S.C s t - 1 else S.C a b))
      by_cases e : a = s ∧ b = t
      · obtain ⟨rfl, rfl⟩ := e; rw [if_pos rfl, if_pos (by rw [row.size]; omega), if_pos ⟨rfl, rfl⟩]
      · rw [if_neg (by omega), if_neg e]; exact row.uses a b ha hb
    · rw [Array.getElem?_setIfInBounds, if_neg (by omega)]; exact row.map
    · show 0 ≤ (if a = s ∧ b = t then S.C s t - 1 else S.C a b) ∧ (if a = s ∧ b = t then S.C s t - 1 else S.C a b) ≤ 4611686018427387904
      have := h.cnt a b
      split <;> omega
    · show S.U a = 0 → (if a = s ∧ b = t then S.C s t - 1 else S.C a b) = 0
      intro h0
      split
      · rename_i e; rw [e.1] at h0; have := h.free s t h0; omega
      · exact h.free a b h0
  have hUs : 0 < S.U s := by
    have := h.pos s
    rcases Int.lt_or_le 0 (S.U s) with g | g
    · exact g
    · have := h.free s t (by omega); omega
  have hfg := fun k => forget_yes _ p m _ (hat1 k) s h1 h2 hUs
  have hkp : ∀ k, Keeps (fun i => i = p ∨ i = m) w ((w.drewN k).setCell ⟨p, s * 9 + 1 + t, none⟩ (.int .i64 (S.C s t - 1))) := fun k => Keeps.setCell ((Keeps.refl _ w).drewN k) (.inr (.inl rfl)) _
  have he8 := eq8 D
  have hall : ((List.range 8).all fun i => D i == 0) = lastB S s t := by rw [hD]; rfl
  rw [hall] at he8
  have A := hid (And.intro hat1 hkp)
  clear hat1 hkp hall hUs
  clear hB1 h row hD hDj
  unfold dropS
  cases hl : lastB S s t <;> rw [hl] at he8 <;> clear hl hV
  all_goals
    go_enter Try.func12, Try.ntmps12
    go_wp2_with fail
    refine hrr.mono ?_
    rintro e w' ⟨rfl, rfl⟩
    go_wp2_with fail
    refine hcc.mono ?_
    rintro e w' ⟨rfl, n, rfl⟩
    go_wp2_with fail
    go_region_law (fail)
    all_goals
      go_wp2_with fail
      first
      | (go_ret2; exact ⟨rfl, A.out.1 _, A.out.2 _⟩)
      | (refine (hfg _).mono ?_; rintro e w2 ⟨rfl, hf, hk⟩; go_wp2; go_ret2; exact ⟨rfl, hf, (A.out.2 _).trans hk (fun _ _ h => h)⟩)
/-- One use more. -/
def incS (S : St) (s t : Nat) : St := ⟨S.U, fun a b => if a = s ∧ b = t then S.C s t + 1 else S.C a b, S.L⟩
theorem add_again (w : World) (p m : Nat) (S : St) (h : At w p m S) (u : Int) (s t : Nat) (h1 : 1 ≤ s) (h2 : s < 64) (h3 : t < 8) (hu0 : 1 ≤ u) (hu1 : u ≤ 4611686018427387904) (hus : S.U s = u) (hc : S.C s t < 4611686018427387904) :
    Calls Try.prog 9 #[.pointer (some ⟨p, 0, none⟩), .int .i64 u, .int .i64 (t : Int)] w fun e w' => e = .returned (.tuple #[.int .i64 (s : Int), .bool false, .int .i64 0]) ∧ At w' p m (incS S s t) ∧ Keeps (fun i => i = p ∨ i = m) w w' := by
  have hrr := ring_any t w
  rw [decide_eq_true (by omega)] at hrr
  have hg : get? S.L u = some s := (h.both u s).2 ⟨h1, h2, hus, hu0⟩
  have hz : (zeroValue 3).run Try.prog w = .ok (.int .i64 0) w := by kernel_rfl
  have hl := h.mp.lookup_ok (z := .int .i64 0) law Try.underlying43 hz h.keyOf (inj _) (x := u) (keyOf_i64 (by omega) (by omega)) true
  rw [hg] at hl
  simp only [if_true] at hl
  obtain ⟨arr, row⟩ := h.row
  have cm : w.cell? ⟨p, 576, none⟩ = some (.map (some m)) := by rw [row.blk.cell]; exact row.map
  have c0 : w.cell? ⟨p, s * 9 + 1 + t, none⟩ = some (.int .i64 (S.C s t)) := by rw [row.blk.cell]; exact row.uses s t h2 h3
  have f0 : w.frozen? ⟨p, s * 9 + 1 + t, none⟩ = false := row.blk.frozen _
  have i0 : (0 : Int) ≤ (s : Int) := by omega
  have i1 : (s : Int) < 64 := by omega
  have i2 : (0 : Int) ≤ (t : Int) := by omega
  have i3 : (t : Int) < 8 := by omega
  have hcn := h.cnt s t
  have w1 : IntKind.i64.wrap (S.C s t + 1) = S.C s t + 1 := by rw [IntKind.wrap_i64]; omega
  have hB1 := fun k => (row.blk.drewN k).set (s * 9 + 1 + t) (.int .i64 (S.C s t + 1))
  have hat1 : ∀ k, At ((w.drewN k).setCell ⟨p, s * 9 + 1 + t, none⟩ (.int .i64 (S.C s t + 1))) p m (incS S s t) := by
    intro k
    refine ⟨⟨_, hB1 k, by simpa using row.size, fun a ha => ?_, fun a b ha hb => ?_, ?_⟩, MapIs.set (p := ⟨p, s * 9 + 1 + t, none⟩) h.mp h.ne.symm _, h.both, h.zero, h.pos, fun a b => ?_, fun a b => ?_⟩
    · rw [Array.getElem?_setIfInBounds, if_neg (by omega)]; exact row.uid a ha
    · rw [Array.getElem?_setIfInBounds]
      show _ = some (Value.int .i64 (if a = s ∧ b = t then S.C s t + 1 else S.C a b))
      by_cases e : a = s ∧ b = t
      · obtain ⟨rfl, rfl⟩ := e; rw [if_pos rfl, if_pos (by rw [row.size]; omega), if_pos ⟨rfl, rfl⟩]
      · rw [if_neg (by omega), if_neg e]; exact row.uses a b ha hb
    · rw [Array.getElem?_setIfInBounds, if_neg (by omega)]; exact row.map
    · show 0 ≤ (if a = s ∧ b = t then S.C s t + 1 else S.C a b) ∧ (if a = s ∧ b = t then S.C s t + 1 else S.C a b) ≤ 4611686018427387904
      have := h.cnt a b
      split <;> omega
    · show S.U a = 0 → (if a = s ∧ b = t then S.C s t + 1 else S.C a b) = 0
      intro h0
      split
      · rename_i e; rw [e.1] at h0; omega
      · exact h.free a b h0
  have hkp : ∀ k, Keeps (fun i => i = p ∨ i = m) w ((w.drewN k).setCell ⟨p, s * 9 + 1 + t, none⟩ (.int .i64 (S.C s t + 1))) := fun k => Keeps.setCell ((Keeps.refl _ w).drewN k) (.inr (.inl rfl)) _
  have A := hid (And.intro hat1 hkp)
  have hu2 : ¬ u < 1 := by omega
  clear hat1 hkp hz hg hB1 h row hus hu0
  go_enter Try.func9, Try.ntmps9
  go_wp2_with fail
  refine hrr.mono ?_
  rintro e w' ⟨rfl, rfl⟩
  go_wp2_with fail
  go_region_law (fail)
  all_goals
    go_wp2_with fail
    go_ret3
    exact ⟨rfl, A.out.1 _, A.out.2 _⟩
theorem add_full (w : World) (p m : Nat) (S : St) (h : At w p m S) (u : Int) (t : Nat) (h3 : t < 8) (hu0 : 1 ≤ u) (hu1 : u ≤ 4611686018427387904) (hg : get? S.L u = none) (hf : ∀ a, 1 ≤ a → a < 64 → S.U a ≠ 0) :
    Calls Try.prog 9 #[.pointer (some ⟨p, 0, none⟩), .int .i64 u, .int .i64 (t : Int)] w fun e w' => e = .returned (.tuple #[.int .i64 0, .bool false, .int .i64 7]) ∧ w = w' := by
  have hrr := ring_any t w
  rw [decide_eq_true (by omega)] at hrr
  have hz : (zeroValue 3).run Try.prog w = .ok (.int .i64 0) w := by kernel_rfl
  have hl := h.mp.lookup_ok (z := .int .i64 0) law Try.underlying43 hz h.keyOf (inj _) (x := u) (keyOf_i64 (by omega) (by omega)) true
  rw [hg] at hl
  simp only [if_true] at hl
  obtain ⟨arr, row⟩ := h.row
  have cm : w.cell? ⟨p, 576, none⟩ = some (.map (some m)) := by rw [row.blk.cell]; exact row.map
  have hu2 : ¬ u < 1 := by omega
  have A := hid (And.intro row hf)
  clear hz hg h row hf hu0
  go_enter Try.func9, Try.ntmps9
  go_wp2_with fail
  refine hrr.mono ?_
  rintro e w' ⟨rfl, rfl⟩
  go_wp2_with fail
  go_loopw [11] (fun i wr => ∃ j : Nat, 1 ≤ j ∧ j ≤ 64 ∧ i = .int .i64 (j : Int) ∧ wr = w) (fun i _ => 64 - (intOf i).toNat)
  case atStart => exact ⟨1, by omega, by omega, rfl, rfl⟩
  case round =>
    obtain ⟨j, hj1, hj2, rfl, rfl⟩ := hrel
    have w1 : IntKind.i64.wrap ((j : Int) + 1) = j + 1 := by rw [IntKind.wrap_i64]; omega
    by_cases hj : j < 64
    · have c0 := A.out.1.blk.cell (j * 9)
      rw [A.out.1.uid j hj] at c0
      have hne := A.out.2 j hj1 hj
      generalize S.U j = x at c0 hne
      have i0 : (0 : Int) ≤ (j : Int) := by omega
      have i1 : (j : Int) < 64 := by omega
      have i2 : (j : Int) ≤ 63 := by omega
      go_wp2_with fail
      go_roundw
      case rel => exact ⟨j + 1, by omega, by omega, by go_num, trivial⟩
      case measure => simp [intOf]; omega
    · have i2 : ¬ (j : Int) ≤ 63 := by omega
      go_wp2_with fail
      go_ret3
      exact ⟨rfl, rfl⟩
/-- What Add refuses. -/
theorem add_arg (w : World) (p m : Nat) (u r : Int) (h : u < 1 ∨ ¬ (0 ≤ r ∧ r < 8)) :
    Calls Try.prog 9 #[.pointer (some ⟨p, 0, none⟩), .int .i64 u, .int .i64 r] w fun e w' => e = .returned (.tuple #[.int .i64 0, .bool false, .int .i64 1]) ∧ w = w' := by
  have hrr := ring_any r w
  by_cases hu : u < 1
  · clear hrr h
    go_enter Try.func9, Try.ntmps9
    go_wp2
    go_ret3
    exact ⟨rfl, rfl⟩
  · rw [decide_eq_false (by omega)] at hrr
    clear h
    go_enter Try.func9, Try.ntmps9
    go_wp2_with fail
    refine hrr.mono ?_
    rintro e w' ⟨rfl, rfl⟩
    go_wp2
    go_ret3
    exact ⟨rfl, rfl⟩
/-- A new segment. -/
def addS (S : St) (u : Int) (s t : Nat) : St := ⟨fun a => if a = s then u else S.U a, fun a b => if a = s ∧ b = t then 1 else S.C a b, S.L ++ [(u, s)]⟩
theorem add_new (w : World) (p m : Nat) (S : St) (h : At w p m S) (u : Int) (s t : Nat) (h1 : 1 ≤ s) (h2 : s < 64) (h3 : t < 8) (hu0 : 1 ≤ u) (hu1 : u ≤ 4611686018427387904) (hg : get? S.L u = none) (hs0 : S.U s = 0) (hf : ∀ a, 1 ≤ a → a < s → S.U a ≠ 0) :
    Calls Try.prog 9 #[.pointer (some ⟨p, 0, none⟩), .int .i64 u, .int .i64 (t : Int)] w fun e w' => e = .returned (.tuple #[.int .i64 (s : Int), .bool true, .int .i64 0]) ∧ At w' p m (addS S u s t) ∧ Keeps (fun i => i = p ∨ i = m) w w' := by
  have hrr := ring_any t w
  rw [decide_eq_true (by omega)] at hrr
  have hz : (zeroValue 3).run Try.prog w = .ok (.int .i64 0) w := by kernel_rfl
  have hl := h.mp.lookup_ok (z := .int .i64 0) law Try.underlying43 hz h.keyOf (inj _) (x := u) (keyOf_i64 (by omega) (by omega)) true
  rw [hg] at hl
  simp only [if_true] at hl
  obtain ⟨arr, row⟩ := h.row
  have pm := h.ne
  have cm : w.cell? ⟨p, 576, none⟩ = some (.map (some m)) := by rw [row.blk.cell]; exact row.map
  have hu2 : ¬ u < 1 := by omega
  -- the worlds behind the two stores and the map's turn
  obtain ⟨W2, hW2⟩ : ∃ W2, W2 = (w.setCell ⟨p, s * 9, none⟩ (.int .i64 u)).setCell ⟨p, s * 9 + 1 + t, none⟩ (.int .i64 1) := ⟨_, rfl⟩
  have hB2 : Blk W2 p 48 ((arr.setIfInBounds (s * 9) (.int .i64 u)).setIfInBounds (s * 9 + 1 + t) (.int .i64 1)) := by rw [hW2]; exact (row.blk.set _ _).set _ _
  have hm2 : MapOf ek ev W2 m S.L := by rw [hW2]; exact MapIs.set (MapIs.set h.mp pm.symm _) pm.symm _
  have hk2 : Keeps (fun i => i = p ∨ i = m) w W2 := by rw [hW2]; exact ((Keeps.refl _ w).setCell (.inr (.inl rfl)) _).setCell (.inr (.inl rfl)) _
  obtain ⟨o, hrun, hm3⟩ := hm2.update law Try.underlying43 h.keyOf (inj _) (x := u) (keyOf_i64 (by omega) (by omega)) s
  have c0 : w.cell? ⟨p, s * 9, none⟩ = some (.int .i64 0) := by rw [row.blk.cell, row.uid s h2, hs0]
  have f0 : w.frozen? ⟨p, s * 9, none⟩ = false := row.blk.frozen _
  have c1 : (w.setCell ⟨p, s * 9, none⟩ (.int .i64 u)).cell? ⟨p, s * 9 + 1 + t, none⟩ = some (.int .i64 (S.C s t)) := by
    rw [(row.blk.set _ _).cell, Array.getElem?_setIfInBounds, if_neg (by omega)]
    exact row.uses s t h2 h3
  have f1 : (w.setCell ⟨p, s * 9, none⟩ (.int .i64 u)).frozen? ⟨p, s * 9 + 1 + t, none⟩ = false := (row.blk.set _ _).frozen _
  have cm2 : W2.cell? ⟨p, 576, none⟩ = some (.map (some m)) := by
    rw [hB2.cell, Array.getElem?_setIfInBounds, if_neg (by omega), Array.getElem?_setIfInBounds, if_neg (by omega)]
    exact row.map
  have hput : put S.L u s = S.L ++ [(u, s)] := put_of_none hg s
  rw [hput] at hm3
  have hend : At (setBlock W2 m o) p m (addS S u s t) := by
    refine ⟨⟨_, hB2.farBlock pm.symm o, by simpa using row.size, fun a ha => ?_, fun a b ha hb => ?_, ?_⟩, hm3, ?_, ?_, fun a => ?_, fun a b => ?_, fun a b => ?_⟩
    · rw [Array.getElem?_setIfInBounds, if_neg (by omega), Array.getElem?_setIfInBounds]
      show _ = some (Value.int .i64 (if a = s then u else S.U a))
      by_cases e : a = s
      · subst e; rw [if_pos rfl, if_pos (by rw [row.size]; omega), if_pos rfl]
      · rw [if_neg (by omega), if_neg e]; exact row.uid a ha
    · rw [Array.getElem?_setIfInBounds]
      show _ = some (Value.int .i64 (if a = s ∧ b = t then 1 else S.C a b))
      by_cases e : a = s ∧ b = t
      · obtain ⟨rfl, rfl⟩ := e; rw [if_pos rfl, if_pos (by rw [Array.size_setIfInBounds, row.size]; omega), if_pos ⟨rfl, rfl⟩]
      · rw [if_neg (by omega), if_neg e, Array.getElem?_setIfInBounds, if_neg (by omega)]; exact row.uses a b ha hb
    · rw [Array.getElem?_setIfInBounds, if_neg (by omega), Array.getElem?_setIfInBounds, if_neg (by omega)]; exact row.map
    · intro v a
      show get? (S.L ++ [(u, s)]) v = some a ↔ (1 ≤ a ∧ a < 64 ∧ (if a = s then u else S.U a) = v ∧ 1 ≤ v)
      rw [← hput, get?_put]
      by_cases e : v = u
      · subst e
        rw [if_pos rfl]
        constructor
        · intro h'
          have e2 : s = a := Option.some.inj h'
          subst e2
          exact ⟨h1, h2, if_pos rfl, hu0⟩
        · rintro ⟨q1, q2, q3, q4⟩
          by_cases ea : a = s
          · rw [ea]
          · rw [if_neg ea] at q3
            have := (h.both v a).2 ⟨q1, q2, q3, q4⟩
            rw [hg] at this; cases this
      · rw [if_neg e, h.both]
        by_cases ea : a = s
        · rw [if_pos ea]
          constructor
          · rintro ⟨_, _, q, q4⟩; rw [ea, hs0] at q; omega
          · rintro ⟨_, _, q, _⟩; exact absurd q.symm e
        · rw [if_neg ea]
    · show (if 0 = s then u else S.U 0) = 0
      rw [if_neg (by omega)]; exact h.zero
    · show 0 ≤ (if a = s then u else S.U a) ∧ (if a = s then u else S.U a) ≤ 4611686018427387904
      have := h.pos a
      split <;> omega
    · show 0 ≤ (if a = s ∧ b = t then 1 else S.C a b) ∧ (if a = s ∧ b = t then 1 else S.C a b) ≤ 4611686018427387904
      have := h.cnt a b
      split <;> omega
    · show (if a = s then u else S.U a) = 0 → (if a = s ∧ b = t then 1 else S.C a b) = 0
      have := h.free a b
      by_cases ea : a = s
      · rw [if_pos ea]; intro e; omega
      · rw [if_neg ea, if_neg (fun e => ea e.1)]; exact this
  have hkend : Keeps (fun i => i = p ∨ i = m) w (setBlock W2 m o) := hk2.setBlock (.inr (.inr rfl)) o
  have A := hid (And.intro row (And.intro hf (And.intro hend hkend)))
  rw [hW2] at hrun cm2
  have HW := hid hW2
  clear hz hg h row hf hu0 hend hkend hB2 hm2 hk2 hm3 hput hW2
  go_enter Try.func9, Try.ntmps9
  go_wp2_with fail
  refine hrr.mono ?_
  rintro e w' ⟨rfl, rfl⟩
  go_wp2_with fail
  go_loopw [11] (fun i wr => ∃ j : Nat, 1 ≤ j ∧ j ≤ s ∧ i = .int .i64 (j : Int) ∧ wr = w) (fun i _ => 64 - (intOf i).toNat)
  case atStart => exact ⟨1, by omega, by omega, rfl, rfl⟩
  case round =>
    obtain ⟨j, hj1, hj2, rfl, rfl⟩ := hrel
    have i0 : (0 : Int) ≤ (j : Int) := by omega
    have i1 : (j : Int) < 64 := by omega
    have i2 : (j : Int) ≤ 63 := by omega
    have w1 : IntKind.i64.wrap ((j : Int) + 1) = j + 1 := by rw [IntKind.wrap_i64]; omega
    by_cases hj : j < s
    · have cj := A.out.1.blk.cell (j * 9)
      rw [A.out.1.uid j (by omega)] at cj
      have hne := A.out.2.1 j hj1 hj
      generalize S.U j = x at cj hne
      go_wp2_with fail
      go_roundw
      case rel => exact ⟨j + 1, by omega, by omega, by go_num, trivial⟩
      case measure => simp [intOf]; omega
    · have e : s = j := by omega
      subst e
      have i3 : (0 : Int) ≤ (t : Int) := by omega
      have i4 : (t : Int) < 8 := by omega
      go_wp2_with fail
      go_ret3
      rw [← HW.out]
      exact ⟨rfl, A.out.2.2.1, A.out.2.2.2⟩
/-- The numbers that are known, below n. -/
def allL (S : St) (n : Nat) : List Nat := (List.range n).filter fun s => decide (0 < S.U s)
theorem allL_succ (S : St) (n : Nat) : allL S (n + 1) = if 0 < S.U n then allL S n ++ [n] else allL S n := by
  unfold allL
  rw [List.range_succ, List.filter_append]
  by_cases h : 0 < S.U n <;> simp [h]
theorem allL_length (S : St) (n : Nat) : (allL S n).length ≤ n := by
  have := List.length_filter_le (fun s => decide (0 < S.U s)) (List.range n)
  rw [List.length_range] at this
  exact this
theorem int_info : (Try.prog.info? 3).map (fun i => (i.zero, i.size, i.bytes)) = some (some (.int .i64 0), 1, 8) := by kernel_rfl
theorem uid_nat (S : St) (h0 : S.U 0 = 0) (j : Nat) (hj : j < 64) : uidV S j = .tuple #[.int .i64 (S.U j), .bool (decide (0 < S.U j))] := by
  unfold uidV
  by_cases h1 : 1 ≤ j
  · rw [if_pos (by omega), Int.toNat_natCast]
  · obtain rfl : j = 0 := by omega
    rw [if_neg (by omega), h0]
    rfl
theorem all_any (w : World) (p m : Nat) (S : St) (h : At w p m S) :
    Calls Try.prog 11 #[.pointer (some ⟨p, 0, none⟩)] w fun e w' => ∃ v, e = .returned v ∧ Sl w' w.heap.size 3 1 v (allL S 64).length ((allL S 64).map ev) ∧ New w w' := by
  obtain ⟨ti, hi, hzz⟩ := Option.map_eq_some_iff.1 int_info
  simp only [Prod.mk.injEq] at hzz
  have HT := hid (And.intro hi hzz)
  clear hi hzz
  go_enter Try.func11, Try.ntmps11
  go_wp2_with fail
  go_loopw [3, 7] (fun v i wr => ∃ j : Nat, j ≤ 64 ∧ i = .int .i64 (j : Int) ∧ Sl wr w.heap.size 3 1 v (allL S j).length ((allL S j).map ev) ∧ New w wr) (fun _ i _ => 64 - (intOf i).toNat)
  case atStart => exact ⟨0, by omega, rfl, Sl.nil _ _ _ _, New.refl _⟩
  case round =>
    obtain ⟨j, hj, rfl, hsl, hn⟩ := hrel
    have w1 : IntKind.i64.wrap ((j : Int) + 1) = j + 1 := by rw [IntKind.wrap_i64]; omega
    have hns := hn.size
    have hall := allL_length S j
    by_cases hjl : j < 64
    · have hu := uid_any wr p m S (h.keeps (hn.keeps (fun _ => False)) (fun h => h) (fun h => h)) j
      rw [uid_nat S h.zero j hjl] at hu
      have hsucc := allL_succ S j
      by_cases hp : 0 < S.U j
      · rw [if_pos hp] at hsucc
        rw [decide_eq_true hp] at hu
        have HS := hid hsucc
        clear hsucc hp
        obtain ⟨hi, hz, hs, hbt⟩ := HT.out
        have hi' := hid hi
        have hz' := hid hz
        have hs' := hid hs
        have hbt' := hid hbt
        clear hi hz hs hbt
        go_wp2_with fail
        refine hu.mono ?_
        rintro e w2 ⟨rfl, n, rfl⟩
        go_wp2_with (at_builtin; refine wpList_append_sl _ rfl (.tmp 17) (.tmp 19) 31 rfl w.heap.size 3 ti (.int .i64 0) 1 8 Try.underlying31 hi'.out hz'.out hs'.out hbt'.out rfl (by decide) _ (allL S j).length _ rfl ((hsl.drewN n).alloc _) ⟨wr.heap.size, 0, none⟩ 1 1 [.int .i64 (j : Int)] rfl (by decide) rfl (cell_one_new _ _ _) (by simp [Value.oneCell']) (by unfold maxLen; omega) (by omega) (by simp; omega) ?_; intro v' w3 hs3 hg3 hb3)
        go_roundw
        case rel =>
          refine ⟨j + 1, by omega, by go_num, ?_, ?_⟩
          · rw [HS.out, List.length_append, List.map_append]
            exact hs3
          · exact New.grown ((hn.drewN n).alloc _) hg3 (fun k hk => (hsl.lt k hk).1)
        case measure => simp [intOf]; omega
      · rw [if_neg hp] at hsucc
        rw [decide_eq_false hp] at hu
        have HS := hid hsucc
        clear hsucc hp
        go_wp2_with fail
        refine hu.mono ?_
        rintro e w2 ⟨rfl, n, rfl⟩
        go_wp2_with fail
        go_roundw
        case rel => exact ⟨j + 1, by omega, by go_num, by rw [HS.out]; exact hsl.drewN n, hn.drewN n⟩
        case measure => simp [intOf]; omega
    · go_wp2_with fail
      have e64 : j = 64 := by omega
      subst e64
      go_ret
      exact ⟨_, rfl, hsl, hn⟩
end Go.Proofs.Ytgiipmccolmmdaa.Known
