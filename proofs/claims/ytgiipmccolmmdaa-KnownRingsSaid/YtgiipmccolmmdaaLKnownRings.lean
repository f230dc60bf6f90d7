/- The walk of KnownRings. -/
import Derived.Test.YtgiipmccolmmdaaKnownAwake
import Derived.Test.YtgiipmccolmmdaaOpenS
import Derived.Test.YtgiipmccolmmdaaArr
namespace Go.Proofs.Ytgiipmccolmmdaa.Law
open Go Go.RowKit Go.ChangeShapes Go.WideShapes Go.Proofs.Ytgiipmccolmmdaa.Kit Go.Proofs.Ytgiipmccolmmdaa.Known Go.Proofs.Ytgiipmccolmmdaa.Open
set_option linter.unusedSimpArgs false
set_option linter.unusedVariables false
def sum8 (c : Nat → Int) : Int := c 0 + c 1 + c 2 + c 3 + c 4 + c 5 + c 6 + c 7
def bump (c : Nat → Int) (t : Nat) (d : Int) : Nat → Int := fun b => if b = t then c t + d else c b
def R (c : Nat → Int) : St := if sum8 c = 0 then Known.new else ⟨fun a => if a = 1 then 77 else 0, fun a b => if a = 1 then c b else 0, [(77, 1)]⟩
structure Good (c : Nat → Int) : Prop where
  nn : ∀ b, 0 ≤ c b
  le : ∀ b, c b ≤ 100
  hi : ∀ b, 8 ≤ b → c b = 0
theorem lt8 {t : Nat} (h : t < 8) : t = 0 ∨ t = 1 ∨ t = 2 ∨ t = 3 ∨ t = 4 ∨ t = 5 ∨ t = 6 ∨ t = 7 := by omega
theorem sum8_bump (c : Nat → Int) (t : Nat) (d : Int) (ht : t < 8) : sum8 (bump c t d) = sum8 c + d := by
  rcases lt8 ht with rfl | rfl | rfl | rfl | rfl | rfl | rfl | rfl <;> simp [sum8, bump] <;> omega
theorem Good.zero {c : Nat → Int} (h : Good c) (h0 : sum8 c = 0) (b : Nat) : c b = 0 := by
  have h1 := h.nn
  unfold sum8 at h0
  have a0 := h1 0
  have a1 := h1 1
  have a2 := h1 2
  have a3 := h1 3
  have a4 := h1 4
  have a5 := h1 5
  have a6 := h1 6
  have a7 := h1 7
  by_cases hb : b < 8
  · rcases lt8 hb with rfl | rfl | rfl | rfl | rfl | rfl | rfl | rfl <;> omega
  · exact h.hi b (by omega)
theorem Good.le_sum {c : Nat → Int} (h : Good c) {b : Nat} (hb : b < 8) : c b ≤ sum8 c := by
  have h1 := h.nn
  unfold sum8
  have a0 := h1 0
  have a1 := h1 1
  have a2 := h1 2
  have a3 := h1 3
  have a4 := h1 4
  have a5 := h1 5
  have a6 := h1 6
  have a7 := h1 7
  rcases lt8 hb with rfl | rfl | rfl | rfl | rfl | rfl | rfl | rfl <;> omega
theorem Good.sum0 {c : Nat → Int} (h : Good c) : 0 ≤ sum8 c := Int.le_trans (h.nn 0) (h.le_sum (by decide))
theorem R_zero {c : Nat → Int} (h : sum8 c = 0) : R c = Known.new := if_pos h
theorem R_pos {c : Nat → Int} (h : sum8 c ≠ 0) : R c = ⟨fun a => if a = 1 then 77 else 0, fun a b => if a = 1 then c b else 0, [(77, 1)]⟩ := if_neg h
theorem R_add0 {c : Nat → Int} (g : Good c) (h : sum8 c = 0) {t : Nat} (ht : t < 8) : addS (R c) 77 1 t = R (bump c t 1) := by
  rw [R_pos (c := bump c t 1) (by rw [sum8_bump _ _ _ ht]; omega), R_zero h]
  unfold addS Known.new
  congr 1
  funext a b
  show (if a = 1 ∧ b = t then (1 : Int) else 0) = _
  by_cases ha : a = 1
  · rw [if_pos ha]
    unfold bump
    by_cases hb : b = t
    · rw [if_pos ⟨ha, hb⟩, if_pos hb, g.zero h]; rfl
    · rw [if_neg (fun e => hb e.2), if_neg hb, g.zero h]
  · rw [if_neg (fun e => ha e.1), if_neg ha]
theorem R_add1 {c : Nat → Int} (g : Good c) (h : sum8 c ≠ 0) {t : Nat} (ht : t < 8) : incS (R c) 1 t = R (bump c t 1) := by
  rw [R_pos (c := bump c t 1) (by rw [sum8_bump _ _ _ ht]; have := g.sum0; omega), R_pos h]
  unfold incS
  congr 1
  funext a b
  show (if a = 1 ∧ b = t then (if 1 = 1 then c t else 0) + 1 else if a = 1 then c b else 0) = _
  rw [if_pos (show 1 = 1 from rfl)]
  by_cases ha : a = 1
  · simp only [if_pos ha]
    unfold bump
    by_cases hb : b = t
    · rw [if_pos ⟨ha, hb⟩, if_pos hb]
    · rw [if_neg (fun e => hb e.2), if_neg hb]
  · rw [if_neg (fun e => ha e.1), if_neg ha, if_neg ha]
theorem R_last {c : Nat → Int} (g : Good c) {t : Nat} (ht : t < 8) (hc : 0 < c t) : lastB (R c) 1 t = decide (sum8 c - 1 = 0) := by
  have hs := g.le_sum ht
  rw [R_pos (by omega)]
  have e : ∀ i, (decS ⟨fun a => if a = 1 then 77 else 0, fun a b => if a = 1 then c b else 0, [(77, 1)]⟩ 1 t).C 1 i = bump c t (-1) i := by
    intro i
    show (if 1 = 1 ∧ i = t then c t - 1 else c i) = _
    unfold bump
    by_cases hb : i = t
    · rw [if_pos ⟨rfl, hb⟩, if_pos hb]; rfl
    · rw [if_neg (fun e => hb e.2), if_neg hb]
  have hsum := sum8_bump c t (-1) ht
  have h1 : ∀ b, 0 ≤ bump c t (-1) b := by
    intro b
    unfold bump
    have := g.nn b
    split <;> omega
  unfold lastB
  rw [Bool.eq_iff_iff, List.all_eq_true, decide_eq_true_iff]
  constructor
  · intro h
    have h2 : ∀ i, i < 8 → bump c t (-1) i = 0 := fun i hi => by
      have := h i (List.mem_range.2 hi)
      rw [e i] at this
      simpa using this
    have : sum8 (bump c t (-1)) = 0 := by
      unfold sum8
      rw [h2 0 (by decide), h2 1 (by decide), h2 2 (by decide), h2 3 (by decide), h2 4 (by decide), h2 5 (by decide), h2 6 (by decide), h2 7 (by decide)]
      rfl
    omega
  · intro h i hi
    rw [e i]
    have a0 := h1 0
    have a1 := h1 1
    have a2 := h1 2
    have a3 := h1 3
    have a4 := h1 4
    have a5 := h1 5
    have a6 := h1 6
    have a7 := h1 7
    have h0 : sum8 (bump c t (-1)) = 0 := by omega
    unfold sum8 at h0
    have : bump c t (-1) i = 0 := by
      rcases lt8 (List.mem_range.1 hi) with rfl | rfl | rfl | rfl | rfl | rfl | rfl | rfl <;> omega
    simp [this]
theorem R_drop {c : Nat → Int} (g : Good c) {t : Nat} (ht : t < 8) (hc : 0 < c t) : dropS (R c) 1 t = R (bump c t (-1)) := by
  unfold dropS
  rw [R_last g ht hc]
  have hs := g.le_sum ht
  have hsum := sum8_bump c t (-1) ht
  have h2 : decS (R c) 1 t = ⟨fun a => if a = 1 then 77 else 0, fun a b => if a = 1 then bump c t (-1) b else 0, [(77, 1)]⟩ := by
    rw [R_pos (by omega)]
    unfold decS
    congr 1
    funext a b
    show (if a = 1 ∧ b = t then (if 1 = 1 then c t else 0) - 1 else if a = 1 then c b else 0) = _
    rw [if_pos (show 1 = 1 from rfl)]
    by_cases ha : a = 1
    · simp only [if_pos ha]
      unfold bump
      by_cases hb : b = t
      · rw [if_pos ⟨ha, hb⟩, if_pos hb]; rfl
      · rw [if_neg (fun e => hb e.2), if_neg hb]
    · rw [if_neg (fun e => ha e.1), if_neg ha, if_neg ha]
  by_cases h : sum8 c - 1 = 0
  · rw [if_pos (decide_eq_true h), R_zero (c := bump c t (-1)) (by omega), h2]
    unfold forgetS Known.new
    congr 1
    · funext a
      show (if a = 1 then (0 : Int) else if a = 1 then 77 else 0) = 0
      by_cases ha : a = 1
      · rw [if_pos ha]
      · rw [if_neg ha, if_neg ha]
    · funext a b
      show (if a = 1 then (0 : Int) else if a = 1 then bump c t (-1) b else 0) = 0
      by_cases ha : a = 1
      · rw [if_pos ha]
      · rw [if_neg ha, if_neg ha]
  · rw [if_neg (by rw [decide_eq_false h]; decide), R_pos (c := bump c t (-1)) (by omega), h2]
theorem Good.bump {c : Nat → Int} (g : Good c) {t : Nat} (ht : t < 8) {d : Int} (h0 : 0 ≤ c t + d) (h1 : c t + d ≤ 100) : Good (bump c t d) := by
  refine ⟨fun b => ?_, fun b => ?_, fun b hb => ?_⟩ <;> unfold Law.bump <;> have := g.nn b <;> have := g.le b
  · split <;> omega
  · split <;> omega
  · rw [if_neg (by omega)]; exact g.hi b hb
theorem z8_run (w : World) : (zeroValue 41).run Try.prog w = .ok (.agg (zarr 8 (.int .i64 0))) w := by kernel_rfl
theorem add77 (w : World) (p m : Nat) {cs : Nat → Int} (g : Good cs) {j : Nat} (hj : sum8 cs = j) (h : At w p m (R cs)) {t : Nat} (ht : t < 8) :
    Calls Try.prog 9 #[.pointer (some ⟨p, 0, none⟩), .int .i64 77, .int .i64 (t : Int)] w fun e w' => e = .returned (.tuple #[.int .i64 1, .bool (decide ((j : Int) = 0)), .int .i64 0]) ∧ At w' p m (R (bump cs t 1)) ∧ Keeps (fun i => i = p ∨ i = m) w w' := by
  by_cases h0 : sum8 cs = 0
  · have q := add_new w p m _ h 77 1 t (by decide) (by decide) ht (by decide) (by decide) (by rw [R_zero h0]; rfl) (by rw [R_zero h0]; rfl) (fun a h1 h2 => by omega)
    rw [R_add0 g h0 ht] at q
    rw [decide_eq_true (by omega)]
    exact q
  · have q := add_again w p m _ h 77 1 t (by decide) (by decide) ht (by decide) (by decide) (by rw [R_pos h0]; rfl) (by rw [R_pos h0]; show (if 1 = 1 then cs t else 0) < _; rw [if_pos rfl]; have := g.le t; omega)
    rw [R_add1 g h0 ht] at q
    rw [decide_eq_false (by omega)]
    exact q
theorem drop77 (w : World) (p m : Nat) {cs : Nat → Int} (g : Good cs) (h : At w p m (R cs)) {t : Nat} (ht : t < 8) (hc : 0 < cs t) :
    Calls Try.prog 12 #[.pointer (some ⟨p, 0, none⟩), .int .i64 1, .int .i64 (t : Int)] w fun e w' => e = .returned (.tuple #[.bool (decide (sum8 cs - 1 = 0)), .int .i64 0]) ∧ At w' p m (R (bump cs t (-1))) ∧ Keeps (fun i => i = p ∨ i = m) w w' := by
  have hs := g.le_sum ht
  have q := drop_yes w p m _ h 1 t (by decide) (by decide) ht (by rw [R_pos (by omega)]; show 0 < (if 1 = 1 then cs t else 0); rw [if_pos rfl]; exact hc)
  rw [R_last g ht hc, R_drop g ht hc] at q
  exact q
theorem count77 (w : World) (p m : Nat) {cs : Nat → Int} (g : Good cs) (h : At w p m (R cs)) {t : Nat} (ht : t < 8) :
    Calls Try.prog 14 #[.pointer (some ⟨p, 0, none⟩), .int .i64 1, .int .i64 (t : Int)] w fun e w' => e = .returned (.int .i64 (cs t)) ∧ ∃ n, w' = w.drewN n := by
  have q := count_any w p m _ h 1 t
  have e : countV (R cs) 1 t = cs t := by
    unfold countV
    rw [if_pos (by omega)]
    by_cases h0 : sum8 cs = 0
    · rw [R_zero h0, g.zero h0]; rfl
    · rw [R_pos h0]
      show (if 1 = 1 then cs t else 0) = _
      rw [if_pos rfl]
  rw [e] at q
  exact q
set_option maxRecDepth 100000 in
set_option maxHeartbeats 4000000 in
theorem knownRings_walk (a : Option Addr) (c : Nat) (xs : List Int) (hx : ∀ x ∈ xs, 0 ≤ x ∧ x < 256) (y : Int) (hy0 : 0 ≤ y) (hy1 : y < 256) (W : World)
    (hc : 0 < xs.length → ∃ b o, a = some ⟨b, o, none⟩ ∧ b < W.heap.size ∧ ∀ i, i < xs.length → W.cell? ⟨b, o + i, none⟩ = some (.int .u8 (xs.getD i 0))) :
    Calls Try.prog 6 #[.slice a xs.length c, .int .u8 y] W fun e w' => e = .returned (.bool true) ∧ New W w' := by
  have H := hid hc
  have HX := hid hx
  clear hc hx
  go_enter Try.func6, Try.ntmps6
  go_wp2_with fail
  refine (awake_any W).mono ?_
  rintro e w0 ⟨rfl, n0⟩
  go_wp2_with fail
  refine (new_any w0).mono ?_
  rintro e w1 ⟨rfl, n1, a1⟩
  by_cases h100 : 100 < xs.length
  · go_wp2
    go_ret
    exact ⟨rfl, n0.step n1⟩
  have s0 := n0.size
  have s1 := a1.lt.1
  have hz8 := z8_run w1
  have hr0 := Arr.new w1 41 8 (.int .i64 0)
  have n2 : New W (w1.alloc (.cells (zarr 8 (.int .i64 0)) 41)) := (n0.step n1).alloc _
  have a2 : At (w1.alloc (.cells (zarr 8 (.int .i64 0)) 41)) (w0.heap.size + 1) w0.heap.size (R fun _ => 0) := a1.keeps ((Keeps.refl (fun _ => False) w1).alloc _) (fun h => h) (fun h => h)
  clear a1
  have A := hid (And.intro hr0 (And.intro n2 a2))
  clear hr0 n2 a2
  go_wp2_with fail
  go_loopw [7] (fun i wr => ∃ (j : Nat) (cs : Nat → Int), j ≤ xs.length ∧ i = .int .i64 (j : Int) ∧ Good cs ∧ sum8 cs = j ∧ Arr wr w1.heap.size 41 8 (fun k => .int .i64 (cs k)) ∧ At wr (w0.heap.size + 1) w0.heap.size (R cs) ∧ New W wr) (fun i _ => xs.length - (intOf i).toNat)
  case atStart =>
    obtain ⟨hr0, n2, a2⟩ := A.out
    exact ⟨0, fun _ => 0, Nat.zero_le _, rfl, ⟨fun _ => by decide, fun _ => by decide, fun _ _ => rfl⟩, rfl, hr0, a2, n2⟩
  case round =>
    clear A
    obtain ⟨j, cs, hj, rfl, hg, hsum, harr, hat, hnr⟩ := hrel
    by_cases hjl : j < xs.length
    · obtain ⟨b, o, rfl, hb, hcell⟩ := H.out (by omega)
      have hcj := hnr.cellK (hcell j hjl)
      have hxj : 0 ≤ xs.getD j 0 ∧ xs.getD j 0 < 256 := HX.out _ (by rw [List.getD_eq_getElem?_getD, List.getElem?_eq_getElem hjl]; exact List.getElem_mem hjl)
      generalize xs.getD j 0 = x at hcj hxj
      clear hcell
      have w1' : IntKind.i64.wrap ((j : Int) + 1) = j + 1 := by rw [IntKind.wrap_i64]; omega
      obtain ⟨t, ht⟩ : ∃ t : Nat, x % 8 = t := ⟨(x % 8).toNat, by omega⟩
      have ht8 : t < 8 := by omega
      have hadd := add77 wr _ _ hg hsum hat ht8
      rw [← ht] at hadd
      have hgn := hg.nn t
      have hgl := hg.le t
      have hls := hg.le_sum ht8
      have HS := hid hsum
      have HG := hid hg
      clear hg
      have hnn : (x % 8).toNat = t := by omega
      have hx0 : 0 ≤ x % 8 := by omega
      have hx8 : x % 8 < 8 := by omega
      have ht' := hid ht
      clear ht hsum
      go_wp2_with fail
      refine hadd.mono ?_
      rintro e w3 ⟨rfl, hat3, hk3⟩
      have harr3 := harr.keeps hk3 (by omega)
      have hct := harr3.cell ht8
      have hft := harr3.frozen t
      have w2' : IntKind.i64.wrap (cs t + 1) = cs t + 1 := by rw [IntKind.wrap_i64]; omega
      go_wp2_with fail
      · rename_i hbad
        exfalso
        revert hbad
        by_cases hj0 : j = 0 <;> simp [hj0]
      have hk : Keeps (fun i => i = w1.heap.size) w3 (w3.setCell ⟨w1.heap.size, t, none⟩ (.int .i64 (cs t + 1))) := Keeps.setCell (F := fun i => i = w1.heap.size) (Keeps.refl _ w3) (.inr rfl) _
      have hb1 : bump cs t 1 t = cs t + 1 := by unfold bump; rw [if_pos rfl]
      refine ⟨⟨j + 1, bump cs t 1, by omega, by go_num, HG.out.bump ht8 (by omega) (by have := HS.out; omega), by rw [sum8_bump _ _ _ ht8, HS.out]; omega, (harr3.set t _).congr fun i hi => ?_, hat3.keeps hk (by omega) (by omega), (hnr.kept hk3 (by omega)).kept hk (by omega)⟩, ?_⟩
      · unfold bump
        split <;> rfl
      · simp [intOf]; omega
    · have hx100 : xs.length ≤ 100 := by omega
      have hjx : j = xs.length := by omega
      have HJ := hid hjx
      have HG := hid hg
      have HS := hid hsum
      have A := hid (And.intro harr (And.intro hat hnr))
      have hnn : ¬ j < xs.length := hjl
      clear hg hjx hsum hz8 harr hat hnr
      go_wp2_with fail
      go_loopw [12, 13] (fun lf i wr => ∃ (j : Nat) (cs : Nat → Int), j ≤ 8 ∧ i = .int .i64 (j : Int) ∧ lf = .int .i64 (sum8 cs) ∧ Good cs ∧ sum8 cs ≤ 100 ∧ (∀ k t : Nat, k < j → ((k : Int) * 3 + y) % 8 = t → cs t = 0) ∧ Arr wr w1.heap.size 41 8 (fun k => .int .i64 (cs k)) ∧ At wr (w0.heap.size + 1) w0.heap.size (R cs) ∧ New W wr) (fun _ i _ => 8 - (intOf i).toNat)
      case atStart =>
        have hs := HS.out
        have hj := HJ.out
        exact ⟨0, cs, by omega, rfl, by rw [hs, hj], HG.out, by omega, fun k t h => absurd h (by omega), A.out.1, A.out.2.1, A.out.2.2⟩
      case round =>
        clear A HS HJ HG hnn hjl hj
        obtain ⟨j, cs, hj, rfl, rfl, hg, hsum, hz, harr, hat, hnr⟩ := hrel
        have w1' : IntKind.i64.wrap ((j : Int) + 1) = j + 1 := by rw [IntKind.wrap_i64]; omega
        by_cases hj8 : j < 8
        · have hj8' : (j : Int) < 8 := by omega
          obtain ⟨t, ht⟩ : ∃ t : Nat, ((j : Int) * 3 + y) % 8 = t := ⟨(((j : Int) * 3 + y) % 8).toNat, by omega⟩
          have ht8 : t < 8 := by omega
          have w2' : IntKind.i64.wrap ((j : Int) * 3) = j * 3 := by rw [IntKind.wrap_i64]; omega
          have w3' : IntKind.i64.wrap ((j : Int) * 3 + y) = j * 3 + y := by rw [IntKind.wrap_i64]; omega
          have w4' : ((j : Int) * 3 + y).tmod 8 = t := by rw [Int.tmod_eq_emod_of_nonneg (by omega)]; exact ht
          have HZ := hid hz
          have HT := hid ht
          clear hz ht
          have A := hid (And.intro hg (And.intro hsum (And.intro harr (And.intro hat hnr))))
          clear hg hsum harr hat hnr
          go_wp2_with fail
          go_loopw [12] (fun lf wr => ∃ (cs : Nat → Int), lf = .int .i64 (sum8 cs) ∧ Good cs ∧ sum8 cs ≤ 100 ∧ (∀ k t : Nat, k < j → ((k : Int) * 3 + y) % 8 = t → cs t = 0) ∧ Arr wr w1.heap.size 41 8 (fun k => .int .i64 (cs k)) ∧ At wr (w0.heap.size + 1) w0.heap.size (R cs) ∧ New W wr) (fun lf _ => (intOf lf).toNat)
          case atStart => exact ⟨cs, rfl, A.out.1, A.out.2.1, HZ.out, A.out.2.2.1, A.out.2.2.2.1, A.out.2.2.2.2⟩
          case round =>
            clear A HZ
            obtain ⟨cs, rfl, hg, hsum, hz, harr, hat, hnr⟩ := hrel
            have hct := harr.cell ht8
            have hft := harr.frozen t
            have i0 : (0 : Int) ≤ (t : Int) := by omega
            have i1 : (t : Int) < 8 := by omega
            have hgn := hg.nn t
            have hls := hg.le_sum ht8
            have hz' := hid hz
            have hg' := hid hg
            clear hz
            try simp only at hct
            by_cases hc : 0 < cs t
            · have hcount := fun n => count77 (wr.drewN n) _ _ hg (hat.drewN n) ht8
              have hdrop := fun n => drop77 (wr.drewN n) _ _ hg (hat.drewN n) ht8 hc
              have w5' : IntKind.i64.wrap (cs t - 1) = cs t - 1 := by rw [IntKind.wrap_i64]; omega
              have w6' : IntKind.i64.wrap (sum8 cs - 1) = sum8 cs - 1 := by rw [IntKind.wrap_i64]; omega
              have HC := hid (And.intro hcount hdrop)
              clear hcount hdrop hg
              go_wp2_with fail
              go_quiet (first | (go_at_call 14; exact Calls.quiet_of (HC.out.1 _)))
              go_wp2_with fail
              refine (HC.out.2 _).mono ?_
              rintro e w3 ⟨rfl, hat3, hk3⟩
              have harr3 := (harr.drewN nq).keeps hk3 (by omega)
              have hct := harr3.cell ht8
              have hft := harr3.frozen t
              try simp only at hct
              go_wp2_with fail
              · rename_i hbad
                exfalso
                revert hbad
                by_cases h1 : sum8 cs - 1 = 0 <;> simp [h1]
              have hk : Keeps (fun i => i = w1.heap.size) w3 (w3.setCell ⟨w1.heap.size, t, none⟩ (.int .i64 (cs t - 1))) := Keeps.setCell (F := fun i => i = w1.heap.size) (Keeps.refl _ w3) (.inr rfl) _
              have hs8 := sum8_bump cs t (-1) ht8
              refine ⟨⟨bump cs t (-1), ?_, hg'.out.bump ht8 (by omega) (by omega), by omega, fun k t' hk ht' => ?_, (harr3.set t _).congr fun i hi => ?_, hat3.keeps hk (by omega) (by omega), ((hnr.drewN nq).kept hk3 (by omega)).kept hk (by omega)⟩, ?_⟩
              · rw [hs8]; rfl
              · unfold bump
                split
                · rename_i e
                  have := hz'.out k t' hk ht'
                  rw [e] at this
                  omega
                · exact hz'.out k t' hk ht'
              · unfold bump
                split <;> rfl
              · simp [intOf]; omega
            · have hc0 : cs t = 0 := by omega
              have HC := hid hc0
              have A := hid (And.intro harr (And.intro hat hnr))
              clear hc0 hg harr hat hnr
              go_wp2_with fail
              go_roundw
              case rel =>
                refine ⟨j + 1, cs, by omega, by go_num, rfl, hg'.out, hsum, fun k t' hk ht' => ?_, A.out.1, A.out.2.1, A.out.2.2⟩
                by_cases e : k = j
                · subst e
                  have : t' = t := by have := HT.out; omega
                  rw [this]; exact HC.out
                · exact hz'.out k t' (by omega) ht'
              case measure => simp [intOf]; omega
        · have hj8' : j = 8 := by omega
          have h0 : ∀ t : Nat, t < 8 → cs t = 0 := by
            intro t ht
            rcases (show y % 8 = 0 ∨ y % 8 = 1 ∨ y % 8 = 2 ∨ y % 8 = 3 ∨ y % 8 = 4 ∨ y % 8 = 5 ∨ y % 8 = 6 ∨ y % 8 = 7 by omega) with h | h | h | h | h | h | h | h
            all_goals
              obtain ⟨k, hk8, hk⟩ : ∃ k : Nat, k < 8 ∧ ((k : Int) * 3 + y) % 8 = t := by
                first
                  | exact ⟨0, by decide, by omega⟩
                  | exact ⟨((t : Int) * 3 - 3 * (y % 8) + 24).toNat % 8, by omega, by omega⟩
              exact hz k t (by omega) hk
          have hs0 : sum8 cs = 0 := by
            unfold sum8
            rw [h0 0 (by decide), h0 1 (by decide), h0 2 (by decide), h0 3 (by decide), h0 4 (by decide), h0 5 (by decide), h0 6 (by decide), h0 7 (by decide)]
            rfl
          rw [R_zero hs0] at hat
          have hnum := number_any wr _ _ _ hat 77 (by decide) (by decide)
          have hall := all_any wr _ _ _ hat
          rw [show allL Known.new 64 = [] from by decide] at hall
          have HX2 := hid hnr
          have hlt := hj8
          clear h0 hs0 hz hg hsum hj8' harr hat hnr hj
          go_wp2_with fail
          refine hnum.mono ?_
          rintro e w3 ⟨rfl, rfl⟩
          go_wp2_with fail
          refine hall.mono ?_
          rintro e w4 ⟨v, rfl, hs, n4⟩
          obtain ⟨oa, oc, rfl⟩ : ∃ oa oc, v = .slice oa (([] : List Nat).length) oc := by
            rcases hs.2 with ⟨e, h0⟩ | ⟨g, o2, cap, cur, e, _⟩
            · exact ⟨none, 0, by rw [e, h0]⟩
            · exact ⟨_, _, e⟩
          have hl : ([] : List Nat).length = 0 := rfl
          rw [hl]
          go_wp2
          go_ret
          exact ⟨rfl, HX2.out.step n4⟩
theorem knownRings_row {H : Type} {enc : TypeId × Value → H} (W : World) {base : Nat}
    (v0 : Value) (d0 : DataW H) (p0 : List MemPlace) (k0 : Value.okWide Try.prog W .any base 22 v0) (h0 : DataW.Trod enc Try.prog W 0 (fun _ => true) true 22 v0 d0 p0) (l0 : ∀ x ∈ p0, x.block < W.heap.size)
    (v1 : Value) (d1 : DataW H) (p1 : List MemPlace) (k1 : Value.okWide Try.prog W .any base 5 v1) (h1 : DataW.Trod enc Try.prog W 0 (fun _ => true) true 5 v1 d1 p1) (l1 : ∀ x ∈ p1, x.block < W.heap.size)
    : Calls Try.prog 6 #[v0, v1] W fun e W' => e = .returned (.bool true) ∧ Below W.heap.size W W' := by
  obtain ⟨xs, ⟨a, c, rfl, hc⟩, hw, _⟩ := open_sints Try.underlying22 Try.underlying5 (by kernel_rfl) k0 h0
  obtain ⟨y, rfl, rfl, rfl, wy⟩ := open_int Try.underlying5 k1 h1
  have hy := wf_u8 wy
  exact knownRings_walk a c xs (fun x hx => wf_u8 (hw x hx)) y hy.1 hy.2 W hc
end Go.Proofs.Ytgiipmccolmmdaa.Law
