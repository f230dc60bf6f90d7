/- The walk of KnownFull. -/
import Derived.Test.YtgiipmccolmmdaaKnownAwake
import Derived.Test.YtgiipmccolmmdaaOpenS
import Derived.Test.YtgiipmccolmmdaaArr
namespace Go.Proofs.Ytgiipmccolmmdaa.Law
open Go Go.RowKit Go.ChangeShapes Go.WideShapes Go.Maps Go.Proofs.Ytgiipmccolmmdaa.Kit Go.Proofs.Ytgiipmccolmmdaa.Known Go.Proofs.Ytgiipmccolmmdaa.Open
set_option linter.unusedSimpArgs false
set_option linter.unusedVariables false
/-- The first n numbers are taken. -/
structure Filled (S : St) (n : Nat) : Prop where
  yes : ∀ a, 1 ≤ a → a ≤ n → S.U a = 1000 + a
  no : ∀ a, n < a → a < 64 → S.U a = 0
  c1 : ∀ a b, S.C a b ≤ 1
/-- Behind the drops, and i - 1 new ones. -/
structure Again (S : St) (fr : Nat → Bool) (i : Nat) : Prop where
  u : ∀ a, 1 ≤ a → a < 64 → S.U a = if fr a = true then (if a < i then 5000 + (a : Int) else 0) else 1000 + (a : Int)
theorem get_none {w : World} {p m : Nat} {S : St} (h : At w p m S) (u : Int) (hu : ∀ a, 1 ≤ a → a < 64 → S.U a ≠ u) : get? S.L u = none := by
  cases hg : get? S.L u with
  | none => rfl
  | some s =>
    have := (h.both u s).1 hg
    exact absurd this.2.2.1 (hu s this.1 this.2.1)
theorem Filled.add {S : St} {n : Nat} (h : Filled S n) (hn : n < 63) (t : Nat) : Filled (addS S (1000 + (n + 1 : Nat)) (n + 1) t) (n + 1) := by
  constructor
  · intro a h1 h2
    show (if a = n + 1 then _ else S.U a) = _
    by_cases e : a = n + 1
    · rw [if_pos e, e]
    · rw [if_neg e]; exact h.yes a h1 (by omega)
  · intro a h1 h2
    show (if a = n + 1 then _ else S.U a) = _
    rw [if_neg (by omega)]; exact h.no a (by omega) h2
  · intro a b
    show (if a = n + 1 ∧ b = t then (1 : Int) else S.C a b) ≤ 1
    have := h.c1 a b
    split <;> omega
theorem Again.full {w : World} {p m : Nat} {S : St} (h : At w p m S) {fr : Nat → Bool} (ha : Again S fr 64) : (allL S 64).length = 63 := by
  have e : allL S 64 = (List.range 64).filter fun s => decide (0 < s) := by
    unfold allL
    refine List.filter_congr fun s hs => ?_
    have h2 := List.mem_range.1 hs
    by_cases h0 : 0 < s
    · have := ha.u s h0 h2
      rw [decide_eq_true h0, decide_eq_true]
      rw [this, if_pos h2]
      split <;> omega
    · rw [decide_eq_false h0, decide_eq_false]
      obtain rfl : s = 0 := by omega
      rw [h.zero]; decide
  rw [e]
  decide
theorem Again.add {S : St} {fr : Nat → Bool} {i : Nat} (h : Again S fr i) (hf : fr i = true) : Again (addS S (5000 + (i : Int)) i 3) fr (i + 1) := by
  constructor
  intro a h1 h2
  show (if a = i then _ else S.U a) = _
  by_cases e : a = i
  · subst e
    rw [if_pos rfl, if_pos hf, if_pos (by omega)]
  · rw [if_neg e, h.u a h1 h2]
    split
    · by_cases h3 : a < i
      · rw [if_pos h3, if_pos (by omega)]
      · rw [if_neg h3, if_neg (by omega)]
    · rfl
theorem Again.skip {S : St} {fr : Nat → Bool} {i : Nat} (h : Again S fr i) (hf : fr i = false) : Again S fr (i + 1) := by
  constructor
  intro a h1 h2
  rw [h.u a h1 h2]
  by_cases e : a = i
  · subst e; rw [hf]; rfl
  · split
    · by_cases h3 : a < i
      · rw [if_pos h3, if_pos (by omega)]
      · rw [if_neg h3, if_neg (by omega)]
    · rfl
theorem Again.drop {S : St} {fr : Nat → Bool} (h : Again S fr 1) {n : Nat} : Again (forgetS S n) (fun k => if k = n then true else fr k) 1 := by
  constructor
  intro a h1 h2
  show (if a = n then 0 else S.U a) = _
  by_cases e : a = n
  · rw [if_pos e, if_pos (by rw [if_pos e]), if_neg (by omega)]
  · rw [if_neg e, h.u a h1 h2]
    simp only [if_neg e]
theorem Again.keep {S : St} {fr : Nat → Bool} (h : Again S fr 1) {n : Nat} (hf : fr n = true) : Again S (fun k => if k = n then true else fr k) 1 := by
  constructor
  intro a h1 h2
  rw [h.u a h1 h2]
  by_cases e : a = n
  · subst e; simp only [hf, if_true]
  · simp only [if_neg e]
theorem zb_run (w : World) : (zeroValue 29).run Try.prog w = .ok (.agg (zarr 64 (.bool false))) w := by kernel_rfl
set_option maxRecDepth 100000 in
set_option maxHeartbeats 4000000 in
theorem knownFull_walk (a : Option Addr) (c : Nat) (xs : List Int) (hx : ∀ x ∈ xs, 0 ≤ x ∧ x < 256) (W : World)
    (hc : 0 < xs.length → ∃ b o, a = some ⟨b, o, none⟩ ∧ b < W.heap.size ∧ ∀ i, i < xs.length → W.cell? ⟨b, o + i, none⟩ = some (.int .u8 (xs.getD i 0))) :
    Calls Try.prog 3 #[.slice a xs.length c] W fun e w' => e = .returned (.bool true) ∧ New W w' := by
  have H := hid hc
  have HX := hid hx
  clear hc hx
  go_enter Try.func3, Try.ntmps3
  go_wp2_with fail
  refine (awake_any W).mono ?_
  rintro e w0 ⟨rfl, n0⟩
  go_wp2_with fail
  refine (new_any w0).mono ?_
  rintro e w1 ⟨rfl, n1, a1⟩
  by_cases h100 : 100 < xs.length
  · go_wp2
    go_ret
    exact ⟨rfl, n0.step n1⟩
  have s0 := n0.size
  have hb : ∀ i, i = w0.heap.size + 1 ∨ i = w0.heap.size → W.heap.size ≤ i := by omega
  have A := hid (And.intro a1 (n0.step n1))
  clear a1 n1 n0
  go_wp2_with fail
  go_loopw [4] (fun i wr => ∃ (j : Nat) (S : St), j ≤ 63 ∧ i = .int .i64 ((j + 1 : Nat) : Int) ∧ Filled S j ∧ At wr (w0.heap.size + 1) w0.heap.size S ∧ New W wr) (fun i _ => 64 - (intOf i).toNat)
  case atStart =>
    exact ⟨0, Known.new, by omega, rfl, ⟨fun a h1 h2 => by omega, fun a h1 h2 => rfl, fun a b => by show (0 : Int) ≤ 1; decide⟩, A.out.1, A.out.2⟩
  case round =>
    clear A
    obtain ⟨j, S, hj, rfl, hfl, hat, hnr⟩ := hrel
    have w1' : IntKind.i64.wrap (((j + 1 : Nat) : Int) + 1) = ((j + 1 + 1 : Nat) : Int) := by rw [IntKind.wrap_i64]; omega
    by_cases hjl : j < 63
    · have hq := add_new wr _ _ _ hat (1000 + ((j + 1 : Nat) : Int)) (j + 1) ((j + 1) % 8) (by omega) (by omega) (by omega) (by omega) (by omega) (get_none hat _ (fun a h1 h2 e => by
        by_cases h3 : a ≤ j
        · rw [hfl.yes a h1 h3] at e; omega
        · rw [hfl.no a (by omega) h2] at e; omega)) (hfl.no _ (by omega) (by omega)) (fun a h1 h2 => by rw [hfl.yes a h1 (by omega)]; omega)
      have w2' : IntKind.i64.wrap (1000 + ((j + 1 : Nat) : Int)) = 1000 + ((j + 1 : Nat) : Int) := by rw [IntKind.wrap_i64]; omega
      have w3' : (((j + 1) % 8 : Nat) : Int) = ((j + 1 : Nat) : Int) % 8 := by omega
      rw [w3'] at hq
      have hi1 : ((j + 1 : Nat) : Int) ≤ 63 := by omega
      have hi0 : (0 : Int) ≤ ((j + 1 : Nat) : Int) := by omega
      have HF := hid hfl
      clear hfl
      go_wp2_with fail
      refine hq.mono ?_
      rintro e w3 ⟨rfl, hat3, hk3⟩
      go_wp2_with fail
      refine ⟨⟨j + 1, _, by omega, by go_num, HF.out.add hjl _, hat3, hnr.kept hk3 hb⟩, ?_⟩
      simp [intOf]; omega
    · have hj63 : j = 63 := by omega
      have e0 : Again S (fun _ => false) 1 := ⟨fun a h1 h2 => by rw [hfl.yes a h1 (by omega)]; rfl⟩
      have hn64 : ¬ ((j + 1 : Nat) : Int) ≤ 63 := by omega
      have q2 := add_full wr _ _ _ hat 5 0 (by decide) (by decide) (by decide) (get_none hat _ (fun a h1 h2 e => by rw [hfl.yes a h1 (by omega)] at e; omega)) (fun a h1 h2 => by rw [hfl.yes a h1 (by omega)]; omega)
      have hcl := hat.cnt 1 0
      have q3 := add_again wr _ _ _ hat 1001 1 0 (by decide) (by decide) (by decide) (by decide) (by decide) (by rw [hfl.yes 1 (by decide) (by omega)]; rfl) (by have := hfl.c1 1 0; omega)
      have HF := hid hfl
      clear hfl hj63 hj hjl
      go_wp2_with fail
      refine q2.mono ?_
      rintro e w3 ⟨rfl, rfl⟩
      go_wp2_with fail
      refine q3.mono ?_
      rintro e w3 ⟨rfl, hat3, hk3⟩
      have n3 := hnr.kept hk3 hb
      have s3 := hat3.lt.1
      have hz := zb_run w3
      have hr0 := Arr.new w3 29 64 (.bool false)
      have n4 : New W (w3.alloc (.cells (zarr 64 (.bool false)) 29)) := n3.alloc _
      have a4 : At (w3.alloc (.cells (zarr 64 (.bool false)) 29)) (w0.heap.size + 1) w0.heap.size (incS S 1 0) := hat3.keeps ((Keeps.refl (fun _ => False) w3).alloc _) (fun h => h) (fun h => h)
      have e4 : Again (incS S 1 0) (fun _ => false) 1 := ⟨e0.u⟩
      have A := hid (And.intro hr0 (And.intro n4 (And.intro a4 e4)))
      clear hr0 n4 a4 e4 e0 hat3 hat q2 q3 hcl hk3 hnr n3
      go_wp2_with fail
      go_loopw [15] (fun i wr => ∃ (j : Nat) (S : St) (fr : Nat → Bool), j ≤ xs.length ∧ i = .int .i64 (j : Int) ∧ Again S fr 1 ∧ Arr wr w3.heap.size 29 64 (fun k => .bool (fr k)) ∧ At wr (w0.heap.size + 1) w0.heap.size S ∧ New W wr) (fun i _ => xs.length - (intOf i).toNat)
      case atStart =>
        exact ⟨0, _, fun _ => false, Nat.zero_le _, rfl, A.out.2.2.2, A.out.1, A.out.2.2.1, A.out.2.1⟩
      case round =>
        clear A hz HF
        obtain ⟨j, S, fr, hj, rfl, hag, harr, hat, hnr⟩ := hrel
        by_cases hjl : j < xs.length
        · obtain ⟨b, o, rfl, hb', hcell⟩ := H.out (by omega)
          have hcj := hnr.cellK (hcell j hjl)
          have hxj : 0 ≤ xs.getD j 0 ∧ xs.getD j 0 < 256 := HX.out _ (by rw [List.getD_eq_getElem?_getD, List.getElem?_eq_getElem hjl]; exact List.getElem_mem hjl)
          generalize xs.getD j 0 = x at hcj hxj
          clear hcell
          have w1' : IntKind.i64.wrap ((j : Int) + 1) = j + 1 := by rw [IntKind.wrap_i64]; omega
          obtain ⟨t, ht⟩ : ∃ t : Nat, 1 + x % 63 = t := ⟨(1 + x % 63).toNat, by omega⟩
          have w2' : IntKind.i64.wrap (1 + x % 63) = t := by rw [IntKind.wrap_i64]; omega
          have ht64 : t < 64 := by omega
          have ht1 : 1 ≤ t := by omega
          have i0 : (0 : Int) ≤ (t : Int) := by omega
          have i1 : (t : Int) < 64 := by omega
          have hct := harr.cell ht64
          have hft := harr.frozen t
          have hut := hag.u t ht1 ht64
          have htt := hid ht
          clear ht
          try simp only at hct
          cases hfr : fr t with
          | true =>
            rw [hfr] at hct hut
            rw [if_pos rfl, if_neg (by omega)] at hut
            have hno := fun n => forget_no (wr.drewN n) _ _ _ (hat.drewN n) (t : Int) (by rw [Int.toNat_natCast, hut]; omega)
            have HN := hid hno
            clear hno
            go_wp2_with fail
            go_quiet (first | (go_at_call 10; exact Calls.quiet_of (HN.out _)))
            go_wp2_with fail
            have hk : Keeps (fun i => i = w3.heap.size) (wr.drewN nq) ((wr.drewN nq).setCell ⟨w3.heap.size, t, none⟩ (.bool true)) := Keeps.setCell (F := fun i => i = w3.heap.size) (Keeps.refl _ _) (.inr rfl) _
            refine ⟨⟨j + 1, S, fun k => if k = t then true else fr k, by omega, by go_num, hag.keep hfr, ((harr.drewN nq).set t (.bool true)).congr fun i hi => ?_, (hat.drewN nq).keeps hk (by omega) (by omega), (hnr.drewN nq).kept hk (by omega)⟩, ?_⟩
            · show (if i = t then Value.bool true else .bool (fr i)) = .bool (if i = t then true else fr i)
              split <;> rfl
            · simp [intOf]; omega
          | false =>
            rw [hfr] at hct hut
            rw [if_neg (by decide)] at hut
            have hard : Arr wr.drew w3.heap.size 29 64 (fun k => .bool (fr k)) := harr.drewN 1
            have hatd : At wr.drew (w0.heap.size + 1) w0.heap.size S := hat.drewN 1
            have hctd : wr.drew.cell? ⟨w3.heap.size, t, none⟩ = some (.bool false) := hct
            have hyes := forget_yes wr.drew _ _ _ hatd t ht1 ht64 (by rw [hut]; omega)
            have hkc : ∀ w4, Keeps (fun i => i = w0.heap.size + 1 ∨ i = w0.heap.size) wr.drew w4 → w4.cell? ⟨w3.heap.size, t, none⟩ = some (.bool false) ∧ w4.frozen? ⟨w3.heap.size, t, none⟩ = false := fun w4 hk => ⟨hk.cell hctd (by show ¬ (w3.heap.size = _ ∨ w3.heap.size = _); omega), (hard.keeps hk (by omega)).frozen t⟩
            have HN := hid (And.intro hyes hkc)
            clear hyes hatd hkc
            go_wp2_with fail
            go_region_with (first | (go_at_call 10; refine HN.out.1.mono ?_; rintro e w4 ⟨rfl, hat4, hk4⟩; have hct4 := (HN.out.2 _ hk4).1; have hft4 := (HN.out.2 _ hk4).2))
            all_goals
              go_wp2_with fail
              have hk : Keeps (fun i => i = w3.heap.size) w4 (w4.setCell ⟨w3.heap.size, t, none⟩ (.bool true)) := Keeps.setCell (F := fun i => i = w3.heap.size) (Keeps.refl _ w4) (.inr rfl) _
              refine ⟨⟨j + 1, _, fun k => if k = t then true else fr k, by omega, by go_num, hag.drop (n := t), ((hard.keeps hk4 (by omega)).set t (.bool true)).congr fun i hi => ?_, hat4.keeps hk (by omega) (by omega), ((hnr.drewN 1).kept hk4 hb).kept hk (by omega)⟩, ?_⟩
              · show (if i = t then Value.bool true else .bool (fr i)) = .bool (if i = t then true else fr i)
                split <;> rfl
              · simp [intOf]; omega
        · have A := hid (And.intro hag (And.intro harr (And.intro hat hnr)))
          clear hag harr hat hnr
          go_wp2_with fail
          go_loopw [17] (fun i wr => ∃ (j : Nat) (S : St), 1 ≤ j ∧ j ≤ 64 ∧ i = .int .i64 (j : Int) ∧ Again S fr j ∧ Arr wr w3.heap.size 29 64 (fun k => .bool (fr k)) ∧ At wr (w0.heap.size + 1) w0.heap.size S ∧ New W wr) (fun i _ => 64 - (intOf i).toNat)
          case atStart => exact ⟨1, S, by omega, by omega, rfl, A.out.1, A.out.2.1, A.out.2.2.1, A.out.2.2.2⟩
          case round =>
            clear A
            obtain ⟨j, S, hj1, hj, rfl, hag, harr, hat, hnr⟩ := hrel
            have w1' : IntKind.i64.wrap ((j : Int) + 1) = j + 1 := by rw [IntKind.wrap_i64]; omega
            have w2' : IntKind.i64.wrap (5000 + (j : Int)) = 5000 + j := by rw [IntKind.wrap_i64]; omega
            by_cases hjl : j < 64
            · have hcj := harr.cell hjl
              have i0 : (0 : Int) ≤ (j : Int) := by omega
              have i1 : (j : Int) < 64 := by omega
              have i2 : (j : Int) ≤ 63 := by omega
              try simp only at hcj
              cases hfr : fr j with
              | true =>
                rw [hfr] at hcj
                have hu := hag.u
                have q := add_new wr _ _ _ hat (5000 + (j : Int)) j 3 hj1 hjl (by decide) (by omega) (by omega) (get_none hat _ (fun a h1 h2 e => by
                  rw [hu a h1 h2] at e
                  split at e
                  · split at e <;> omega
                  · omega)) (by rw [hu j hj1 hjl, if_pos hfr, if_neg (by omega)]) (fun a h1 h2 => by
                  rw [hu a h1 (by omega), if_pos h2]
                  split <;> omega)
                have HQ := hid q
                clear q hu
                go_wp2_with fail
                refine HQ.out.mono ?_
                rintro e w4 ⟨rfl, hat4, hk4⟩
                go_wp2_with fail
                go_roundw
                case rel => exact ⟨j + 1, _, by omega, by omega, by go_num, hag.add hfr, harr.keeps hk4 (by omega), hat4, hnr.kept hk4 hb⟩
                case measure => simp [intOf]; omega
              | false =>
                rw [hfr] at hcj
                go_wp2_with fail
                go_roundw
                case rel => exact ⟨j + 1, _, by omega, by omega, by go_num, hag.skip hfr, harr, hat, hnr⟩
                case measure => simp [intOf]; omega
            · have e64 : j = 64 := by omega
              have hal := all_any wr _ _ _ hat
              rw [Again.full hat (e64 ▸ hag)] at hal
              have i2 : ¬ (j : Int) ≤ 63 := by omega
              have HE := hid e64
              clear e64 hjl hj
              go_wp2_with fail
              refine hal.mono ?_
              rintro e w4 ⟨v, rfl, hs, n4⟩
              obtain ⟨oa, oc, rfl⟩ : ∃ oa oc, v = .slice oa 63 oc := by
                rcases hs.2 with ⟨e, h0⟩ | ⟨g, o2, cap, cur, e, _⟩
                · exact absurd h0 (by decide)
                · exact ⟨_, _, e⟩
              go_wp2
              go_ret
              exact ⟨rfl, hnr.step n4⟩
theorem knownFull_row {H : Type} {enc : TypeId × Value → H} (W : World) {base : Nat}
    (v0 : Value) (d0 : DataW H) (p0 : List MemPlace) (k0 : Value.okWide Try.prog W .any base 22 v0) (h0 : DataW.Trod enc Try.prog W 0 (fun _ => true) true 22 v0 d0 p0) (l0 : ∀ x ∈ p0, x.block < W.heap.size)
    : Calls Try.prog 3 #[v0] W fun e W' => e = .returned (.bool true) ∧ Below W.heap.size W W' := by
  obtain ⟨xs, ⟨a, c, rfl, hc⟩, hw, _⟩ := open_sints Try.underlying22 Try.underlying5 (by kernel_rfl) k0 h0
  exact knownFull_walk a c xs (fun x hx => wf_u8 (hw x hx)) W hc
end Go.Proofs.Ytgiipmccolmmdaa.Law
