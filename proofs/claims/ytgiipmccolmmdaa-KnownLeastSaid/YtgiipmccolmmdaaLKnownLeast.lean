/- The walk of KnownLeast. -/
import Derived.Test.YtgiipmccolmmdaaKnownAwake
import Derived.Test.YtgiipmccolmmdaaOpenS
import Derived.Test.YtgiipmccolmmdaaArr
namespace Go.Proofs.Ytgiipmccolmmdaa.Law
open Go Go.RowKit Go.ChangeShapes Go.WideShapes Go.Maps Go.Proofs.Ytgiipmccolmmdaa.Kit Go.Proofs.Ytgiipmccolmmdaa.Known Go.Proofs.Ytgiipmccolmmdaa.Open
set_option linter.unusedSimpArgs false
set_option linter.unusedVariables false
/-- Who has a number. -/
structure Ls (S : St) (f : Nat → Int) (nx : Int) : Prop where
  u : ∀ a, 1 ≤ a → a < 64 → S.U a = f a
  c : ∀ a b, 1 ≤ a → a < 64 → b < 8 → S.C a b = if b = 4 ∧ f a ≠ 0 then 1 else 0
  le : ∀ a, 0 ≤ f a ∧ f a ≤ nx
/-- The least free number above k. -/
def Want (f : Nat → Int) (k v : Nat) : Prop := (v = 0 ∧ ∀ a, k < a → a < 64 → f a ≠ 0) ∨ (k < v ∧ v < 64 ∧ f v = 0 ∧ ∀ a, k < a → a < v → f a ≠ 0)
theorem Want.here {f : Nat → Int} {k v : Nat} (h : Want f (k + 1) v) (hk : k + 1 < 64) (h0 : f (k + 1) = 0) : Want f k (k + 1) := .inr ⟨by omega, hk, h0, fun a h1 h2 => by omega⟩
theorem Want.on {f : Nat → Int} {k v : Nat} (h : Want f (k + 1) v) (h0 : f (k + 1) ≠ 0) : Want f k v := by
  rcases h with ⟨h1, h2⟩ | ⟨h1, h2, h3, h4⟩
  · exact .inl ⟨h1, fun a ha hb => by
      by_cases e : a = k + 1
      · rw [e]; exact h0
      · exact h2 a (by omega) hb⟩
  · exact .inr ⟨by omega, h2, h3, fun a ha hb => by
      by_cases e : a = k + 1
      · rw [e]; exact h0
      · exact h4 a (by omega) hb⟩
theorem get_none {w : World} {p m : Nat} {S : St} (h : At w p m S) (u : Int) (hu : ∀ a, 1 ≤ a → a < 64 → S.U a ≠ u) : get? S.L u = none := by
  cases hg : get? S.L u with
  | none => rfl
  | some s =>
    have := (h.both u s).1 hg
    exact absurd this.2.2.1 (hu s this.1 this.2.1)
def fset (f : Nat → Int) (v : Nat) (x : Int) : Nat → Int := fun k => if k = v then x else f k
theorem Ls.up {S : St} {f : Nat → Int} {nx : Int} (h : Ls S f nx) : Ls S f (nx + 1) := ⟨h.u, h.c, fun a => by have := h.le a; omega⟩
theorem Ls.add {S : St} {f : Nat → Int} {nx : Int} (h : Ls S f nx) (h0 : 0 ≤ nx) {v : Nat} : f v = 0 → Ls (addS S (nx + 1) v 4) (fset f v (nx + 1)) (nx + 1) := by
  intro hv
  refine ⟨fun a h1 h2 => ?_, fun a b h1 h2 h3 => ?_, fun a => ?_⟩
  · show (if a = v then _ else S.U a) = (if a = v then _ else f a)
    split
    · rfl
    · exact h.u a h1 h2
  · show (if a = v ∧ b = 4 then (1 : Int) else S.C a b) = (if b = 4 ∧ (if a = v then nx + 1 else f a) ≠ 0 then 1 else 0)
    rw [h.c a b h1 h2 h3]
    by_cases e : a = v
    · subst e
      by_cases e4 : b = 4
      · rw [if_pos ⟨rfl, e4⟩, if_pos ⟨e4, by rw [if_pos rfl]; omega⟩]
      · rw [if_neg (fun e => e4 e.2), if_neg (fun e => e4 e.1), if_neg (fun e => e4 e.1)]
    · rw [if_neg (fun h => e h.1)]
      simp only [if_neg e]
  · show 0 ≤ (if a = v then _ else f a) ∧ (if a = v then _ else f a) ≤ _
    have := h.le a
    split <;> omega
theorem Ls.last {S : St} {f : Nat → Int} {nx : Int} (h : Ls S f nx) {v : Nat} (h1 : 1 ≤ v) (h2 : v < 64) (hf : f v ≠ 0) : lastB S v 4 = true := by
  unfold lastB
  rw [List.all_eq_true]
  intro i hi
  have h3 := List.mem_range.1 hi
  show ((if v = v ∧ i = 4 then S.C v 4 - 1 else S.C v i) == 0) = true
  rw [h.c v 4 h1 h2 (by decide), h.c v i h1 h2 h3]
  by_cases e : i = 4
  · rw [if_pos ⟨rfl, e⟩, if_pos ⟨rfl, hf⟩]; rfl
  · rw [if_neg (fun h => e h.2), if_neg (fun h => e h.1)]; rfl
theorem Ls.drop {S : St} {f : Nat → Int} {nx : Int} (h : Ls S f nx) (h0 : 0 ≤ nx) {v : Nat} (h1 : 1 ≤ v) (h2 : v < 64) (hf : f v ≠ 0) : Ls (dropS S v 4) (fset f v 0) nx := by
  unfold dropS
  rw [if_pos (h.last h1 h2 hf)]
  refine ⟨fun a h1 h2 => ?_, fun a b h1 h2 h3 => ?_, fun a => ?_⟩
  · show (if a = v then 0 else S.U a) = (if a = v then _ else f a)
    split
    · rfl
    · exact h.u a h1 h2
  · show (if a = v then (0 : Int) else if a = v ∧ b = 4 then S.C v 4 - 1 else S.C a b) = (if b = 4 ∧ (if a = v then 0 else f a) ≠ 0 then 1 else 0)
    by_cases e : a = v
    · rw [if_pos e, if_neg (by rw [if_pos e]; exact fun h => h.2 rfl)]
    · rw [if_neg e, if_neg (fun h => e h.1), h.c a b h1 h2 h3]
      simp only [if_neg e]
  · show 0 ≤ (if a = v then _ else f a) ∧ (if a = v then _ else f a) ≤ _
    have := h.le a
    split <;> omega
theorem Ls.none {S : St} {f : Nat → Int} {nx : Int} (h : Ls S f nx) {v : Nat} (hf : f v = 0) : Ls S (fset f v 0) nx := by
  have e : fset f v 0 = f := by
    funext a
    show (if a = v then 0 else f a) = f a
    split
    · rename_i e; rw [e, hf]
    · rfl
  rw [e]; exact h
theorem z64_run (w : World) : (zeroValue 39).run Try.prog w = .ok (.agg (zarr 64 (.int .i64 0))) w := by kernel_rfl
set_option maxRecDepth 100000 in
set_option maxHeartbeats 4000000 in
theorem knownLeast_walk (a : Option Addr) (c : Nat) (xs : List Int) (hx : ∀ x ∈ xs, 0 ≤ x ∧ x < 256) (W : World)
    (hc : 0 < xs.length → ∃ b o, a = some ⟨b, o, none⟩ ∧ b < W.heap.size ∧ ∀ i, i < xs.length → W.cell? ⟨b, o + i, none⟩ = some (.int .u8 (xs.getD i 0))) :
    Calls Try.prog 5 #[.slice a xs.length c] W fun e w' => e = .returned (.bool true) ∧ New W w' := by
  have H := hid hc
  have HX := hid hx
  clear hc hx
  go_enter Try.func5, Try.ntmps5
  go_wp2_with fail
  refine (awake_any W).mono ?_
  rintro e w0 ⟨rfl, n0⟩
  go_wp2_with fail
  refine (new_any w0).mono ?_
  rintro e w1 ⟨rfl, n1, a1⟩
  by_cases h200 : 200 < xs.length
  · go_wp2
    go_ret
    exact ⟨rfl, n0.step n1⟩
  have s0 := n0.size
  have s1 := a1.lt.1
  have hb : ∀ i, i = w0.heap.size + 1 ∨ i = w0.heap.size → W.heap.size ≤ i := by omega
  have hz := z64_run w1
  have hr0 := Arr.new w1 39 64 (.int .i64 0)
  have n2 : New W (w1.alloc (.cells (zarr 64 (.int .i64 0)) 39)) := (n0.step n1).alloc _
  have a2 : At (w1.alloc (.cells (zarr 64 (.int .i64 0)) 39)) (w0.heap.size + 1) w0.heap.size Known.new := a1.keeps ((Keeps.refl (fun _ => False) w1).alloc _) (fun h => h) (fun h => h)
  have A := hid (And.intro hr0 (And.intro n2 a2))
  clear hr0 n2 a2 a1
  go_wp2_with fail
  go_loopw [5, 6] (fun nx i wr => ∃ (j : Nat) (f : Nat → Int) (S : St) (z : Int), j ≤ xs.length ∧ i = .int .i64 (j : Int) ∧ nx = .int .i64 z ∧ 100 ≤ z ∧ z ≤ 100 + j ∧ Ls S f z ∧ Arr wr w1.heap.size 39 64 (fun k => .int .i64 (f k)) ∧ At wr (w0.heap.size + 1) w0.heap.size S ∧ New W wr) (fun _ i _ => xs.length - (intOf i).toNat)
  case atStart =>
    obtain ⟨hr0, n2, a2⟩ := A.out
    exact ⟨0, fun _ => 0, Known.new, 100, Nat.zero_le _, rfl, rfl, by decide, by decide, ⟨fun a h1 h2 => rfl, fun a b h1 h2 h3 => by rw [if_neg (fun h => h.2 rfl)]; rfl, fun a => by omega⟩, hr0, a2, n2⟩
  case round =>
    clear A hz
    obtain ⟨j, f, S, z, hj, rfl, rfl, hz0, hz1, hls, harr, hat, hnr⟩ := hrel
    have w1' : IntKind.i64.wrap ((j : Int) + 1) = j + 1 := by rw [IntKind.wrap_i64]; omega
    have w2' : IntKind.i64.wrap (z + 1) = z + 1 := by rw [IntKind.wrap_i64]; omega
    by_cases hjl : j < xs.length
    · obtain ⟨b, o, rfl, hb', hcell⟩ := H.out (by omega)
      have hcj := hnr.cellK (hcell j hjl)
      have hxj : 0 ≤ xs.getD j 0 ∧ xs.getD j 0 < 256 := HX.out _ (by rw [List.getD_eq_getElem?_getD, List.getElem?_eq_getElem hjl]; exact List.getElem_mem hjl)
      generalize xs.getD j 0 = x at hcj hxj
      clear hcell
      by_cases hd : Go.bits .and .u8 x 1 = 0
      · have HL := hid hls
        clear hls
        go_wp2_with fail
        go_loopw [7, 8] (fun wt n wr => ∃ k v : Nat, k ≤ 63 ∧ n = .int .i64 (k : Int) ∧ wt = .int .i64 (v : Int) ∧ Want f k v ∧ Arr wr w1.heap.size 39 64 (fun k => .int .i64 (f k)) ∧ At wr (w0.heap.size + 1) w0.heap.size S ∧ New W wr) (fun _ n _ => (intOf n).toNat)
        case atStart => exact ⟨63, 0, by omega, rfl, rfl, .inl ⟨rfl, fun a h1 h2 => by omega⟩, harr, hat, hnr⟩
        case round =>
          clear harr hat hnr hcj
          obtain ⟨k, v, hk, rfl, rfl, hw, harr, hat, hnr⟩ := hrel
          by_cases hk1 : 1 ≤ k
          · obtain ⟨k, rfl⟩ : ∃ k', k = k' + 1 := ⟨k - 1, by omega⟩
            have hck := harr.cell (i := k + 1) (by omega)
            have hk1' : (1 : Int) ≤ ((k + 1 : Nat) : Int) := by omega
            have i0 : (0 : Int) ≤ ((k + 1 : Nat) : Int) := by omega
            have i1 : ((k + 1 : Nat) : Int) < 64 := by omega
            have w3' : IntKind.i64.wrap (((k + 1 : Nat) : Int) - 1) = (k : Int) := by rw [IntKind.wrap_i64]; omega
            try simp only at hck
            by_cases h0 : f (k + 1) = 0
            · have hw' := hw.here (by omega) h0
              rw [h0] at hck
              go_wp2_with fail
              go_roundw
              case rel => exact ⟨k, k + 1, by omega, rfl, rfl, hw', harr, hat, hnr⟩
              case measure => simp [intOf]
            · have hw' := hw.on h0
              go_wp2_with fail
              go_roundw
              case rel => exact ⟨k, v, by omega, rfl, rfl, hw', harr, hat, hnr⟩
              case measure => simp [intOf]
          · have hk0 : k = 0 := by omega
            have hk1' : ¬ (1 : Int) ≤ (k : Int) := by omega
            rw [hk0] at hw
            have HK := hid hk0
            clear hk0 hk1 hk
            have hu := HL.out.u
            have hle := HL.out.le
            have hg : get? S.L (z + 1) = none := get_none hat _ (fun a h1 h2 e => by
              rw [hu a h1 h2] at e
              have := hle a
              omega)
            rcases hw with ⟨hv, hall⟩ | ⟨hv, hv64, hfv, hall⟩
            · have q := add_full wr _ _ _ hat (z + 1) 4 (by decide) (by omega) (by omega) hg (fun a h1 h2 => by rw [hu a h1 h2]; exact hall a h1 h2)
              subst hv
              have Q := hid q
              clear q hu hle hg
              go_wp2_with fail
              refine Q.out.mono ?_
              rintro e w4 ⟨rfl, rfl⟩
              go_wp2_with fail
              refine ⟨⟨j + 1, f, S, z + 1, by omega, by go_num, rfl, by omega, by omega, HL.out.up, harr, hat, hnr⟩, ?_⟩
              simp [intOf]; omega
            · have q := add_new wr _ _ _ hat (z + 1) v 4 (by omega) hv64 (by decide) (by omega) (by omega) hg (by rw [hu v (by omega) hv64, hfv]) (fun a h1 h2 => by rw [hu a h1 (by omega)]; exact hall a h1 h2)
              have Q := hid q
              have hv0 : ¬ (v : Int) = 0 := by omega
              have i0 : (0 : Int) ≤ (v : Int) := by omega
              have i1 : (v : Int) < 64 := by omega
              clear q hu hle hg
              go_wp2_with fail
              refine Q.out.mono ?_
              rintro e w4 ⟨rfl, hat4, hk4⟩
              have harr4 := harr.keeps hk4 (by omega)
              have hcv := harr4.cell hv64
              have hfz := harr4.frozen v
              try simp only at hcv
              go_wp2_with fail
              have hk : Keeps (fun i => i = w1.heap.size) w4 (w4.setCell ⟨w1.heap.size, v, none⟩ (.int .i64 (z + 1))) := Keeps.setCell (F := fun i => i = w1.heap.size) (Keeps.refl _ _) (.inr rfl) _
              refine ⟨⟨j + 1, fset f v (z + 1), _, z + 1, by omega, by go_num, rfl, by omega, by omega, HL.out.add (by omega) hfv, (harr4.set v _).congr fun i hi => ?_, hat4.keeps hk (by omega) (by omega), (hnr.kept hk4 hb).kept hk (by omega)⟩, ?_⟩
              · show (if i = v then Value.int .i64 (z + 1) else .int .i64 (f i)) = .int .i64 (if i = v then z + 1 else f i)
                split <;> rfl
              · simp [intOf]; omega
      · obtain ⟨t, ht⟩ : ∃ t : Nat, 1 + x / 2 % 8 = t := ⟨(1 + x / 2 % 8).toNat, by omega⟩
        have ht1 : 1 ≤ t := by omega
        have ht64 : t < 64 := by omega
        have i0 : (0 : Int) ≤ (t : Int) := by omega
        have i1 : (t : Int) < 64 := by omega
        have w4' : IntKind.i64.wrap (1 + x / 2 % 8) = t := by rw [IntKind.wrap_i64]; omega
        have htt := hid ht
        clear ht
        by_cases hf : f t = 0
        · have q := drop_none wr _ _ _ hat (t : Int) 4 (by decide) (by
            unfold countV
            rw [if_pos (by omega), Int.toNat_natCast]
            show S.C t 4 = 0
            rw [hls.c t 4 ht1 ht64 (by decide), if_neg (fun h => h.2 hf)])
          have hct := harr.cell ht64
          have hft := harr.frozen t
          try simp only at hct
          rw [hf] at hct
          have Q := hid q
          have HF := hid hf
          clear q hf
          go_wp2_with fail
          refine Q.out.mono ?_
          rintro e w4 ⟨rfl, n, rfl⟩
          go_wp2_with fail
          have hk : Keeps (fun i => i = w1.heap.size) (wr.drewN n) ((wr.drewN n).setCell ⟨w1.heap.size, t, none⟩ (.int .i64 0)) := Keeps.setCell (F := fun i => i = w1.heap.size) (Keeps.refl _ _) (.inr rfl) _
          refine ⟨⟨j + 1, fset f t 0, S, z, by omega, by go_num, rfl, by omega, by omega, hls.none HF.out, ((harr.drewN n).set t _).congr fun i hi => ?_, (hat.drewN n).keeps hk (by omega) (by omega), (hnr.drewN n).kept hk (by omega)⟩, ?_⟩
          · show (if i = t then Value.int .i64 0 else .int .i64 (f i)) = .int .i64 (if i = t then 0 else f i)
            split <;> rfl
          · simp [intOf]; omega
        · have q := drop_yes wr _ _ _ hat t 4 ht1 ht64 (by decide) (by rw [hls.c t 4 ht1 ht64 (by decide), if_pos ⟨rfl, hf⟩]; decide)
          rw [hls.last ht1 ht64 hf] at q
          have Q := hid q
          clear q
          go_wp2_with fail
          refine Q.out.mono ?_
          rintro e w4 ⟨rfl, hat4, hk4⟩
          have harr4 := harr.keeps hk4 (by omega)
          have hct := harr4.cell ht64
          have hft := harr4.frozen t
          try simp only at hct
          go_wp2_with fail
          · rename_i hbad
            exfalso
            revert hbad
            simp [hf]
          have hk : Keeps (fun i => i = w1.heap.size) w4 (w4.setCell ⟨w1.heap.size, t, none⟩ (.int .i64 0)) := Keeps.setCell (F := fun i => i = w1.heap.size) (Keeps.refl _ _) (.inr rfl) _
          refine ⟨⟨j + 1, fset f t 0, _, z, by omega, by go_num, rfl, by omega, by omega, hls.drop (by omega) ht1 ht64 hf, (harr4.set t _).congr fun i hi => ?_, hat4.keeps hk (by omega) (by omega), (hnr.kept hk4 hb).kept hk (by omega)⟩, ?_⟩
          · show (if i = t then Value.int .i64 0 else .int .i64 (f i)) = .int .i64 (if i = t then 0 else f i)
            split <;> rfl
          · simp [intOf]; omega
    · have A := hid (And.intro hls (And.intro harr (And.intro hat hnr)))
      clear hls harr hat hnr
      go_wp2_with fail
      go_loopw [15] (fun i wr => ∃ (j : Nat), 1 ≤ j ∧ j ≤ 64 ∧ i = .int .i64 (j : Int) ∧ Arr wr w1.heap.size 39 64 (fun k => .int .i64 (f k)) ∧ At wr (w0.heap.size + 1) w0.heap.size S ∧ New W wr) (fun i _ => 64 - (intOf i).toNat)
      case atStart => exact ⟨1, by omega, by omega, rfl, A.out.2.1, A.out.2.2.1, A.out.2.2.2⟩
      case round =>
        obtain ⟨j, hj1, hj, rfl, harr, hat, hnr⟩ := hrel
        have w1' : IntKind.i64.wrap ((j : Int) + 1) = j + 1 := by rw [IntKind.wrap_i64]; omega
        by_cases hjl : j < 64
        · have hu := fun n => uid_any (wr.drewN n) _ _ _ (hat.drewN n) j
          rw [uid_nat S hat.zero j hjl, A.out.1.u j hj1 hjl] at hu
          have hf0 := (A.out.1.le j).1
          have hcj := harr.cell hjl
          have i0 : (0 : Int) ≤ (j : Int) := by omega
          have i1 : (j : Int) < 64 := by omega
          have i2 : (j : Int) ≤ 63 := by omega
          try simp only at hcj
          by_cases hf : f j = 0
          · rw [hf, show decide (0 < (0 : Int)) = false from rfl] at hu
            rw [hf] at hcj
            have Q := hid (hu 0)
            clear hu hf hf0
            go_wp2_with fail
            refine Q.out.mono ?_
            rintro e w4 ⟨rfl, n, rfl⟩
            go_wp2_with fail
            go_roundw
            case rel => exact ⟨j + 1, by omega, by omega, by go_num, harr.drewN n, hat.drewN n, hnr.drewN n⟩
            case measure => simp [intOf]; omega
          · rw [decide_eq_true (show 0 < f j by omega)] at hu
            have Q := hid (hu 0)
            clear hu
            go_wp2_with fail
            refine Q.out.mono ?_
            rintro e w4 ⟨rfl, n, rfl⟩
            go_wp2_with fail
            · rename_i hbad
              exfalso
              revert hbad
              simp [hf]
            refine ⟨⟨j + 1, by omega, by omega, by go_num, harr.drewN n, hat.drewN n, hnr.drewN n⟩, ?_⟩
            simp [intOf]; omega
        · have i2 : ¬ (j : Int) ≤ 63 := by omega
          go_wp2_with fail
          go_ret
          exact ⟨rfl, hnr⟩
theorem knownLeast_row {H : Type} {enc : TypeId × Value → H} (W : World) {base : Nat}
    (v0 : Value) (d0 : DataW H) (p0 : List MemPlace) (k0 : Value.okWide Try.prog W .any base 22 v0) (h0 : DataW.Trod enc Try.prog W 0 (fun _ => true) true 22 v0 d0 p0) (l0 : ∀ x ∈ p0, x.block < W.heap.size)
    : Calls Try.prog 5 #[v0] W fun e W' => e = .returned (.bool true) ∧ Below W.heap.size W W' := by
  obtain ⟨xs, ⟨a, c, rfl, hc⟩, hw, _⟩ := open_sints Try.underlying22 Try.underlying5 (by kernel_rfl) k0 h0
  exact knownLeast_walk a c xs (fun x hx => wf_u8 (hw x hx)) W hc
end Go.Proofs.Ytgiipmccolmmdaa.Law
