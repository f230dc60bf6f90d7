/- The walk of FramesWords. -/
import Derived.Test.YtfgfhaknecolpaaFramesAwake
import Derived.Test.YtfgfhaknecolpaaWd
import Derived.Test.YtfgfhaknecolpaaOpenS
namespace Go.Proofs.Ytfgfhaknecolpaa.Law
open Go Go.RowKit Go.ChangeShapes Go.WideShapes Go.Proofs.Ytfgfhaknecolpaa.Kit Go.Proofs.Ytfgfhaknecolpaa.Wd Go.Proofs.Ytfgfhaknecolpaa.Frames Go.Proofs.Ytfgfhaknecolpaa.Point Go.Proofs.Ytfgfhaknecolpaa.Open
set_option linter.unusedSimpArgs false
set_option linter.unusedVariables false
theorem upd_upd (S : Nat → List Fr) (r : Nat) (L M : List Fr) : upd (upd S r L) r M = upd S r M := by
  funext k
  show (if k = r then M else if k = r then L else S k) = (if k = r then M else S k)
  split <;> rfl
theorem upd_at (S : Nat → List Fr) (r : Nat) (L : List Fr) : upd S r L r = L := if_pos rfl
abbrev two (x : Fr) : Nat → List Fr := upd nothing 2 ([] ++ [x])
theorem z7_run (w : World) : (zeroValue 37).run Try.prog w = .ok (.agg (zarr 7 (.int .u64 0))) w := by kernel_rfl
theorem Arr.notFT {w : World} {base g n : Nat} {f : Nat → Value} (h : Arr w g 37 n f) : ¬ FT w base g := by
  obtain ⟨arr, hb, _⟩ := h
  exact FT.not hb (by decide) (by decide)
set_option maxRecDepth 100000 in
set_option maxHeartbeats 4000000 in
theorem framesWords_walk (a : Option Addr) (n c : Nat) (f : Nat → Int) (hf : ∀ i, i < n * 2 → 0 ≤ f i ∧ f i < 256) (y : Int) (hy0 : 0 ≤ y) (hy1 : y < 18446744073709551616) (W : World)
    (hc : 0 < n → ∃ b o, a = some ⟨b, o, none⟩ ∧ b < W.heap.size ∧ ∀ i, i < n * 2 → W.cell? ⟨b, o + i, none⟩ = some (.int .u8 (f i))) :
    Calls Try.prog 8 #[.slice a n c, .int .u64 y] W fun e w' => e = .returned (.bool true) ∧ New W w' := by
  have H := hid hc
  have HF := hid hf
  clear hc hf
  go_enter Try.func8, Try.ntmps8
  go_wp2_with fail
  refine (awake_any W).mono ?_
  rintro e w0 ⟨rfl, n0⟩
  go_wp2_with fail
  refine (new_any w0).mono ?_
  rintro e w1 ⟨rfl, n1, a1⟩
  have a1 := a1 W.heap.size n0.size
  have n1 := n0.step n1
  have hb : ∀ {X : World} i, FT X W.heap.size i → W.heap.size ≤ i := fun i h => h.1
  by_cases h100 : 100 < n
  · go_wp2
    go_ret
    exact ⟨rfl, n1⟩
  have q := push_yes w1 _ _ _ a1 n1.size 2 (by decide) 0 0 0 0 (by decide) (by decide)
  have Q := hid q
  clear q
  go_wp2_with fail
  refine Q.out.mono ?_
  rintro e w2 ⟨rfl, a2, k2⟩
  have n2 := n1.kept k2 hb
  have a2 : At w2 W.heap.size w0.heap.size (two (fr 0 0 0 0)) := a2
  have hz := z7_run w2
  have hr0 := Arr.new w2 37 7 (.int .u64 0)
  have A := hid (And.intro hr0 (And.intro (a2.new_ ((New.refl _).alloc (.cells (zarr 7 (.int .u64 0)) 37))) (n2.alloc (.cells (zarr 7 (.int .u64 0)) 37))))
  have hs2 := n2.size
  clear hr0 a2 n2 a1 n1 k2 Q
  go_wp2_with fail
  go_loopw [7] (fun i wr => ∃ (j : Nat) (x : Fr), j ≤ n ∧ i = .int .i64 (j : Int) ∧ Arr wr w2.heap.size 37 7 (fun k => .int .u64 (x.w k)) ∧ At wr W.heap.size w0.heap.size (two x) ∧ New W wr) (fun i _ => n - (intOf i).toNat)
  case atStart => exact ⟨0, fr 0 0 0 0, Nat.zero_le _, rfl, A.out.1, A.out.2.1, A.out.2.2⟩
  case round =>
    clear A hz
    obtain ⟨j, x, hj, rfl, harr, hat, hnr⟩ := hrel
    have w1' : IntKind.i64.wrap ((j : Int) + 1) = j + 1 := by rw [IntKind.wrap_i64]; omega
    by_cases hjl : j < n
    · obtain ⟨b, o, rfl, hb', hcell⟩ := H.out (by omega)
      have hcj := hnr.cellK (hcell (j * 2) (by omega))
      have hC1 := hcell (j * 2 + 1) (by omega)
      have hxj := HF.out (j * 2) (by omega)
      have hxj1 := HF.out (j * 2 + 1) (by omega)
      generalize f (j * 2) = u at hcj hxj
      generalize f (j * 2 + 1) = v at hC1 hxj1
      rw [← Nat.add_assoc] at hC1
      have hcj1 := hnr.cellK hC1
      have hcj2 : wr.cell? ⟨b, o + j * 2 + 0, none⟩ = some (.int .u8 u) := hcj
      clear hcell
      obtain ⟨k, hk⟩ : ∃ k : Nat, u % 7 = k := ⟨(u % 7).toNat, by omega⟩
      have hk7 : k < 7 := by omega
      have w3' : IntKind.u64.wrap v = v := by rw [IntKind.wrap_u64]; omega
      obtain ⟨z, hz⟩ : ∃ z, z = IntKind.u64.wrap (y + v) := ⟨_, rfl⟩
      have q := write_yes wr _ _ _ hat 2 (by decide) [] x (upd_at _ _ _) k hk7 (IntKind.u64.wrap (y + v))
      rw [upd_upd] at q
      have Q := hid q
      have i0 : (0 : Int) ≤ (k : Int) := by omega
      have i1 : (k : Int) < 7 := by omega
      clear q hz
      go_wp2_with fail
      refine Q.out.mono ?_
      rintro e w3 ⟨rfl, a3, k3⟩
      have y3 := hnr.kept k3 hb
      have hcj3 := y3.cellK hC1
      have harr3 := harr.keeps k3 (Law.Arr.notFT harr)
      have hck := harr3.cell hk7
      have hfk := harr3.frozen k
      have hk : Keeps (fun i => i = w2.heap.size) w3 (w3.setCell ⟨w2.heap.size, k, none⟩ (.int .u64 (Go.bits .and .u64 (IntKind.u64.wrap (y + v)) 68719476735))) := Keeps.setCell (F := fun i => i = w2.heap.size) (Keeps.refl _ _) (.inr rfl) _
      have har4 : Arr (w3.setCell ⟨w2.heap.size, k, none⟩ (.int .u64 (Go.bits .and .u64 (IntKind.u64.wrap (y + v)) 68719476735))) w2.heap.size 37 7 (fun i => .int .u64 ((x.put k (Go.bits .and .u64 (IntKind.u64.wrap (y + v)) 68719476735)).w i)) := (harr3.set k _).congr fun i hi => by
        show (if i = k then _ else Value.int .u64 (x.w i)) = .int .u64 (if i = k then _ else x.w i)
        split <;> rfl
      have a4 := a3.keeps hk (fun i hi e => Law.Arr.notFT harr3 (by rw [← e]; exact hi))
      have y4 := y3.kept hk (by rintro i rfl; exact hs2)
      have A4 := hid (And.intro har4 (And.intro a4 y4))
      try simp only at hck
      clear harr hat hnr hcj hcj1 hcj2 a3 k3 y3 harr3 har4 a4 y4 Q hk
      go_wp2_with fail
      go_loopw [9] (fun i wr => ∃ (q : Nat) (x : Fr), q ≤ 7 ∧ i = .int .i64 (q : Int) ∧ Arr wr w2.heap.size 37 7 (fun k => .int .u64 (x.w k)) ∧ At wr W.heap.size w0.heap.size (two x) ∧ New W wr) (fun i _ => 7 - (intOf i).toNat)
      case atStart => exact ⟨0, _, by omega, rfl, A4.out.1, A4.out.2.1, A4.out.2.2⟩
      case round =>
        clear A4
        obtain ⟨q, x, hq, rfl, harr, hat, hnr⟩ := hrel
        have w4' : IntKind.i64.wrap ((q : Int) + 1) = q + 1 := by rw [IntKind.wrap_i64]; omega
        by_cases hql : q < 7
        · have q1 := read_yes wr _ _ _ hat 2 (by decide) [] x (upd_at _ _ _) q hql
          have hcq := harr.cell hql
          try simp only at hcq
          have hql' : (q : Int) < 7 := by omega
          have iq0 : (0 : Int) ≤ (q : Int) := by omega
          have Q := hid q1
          clear q1
          go_wp2_with fail
          refine Q.out.mono ?_
          rintro e w4 ⟨rfl, rfl⟩
          go_wp2_with fail
          refine ⟨⟨q + 1, x, by omega, by go_num, harr, hat, hnr⟩, ?_⟩
          simp [intOf]; omega
        · have hql' : ¬ (q : Int) < 7 := by omega
          go_wp2_with fail
          go_roundw
          case rel => exact ⟨j + 1, x, by omega, by go_num, harr, hat, hnr⟩
          case measure => simp [intOf]; omega
    · have q1 := Pop_yes wr _ _ _ hat hnr.size 2 (by decide) [] x (upd_at _ _ _)
      rw [upd_upd] at q1
      have Q := hid q1
      clear q1 harr hat
      go_wp2_with fail
      refine Q.out.mono ?_
      rintro e w3 ⟨rfl, a3, k3⟩
      have y3 := hnr.kept k3 hb
      have q2 := fun X (h : New w3 X) => push_yes X _ _ _ (a3.new_ h) (y3.step h).size 2 (by decide) 0 0 0 0 (by decide) (by rw [upd_at]; decide)
      rw [upd_at, upd_upd] at q2
      have Q2 := hid q2
      clear q2 Q a3 k3
      go_wp2_with fail
      refine (Q2.out _ (by (repeat (first | exact New.refl _ | (refine New.step ?_ (by assumption)) | apply New.alloc | apply New.drewN | apply New.drew)))).mono ?_
      rintro e w4 ⟨rfl, a4, k4⟩
      have A4 := hid (And.intro a4 ((y3.step ((New.refl _).alloc (.cells #[.int .i64 x.a, .int .i64 x.b, .int .i64 x.c, .int .i64 x.d] 29))).kept k4 hb))
      clear a4 k4 Q2
      go_wp2_with fail
      go_loopw [14] (fun i wr => ∃ (q : Nat), q ≤ 7 ∧ i = .int .i64 (q : Int) ∧ At wr W.heap.size w0.heap.size (two (fr 0 0 0 0)) ∧ New W wr) (fun i _ => 7 - (intOf i).toNat)
      case atStart => exact ⟨0, by omega, rfl, A4.out.1, A4.out.2⟩
      case round =>
        clear A4
        obtain ⟨q, hq, rfl, hat, hnr⟩ := hrel
        have w4' : IntKind.i64.wrap ((q : Int) + 1) = q + 1 := by rw [IntKind.wrap_i64]; omega
        by_cases hql : q < 7
        · have q1 := read_yes wr _ _ _ hat 2 (by decide) [] (fr 0 0 0 0) (upd_at _ _ _) q hql
          have q1 : Calls Try.prog _ _ wr fun e w' => e = .returned (.tuple #[.int .u64 0, .int .i64 0]) ∧ wr = w' := q1
          have hql' : (q : Int) < 7 := by omega
          have Q := hid q1
          clear q1
          go_wp2_with fail
          refine Q.out.mono ?_
          rintro e w4 ⟨rfl, rfl⟩
          go_wp2_with fail
          go_roundw
          case rel => exact ⟨q + 1, by omega, by go_num, hat, hnr⟩
          case measure => simp [intOf]; omega
        · have hql' : ¬ (q : Int) < 7 := by omega
          go_wp2_with fail
          go_ret
          exact ⟨rfl, hnr⟩
theorem framesWords_row {H : Type} {enc : TypeId × Value → H} (W : World) {base : Nat}
    (v0 : Value) (d0 : DataW H) (p0 : List MemPlace) (k0 : Value.okWide Try.prog W .any base 49 v0) (h0 : DataW.Trod enc Try.prog W 0 (fun _ => true) true 49 v0 d0 p0) (l0 : ∀ x ∈ p0, x.block < W.heap.size)
    (v1 : Value) (d1 : DataW H) (p1 : List MemPlace) (k1 : Value.okWide Try.prog W .any base 31 v1) (h1 : DataW.Trod enc Try.prog W 0 (fun _ => true) true 31 v1 d1 p1) (l1 : ∀ x ∈ p1, x.block < W.heap.size)
    : Calls Try.prog 8 #[v0, v1] W fun e W' => e = .returned (.bool true) ∧ Below W.heap.size W W' := by
  obtain ⟨n, g, ⟨a, c, rfl, hc⟩, hw, _⟩ := open_sarrs Try.underlying49 Try.underlying50 Try.underlying5 (by kernel_rfl) (by kernel_rfl) (by decide) k0 h0
  obtain ⟨y, rfl, rfl, rfl, wy⟩ := open_int Try.underlying31 k1 h1
  have hy := wf_u64 wy
  exact framesWords_walk a n c g (fun i hi => wf_u8 (hw i hi)) y hy.1 hy.2 W hc
end Go.Proofs.Ytfgfhaknecolpaa.Law
