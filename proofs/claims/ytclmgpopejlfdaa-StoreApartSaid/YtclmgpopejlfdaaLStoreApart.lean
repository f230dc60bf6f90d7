/- The walk of StoreApart. -/
import Derived.Test.YtclmgpopejlfdaaStoreAwake
import Derived.Test.YtclmgpopejlfdaaOpenS
namespace Go.Proofs.Ytclmgpopejlfdaa.Law
open Go Go.RowKit Go.ChangeShapes Go.WideShapes Go.Proofs.Ytclmgpopejlfdaa.Kit Go.Proofs.Ytclmgpopejlfdaa.Store Go.Proofs.Ytclmgpopejlfdaa.Open
set_option linter.unusedSimpArgs false
set_option linter.unusedVariables false
/-- What the law holds at the head of its great loop: the three segments' words are F's, and the array's too; M: the array's block. -/
structure Held (B : Nat) (w : World) (p m M : Nat) (S : St) (arr : Array Value) (F : Nat → Nat → Int) : Prop where
  at_ : At w p m S
  blk : Blk w M 38 arr
  size : arr.size = 24
  has : ∀ u v : Nat, u < 3 → v < 8 → arr[u * 8 + v]? = some (.int .u64 (F u v))
  low : ∀ x ∈ S.L, B ≤ x.2.1
  seg : ∀ u : Nat, u < 3 → ∃ g ws, get? S.L ((u : Int) + 1) = some (g, ws) ∧ ws.length = 8 ∧ ∀ v, v < 8 → ws.getD v 0 = F u v
theorem blk_apart {w : World} {p m M : Nat} {S : St} {arr : Array Value} (h : At w p m S) (hb : Blk w M 38 arr) : M ≠ p ∧ M ≠ m ∧ ∀ x ∈ S.L, M ≠ x.2.1 := by
  refine ⟨?_, MapIs.ne_blk h.mp hb, fun x hx e => ?_⟩
  · rintro rfl
    have h2 := h.blk
    unfold Blk at hb h2
    rw [hb] at h2
    injection h2 with h2
    injection h2 with _ h3
    exact absurd h3 (by decide)
  · subst e
    have h2 := h.rows x hx
    unfold Blk at hb h2
    rw [hb] at h2
    injection h2 with h2
    injection h2 with _ h3
    exact absurd h3 (by decide)
theorem Held.drew {B : Nat} {w : World} {p m M : Nat} {S : St} {arr : Array Value} {F : Nat → Nat → Int} (h : Held B w p m M S arr F) : Held B w.drew p m M S arr F := ⟨h.at_.drewN 1, h.blk, h.size, h.has, h.low, h.seg⟩
theorem rep_get {α : Type} {n i : Nat} (x : α) (h : i < n) (y : α) (e : x = y := by rfl) : (List.replicate n x).toArray[i]? = some y := by
  subst e
  simp [h]
set_option maxRecDepth 100000 in
set_option maxHeartbeats 4000000 in
theorem storeApart_walk (a : Option Addr) (n c : Nat) (f : Nat → Int) (hf : ∀ i, i < n * 3 → 0 ≤ f i ∧ f i < 65536) (W : World)
    (hc : 0 < n → ∃ b o, a = some ⟨b, o, none⟩ ∧ b < W.heap.size ∧ ∀ i, i < n * 3 → W.cell? ⟨b, o + i, none⟩ = some (.int .u16 (f i))) :
    Calls Try.prog 4 #[.slice a n c] W fun e w' => e = .returned (.bool true) ∧ New W w' := by
  have H := hid hc
  have HF := hid hf
  clear hc hf
  go_enter Try.func4, Try.ntmps4
  go_wp2_with fail
  refine (awake_any W).mono ?_
  rintro e w0 ⟨rfl, n0⟩
  go_wp2_with fail
  refine (new_any 100 w0 (by decide)).mono ?_
  rintro e w1 ⟨rfl, n1, a1⟩
  have a1 : At w1 _ _ ⟨100, 0, []⟩ := a1
  by_cases h200 : 200 < n
  · go_wp2
    go_ret
    exact ⟨rfl, n0.step n1⟩
  have s1 := a1.blk.lt
  have hn0 := n0.size
  go_wp2_with fail
  go_loopw [5] (fun i wr => ∃ (j : Nat) (S : St), j ≤ 3 ∧ i = .int .i64 (j : Int) ∧ At wr (w0.heap.size + 1) w0.heap.size S ∧ S.quota = 100 ∧ S.next = j ∧ S.used = 8 * j ∧ (∀ u : Nat, u < j → ∃ g, get? S.L ((u : Int) + 1) = some (g, List.replicate 8 0)) ∧ (∀ x ∈ S.L, W.heap.size ≤ x.2.1) ∧ Blk wr w1.heap.size 38 (List.replicate 24 (Value.int .u64 0)).toArray ∧ New W wr) (fun i _ => 3 - (intOf i).toNat)
  case atStart =>
    exact ⟨0, ⟨100, 0, []⟩, by omega, rfl, a1.keeps ((Keeps.refl (fun _ => False) w1).alloc _) (fun _ _ h => h), rfl, rfl, rfl, fun u hu => absurd hu (by omega), (fun x hx => by cases hx), Blk.new _ _ _, (n0.step n1).alloc _⟩
  case round =>
    obtain ⟨j, S, hj, rfl, hat, hq, hnx, hus, hsg, hlo, hB, hnr⟩ := hrel
    by_cases hjl : j < 3
    · have he : mayE S ((8 : Nat) : Int) 0 = 0 := by
        unfold mayE
        rw [if_neg (by omega), if_neg (by omega)]
      have hm := make_yes wr _ _ _ hat 8 he (by omega)
      rw [hnx] at hm
      have hap := blk_apart hat hB
      have hz : ∀ b, get? (makeS S 8 b).L ((j : Int) + 1) = some (b, List.replicate 8 0) := by
        intro b
        show get? (S.L ++ [(S.next + 1, b, List.replicate 8 0)]) ((j : Int) + 1) = _
        rw [get?_append, hnx, get?_none.2 (fun x hx e => by have := (hat.keys x hx).2; omega)]
        simp [get?_cons]
      have A := hid (And.intro hus (And.intro hsg (And.intro hB (And.intro hap (And.intro hq (And.intro hnx hz))))))
      have w1' : IntKind.i64.wrap ((j : Int) + 1) = j + 1 := by rw [IntKind.wrap_i64]; omega
      clear he hsg hus hq hnx hB hap hz
      go_wp2_with fail
      refine hm.mono ?_
      rintro e w2 ⟨rfl, b, hb, hat2, hk2⟩
      go_wp2_with fail
      go_roundw
      case rel =>
        obtain ⟨hus, hsg, hB, hap, hq, hnx, hz⟩ := A.out
        refine ⟨j + 1, makeS S 8 b, by omega, by go_num, hat2, hq, by show S.next + 1 = _; omega, by rw [makeS_used]; omega, ?_, ?_, hB.keeps hk2 (fun e => e.elim hap.1 hap.2.1), hnr.kept hk2 (by rintro i (rfl | rfl) <;> omega)⟩
        · intro u hu
          by_cases hu2 : u = j
          · subst hu2
            exact ⟨b, hz b⟩
          · obtain ⟨g, hg⟩ := hsg u (by omega)
            refine ⟨g, ?_⟩
            show get? (S.L ++ [_]) _ = _
            rw [get?_append, hg]
            rfl
        · intro x hx
          rcases List.mem_append.1 hx with hx | hx
          · exact hlo x hx
          · cases List.mem_singleton.1 hx
            show W.heap.size ≤ b
            have := hnr.size
            omega
      case measure => simp [intOf]; omega
    · have hsg3 : ∀ u : Nat, u < 3 → ∃ g, get? S.L ((u : Int) + 1) = some (g, List.replicate 8 0) := fun u hu => hsg u (by omega)
      have hheld : Held W.heap.size wr (w0.heap.size + 1) w0.heap.size w1.heap.size S (List.replicate 24 (Value.int .u64 0)).toArray (fun _ _ => 0) := by
        refine ⟨hat, hB, by simp, fun u v hu hv => ?_, hlo, fun u hu => ?_⟩
        · have h24 : u * 8 + v < 24 := by omega
          exact rep_get _ h24 _
        · obtain ⟨g, hg⟩ := hsg3 u hu
          exact ⟨g, _, hg, by simp, fun v hv => by rw [List.getD_eq_getElem?_getD, List.getElem?_replicate]; simp [hv]⟩
      clear hsg hsg3 hB hat hus hq hnx
      go_wp2_with fail
      go_loopw [8] (fun i wl => ∃ (j : Nat) (S : St) (arr : Array Value) (F : Nat → Nat → Int), j ≤ n ∧ i = .int .i64 (j : Int) ∧ Held W.heap.size wl (w0.heap.size + 1) w0.heap.size w1.heap.size S arr F ∧ New W wl) (fun i _ => n - (intOf i).toNat)
      case atStart => exact ⟨0, S, _, _, Nat.zero_le _, rfl, hheld, hnr⟩
      case round =>
        clear hheld hnr
        obtain ⟨j, S, arr, F, hj, rfl, hh, hnr⟩ := hrel
        by_cases hjn : j < n
        · obtain ⟨b, o, rfl, hb, hcell⟩ := H.out (by omega)
          have hf0 := HF.out (j * 3) (by omega)
          have hf1 := HF.out (j * 3 + 1) (by omega)
          have hf2 := HF.out (j * 3 + 2) (by omega)
          have hc0 := hnr.cellK (hcell (j * 3) (by omega))
          have hc1 := hnr.cellK (hcell (j * 3 + 1) (by omega))
          have hc2 := hnr.cellK (hcell (j * 3 + 2) (by omega))
          rw [← Nat.add_assoc] at hc1 hc2
          have hC2 := hcell (j * 3 + 2) (by omega)
          rw [← Nat.add_assoc] at hC2
          generalize f (j * 3) = x0 at hf0 hc0
          generalize f (j * 3 + 1) = x1 at hf1 hc1
          generalize f (j * 3 + 2) = x2 at hf2 hc2 hC2
          have HC2 := hid hC2
          clear hC2
          clear hcell
          obtain ⟨u, hu⟩ : ∃ u : Nat, x0 % 3 = u := ⟨(x0 % 3).toNat, by omega⟩
          obtain ⟨v, hv⟩ : ∃ v : Nat, x1 % 8 = v := ⟨(x1 % 8).toNat, by omega⟩
          have hu3 : u < 3 := by omega
          have hv8 : v < 8 := by omega
          have t0 : x0.tmod 3 = (u : Int) := by rw [Int.tmod_eq_emod_of_nonneg hf0.1]; exact hu
          have t1 : x1.tmod 8 = (v : Int) := by rw [Int.tmod_eq_emod_of_nonneg hf1.1]; exact hv
          obtain ⟨g, ws, hg, hwl, hws⟩ := hh.seg u hu3
          have hwr := fun k => write_yes (wr.drewN k) _ _ _ (hh.at_.drewN k) ((u : Int) + 1) x2 v (by omega) (by omega) (by omega) (by omega) g ws hg (by omega)
          have A := hid (And.intro hg (And.intro hwl (And.intro hws (And.intro hu hv))))
          have w1' : IntKind.i64.wrap ((j : Int) + 1) = j + 1 := by rw [IntKind.wrap_i64]; omega
          have w2' : IntKind.i64.wrap ((u : Int) + 1) = u + 1 := by rw [IntKind.wrap_i64]; omega
          clear hg hwl hws hu hv
          go_wp2_with fail
          go_quiet (fail)
          go_wp2_with fail
          refine (hwr nq).mono ?_
          rintro e w2 ⟨rfl, hat2, hk2⟩
          have hgb := hh.low _ (get?_mem A.out.1)
          have hnr2 : New W w2 := (hnr.drewN nq).kept hk2 (by rintro i rfl; exact hgb)
          have hc2' := hnr2.cellK (HC2.out)
          have hap := blk_apart hh.at_ hh.blk
          have hB2 := (hh.blk.drewN nq).keeps hk2 (fun e => hap.2.2 _ (get?_mem A.out.1) e)
          have hbM : b ≠ w1.heap.size := by have := n0.size; omega
          have hMb := hbM.symm
          have hwx : IntKind.u64.wrap x2 = x2 := by rw [IntKind.wrap_u64]; omega
          have i0 : (0 : Int) ≤ (u : Int) := by omega
          have i1 : (u : Int) < 3 := by omega
          have i2 : (0 : Int) ≤ (v : Int) := by omega
          have i3 : (v : Int) < 8 := by omega
          have i4 : (u : Int) ≤ 3 := by omega
          have i5 : (v : Int) ≤ 8 := by omega
          have hfM : w2.frozen? ⟨w1.heap.size, u * 8 + v, none⟩ = false := hB2.frozen _
          have hcM : w2.cell? ⟨w1.heap.size, u * 8 + v, none⟩ = some (.int .u64 (F u v)) := by rw [hB2.cell]; exact hh.has u v hu3 hv8
          go_wp2_with fail
          go_region_held3 (fun w' => w'.cell? ⟨b, o + j * 3 + 2, none⟩ = some (.int .u16 x2)) ((simp [*, World.cell?_alloc_some, World.cell?_setCell_far, cell?_setBlock]; done)) (fail)
          have hh3 : Held W.heap.size (w2.setCell ⟨w1.heap.size, u * 8 + v, none⟩ (.int .u64 x2)) (w0.heap.size + 1) w0.heap.size w1.heap.size (writeS S ((u : Int) + 1) v x2) (arr.setIfInBounds (u * 8 + v) (.int .u64 x2)) (fun a b => if a = u ∧ b = v then x2 else F a b) := by
            obtain ⟨hg, hwl, hws, hu, hv⟩ := A.out
            have hS : writeS S ((u : Int) + 1) v x2 = ⟨S.quota, S.next, put S.L ((u : Int) + 1) (g, ws.set v (x2 % 68719476736))⟩ := by unfold writeS; rw [hg]; exact if_pos (by show v < ws.length; omega)
            refine ⟨hat2.keeps (Keeps.setCell (F := fun b => b = w1.heap.size) (Keeps.refl _ w2) (.inr rfl) _) ?_, hB2.set _ _, by simpa using hh.size, ?_, ?_, ?_⟩
            · have hap2 := blk_apart hat2 hB2
              rintro i (rfl | rfl | ⟨x, hx, rfl⟩) e
              · exact hap2.1 e.symm
              · exact hap2.2.1 e.symm
              · exact hap2.2.2 x hx e.symm
            · intro a b ha hb'
              rw [Array.getElem?_setIfInBounds]
              by_cases e : a = u ∧ b = v
              · obtain ⟨rfl, rfl⟩ := e
                have := hh.size
                rw [if_pos rfl, if_pos (by omega), if_pos ⟨rfl, rfl⟩]
              · rw [if_neg (by omega), if_neg e]
                exact hh.has a b ha hb'
            · intro x hx
              rw [hS] at hx
              rcases mem_put hx with rfl | ⟨hx, _⟩
              · exact hgb
              · exact hh.low x hx
            · intro a ha
              rw [hS]
              show ∃ g' ws', get? (put S.L ((u : Int) + 1) (g, ws.set v (x2 % 68719476736))) ((a : Int) + 1) = some (g', ws') ∧ _
              rw [get?_put]
              by_cases e : a = u
              · subst e
                rw [if_pos rfl]
                refine ⟨g, _, rfl, by simpa using hwl, fun b hb' => ?_⟩
                rw [List.getD_eq_getElem?_getD, List.getElem?_set]
                by_cases e2 : v = b
                · subst e2
                  rw [if_pos rfl, if_pos (by omega), if_pos ⟨rfl, rfl⟩]
                  show x2 % 68719476736 = x2
                  omega
                · rw [if_neg e2, if_neg (by omega), ← List.getD_eq_getElem?_getD]
                  exact hws b hb'
              · rw [if_neg (by omega)]
                obtain ⟨g', ws', h1, h2, h3⟩ := hh.seg a ha
                exact ⟨g', ws', h1, h2, fun b hb' => by rw [if_neg (by omega)]; exact h3 b hb'⟩
          have hnr3 : New W (w2.setCell ⟨w1.heap.size, u * 8 + v, none⟩ (.int .u64 x2)) := hnr2.setCell (by show W.heap.size ≤ w1.heap.size; have := n1.size; omega) _
          generalize writeS S ((u : Int) + 1) v x2 = S3 at hh3
          generalize arr.setIfInBounds (u * 8 + v) (.int .u64 x2) = arr3 at hh3
          generalize (fun a b => if a = u ∧ b = v then x2 else F a b) = F3 at hh3
          clear hwx hcM hfM hbM hMb hc2'
          generalize hW3 : w2.setCell ⟨w1.heap.size, u * 8 + v, none⟩ (.int .u64 x2) = w3 at hh3 hnr3 ⊢
          have hh3 := hh3.drew
          have hnr3 := hnr3.drew
          clear hW3 hB2 hk2 hat2 hnr2 hwr
          go_wp2_with fail
          go_loopw [11] (fun i wr => ∃ q : Nat, q ≤ 3 ∧ i = .int .i64 (q : Int) ∧ Held W.heap.size wr (w0.heap.size + 1) w0.heap.size w1.heap.size S3 arr3 F3 ∧ New W wr) (fun i _ => 3 - (intOf i).toNat)
          case atStart => exact ⟨0, Nat.zero_le _, rfl, hh3, hnr3⟩
          case round =>
            clear hh3 hnr3 hh hnr
            obtain ⟨q, hq, rfl, hh, hnr⟩ := hrel
            have w4' : IntKind.i64.wrap ((q : Int) + 1) = q + 1 := by rw [IntKind.wrap_i64]; omega
            by_cases hq3 : q < 3
            · have hq3' : (q : Int) < 3 := by omega
              go_wp2_with fail
              go_loopw [12] (fun i wr => ∃ r : Nat, r ≤ 8 ∧ i = .int .i64 (r : Int) ∧ Held W.heap.size wr (w0.heap.size + 1) w0.heap.size w1.heap.size S3 arr3 F3 ∧ New W wr) (fun i _ => 8 - (intOf i).toNat)
              case atStart => exact ⟨0, Nat.zero_le _, rfl, hh, hnr⟩
              case round =>
                clear hh hnr
                obtain ⟨r, hr, rfl, hh, hnr⟩ := hrel
                have w5' : IntKind.i64.wrap ((r : Int) + 1) = r + 1 := by rw [IntKind.wrap_i64]; omega
                by_cases hr8 : r < 8
                · obtain ⟨g, ws, hg, hwl, hws⟩ := hh.seg q hq3
                  have hrd := read_any wr _ _ _ hh.at_ ((q : Int) + 1) r (by omega) (by omega)
                  have hV : readV S3 ((q : Int) + 1) r = .tuple #[.int .u64 (F3 q r), .int .i64 0] := by
                    unfold readV
                    rw [hg]
                    simp only
                    rw [if_pos (by omega), Int.toNat_natCast, hws r hr8]
                  rw [hV] at hrd
                  have hcM : wr.cell? ⟨w1.heap.size, q * 8 + r, none⟩ = some (.int .u64 (F3 q r)) := by rw [hh.blk.cell]; exact hh.has q r hq3 hr8
                  clear hg hwl hws hV
                  go_wp2_with fail
                  refine hrd.mono ?_
                  rintro e w' ⟨rfl, rfl⟩
                  go_wp2_with fail
                  go_roundw
                  case rel => exact ⟨r + 1, by omega, by go_num, hh, hnr⟩
                  case measure => simp [intOf]; omega
                · go_wp2_with fail
                  go_roundw
                  case rel => exact ⟨q + 1, by omega, by go_num, hh, hnr⟩
                  case measure => simp [intOf]; omega
            · go_wp2_with fail
              go_roundw
              case rel => exact ⟨j + 1, S3, arr3, F3, by omega, by go_num, hh, hnr⟩
              case measure => simp [intOf]; omega
        · go_wp2_with fail
          go_ret
          exact ⟨rfl, hnr⟩
theorem storeApart_row {H : Type} {enc : TypeId × Value → H} (W : World) {base : Nat}
    (v0 : Value) (d0 : DataW H) (p0 : List MemPlace) (k0 : Value.okWide Try.prog W .any base 34 v0) (h0 : DataW.Trod enc Try.prog W 0 (fun _ => true) true 34 v0 d0 p0) (l0 : ∀ x ∈ p0, x.block < W.heap.size)
    : Calls Try.prog 4 #[v0] W fun e W' => e = .returned (.bool true) ∧ Below W.heap.size W W' := by
  obtain ⟨n, g, ⟨a, c, rfl, hc⟩, hw, _⟩ := open_sarrs Try.underlying34 Try.underlying40 Try.underlying39 (by kernel_rfl) (by kernel_rfl) (by decide) k0 h0
  exact storeApart_walk a n c g (fun i hi => wf_u16 (hw i hi)) W hc
end Go.Proofs.Ytclmgpopejlfdaa.Law
