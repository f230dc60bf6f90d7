/- The walk of LinkageLoose. -/
import Derived.Test.YteakbhfegbghoaaLinkLs
import Derived.Test.YteakbhfegbghoaaOpenG
import Derived.Below
import Derived.Deep.CutBlock
import Derived.Deep.CutRange
namespace Go.Proofs.Yteakbhfegbghoaa.Law
open Go Go.RowKit Go.ChangeMaps Go.ChangeShapes Go.WideShapes Go.Proofs.Yteakbhfegbghoaa.Kit Go.Proofs.Yteakbhfegbghoaa.Area Go.Proofs.Yteakbhfegbghoaa.Wd Go.Proofs.Yteakbhfegbghoaa.Str Go.Proofs.Yteakbhfegbghoaa.Link Go.Proofs.Yteakbhfegbghoaa.Open
open Go.Proofs.Yteakbhfegbghoaa.Point (pt eql_pt neq_pt ptEq_iff mayB)
set_option linter.unusedSimpArgs false
set_option linter.unusedVariables false
/-- Three numbers of the argument. -/
abbrev T3 := Int × Int × Int
def tc (x : T3) : List Value := [.int .u8 x.1, .int .u8 x.2.1, .int .u8 x.2.2]
def ok3 (x : T3) : Prop := (0 ≤ x.1 ∧ x.1 < 256) ∧ (0 ≤ x.2.1 ∧ x.2.1 < 256) ∧ (0 ≤ x.2.2 ∧ x.2.2 < 256)
theorem neq_same (a b c d : Int) (w : World) : (binOp .neq 43 (pt a b c d) (pt a b c d)).run Try.prog w = .ok (.bool false) w := by
  have := neq_pt a b c d a b c d w
  rw [ptEq_iff.2 ⟨rfl, rfl, rfl, rfl⟩] at this
  exact this
theorem zb6_run (w : World) : (zeroValue 46).run Try.prog w = .ok (.agg (zarr 72 (.int .i64 0))) w := by kernel_rfl
theorem Lk_set {w0 w : World} {X b : Nat} {Q : List Sc} {T : Nat → Prop} {G : Nat} (h : Lk w0 w X b Q T) (hG : T G) (i : Nat) (v : Value) : Lk w0 (w.setCell ⟨G, i, none⟩ v) X b Q T :=
  h.kept (Keeps.own hG i v) (fun k hk => ⟨.inl hk, by rw [size_setCell]; exact h.ltT hk⟩)
theorem and1 (m : Nat) : Go.bits .and .i64 (m : Int) 1 = ((m % 2 : Nat) : Int) := by
  have h : (BitVec.ofInt 64 (m : Int) &&& BitVec.ofInt 64 1).toNat = m % 2 := by
    rw [BitVec.toNat_and, BitVec.toNat_ofInt, BitVec.toNat_ofInt]
    rw [show ((1 : Int) % ((2 ^ 64 : Nat) : Int)).toNat = 2 ^ 1 - 1 from rfl, Nat.and_two_pow_sub_one_eq_mod]
    omega
  show IntKind.i64.wrap ((BitVec.ofInt 64 (m : Int) &&& BitVec.ofInt 64 1).toNat : Int) = _
  rw [h, IntKind.wrap_i64]
  omega
set_option maxRecDepth 100000 in
set_option maxHeartbeats 8000000 in
theorem linkageLoose_walk (v : Value) (l : List T3) (hl3 : ∀ x ∈ l, ok3 x) (sg : Nat) (hsg : sg < 256) (w : World) (h : LsAt 3 tc w v l) :
    Calls Try.prog 4 #[v, .int .u8 (sg : Int)] w fun e w' => e = .returned (.bool true) ∧ New w w' := by
  obtain ⟨va, vc, hv, hlc, hcm, _⟩ := id h
  subst hv
  obtain ⟨N, hN⟩ : ∃ N, N = l.length := ⟨_, rfl⟩
  rw [← hN] at h ⊢
  have HA := hid (And.intro h (And.intro hN hl3))
  clear h hN hl3 hlc hcm
  go_enter Try.func4, Try.ntmps4
  go_wp2_with fail
  refine (awake_any w).mono ?_
  rintro e w1 ⟨rfl, n1⟩
  have HN1 := hid n1
  clear n1
  go_wp2_with fail
  refine (newQ w1).mono ?_
  rintro e w2 ⟨rfl, h2⟩
  obtain ⟨X, hX⟩ : ∃ X, X = w1.heap.size + 1 := ⟨_, rfl⟩
  obtain ⟨b, hb⟩ : ∃ b, b = w1.heap.size := ⟨_, rfl⟩
  rw [← hX, ← hb] at h2
  rw [← hX]
  have H2 := hid h2
  clear h2 hX hb
  have hx3 := ((H2.out.box (.cells lrow 38)).box (.cells #[.slice none 0 0, .slice none 0 0, .slice none 0 0, .slice (some ⟨w2.heap.size, 0, none⟩) 3 3] 29))
  have b1 := (Blk.new w2 38 lrow).alloc (.cells #[.slice none 0 0, .slice none 0 0, .slice none 0 0, .slice (some ⟨w2.heap.size, 0, none⟩) 3 3] 29)
  have b2 := Blk.new (w2.alloc (.cells lrow 38)) 29 #[.slice none 0 0, .slice none 0 0, .slice none 0 0, .slice (some ⟨w2.heap.size, 0, none⟩) 3 3]
  rw [World.size_alloc] at hx3 b2
  by_cases h100 : 100 < N
  · have h100' : (100 : Int) < (N : Int) := by omega
    have HX := hid (HN1.out.step hx3.new)
    clear hx3 b1 b2
    go_wp2
    go_ret
    exact ⟨rfl, HX.out⟩
  have h100' : ¬ (100 : Int) < (N : Int) := by omega
  have HX3 := hid (And.intro hx3 (And.intro b1 b2))
  clear hx3 b1 b2
  go_wp2_with fail
  obtain ⟨w3, hw3⟩ : ∃ w3, w3 = (w2.alloc (.cells lrow 38)).alloc (.cells #[.slice none 0 0, .slice none 0 0, .slice none 0 0, .slice (some ⟨w2.heap.size, 0, none⟩) 3 3] 29) := ⟨_, rfl⟩
  rw [← hw3] at HX3 ⊢
  obtain ⟨G2, hG2⟩ : ∃ G2, G2 = w2.heap.size + 1 := ⟨_, rfl⟩
  rw [← hG2] at HX3 ⊢
  obtain ⟨GL, hGL⟩ : ∃ GL, GL = w2.heap.size := ⟨_, rfl⟩
  rw [← hGL] at HX3 ⊢
  clear hw3 hG2 hGL
  obtain ⟨T, hT⟩ : ∃ T : Nat → Prop, T = fun k => (False ∨ k = GL) ∨ k = G2 := ⟨_, rfl⟩
  rw [← hT] at HX3
  have HT := hid (show T GL ∧ T G2 by rw [hT]; exact ⟨.inl (.inr rfl), .inr rfl⟩)
  clear hT
  go_loopw [7, 8, 9, 10] (fun r _ _ _ wx => ∃ ρ : Nat, ρ ≤ 2 ∧ r = .int .i64 ((3 + ρ : Nat) : Int) ∧ Lk w1 wx X b (Q6 (3 * ρ)) T ∧ Blk wx GL 38 lrow ∧ Blk wx G2 29 #[.slice none 0 0, .slice none 0 0, .slice none 0 0, .slice (some ⟨GL, 0, none⟩) 3 3]) (fun r _ _ _ _ => 5 - (intOf r).toNat)
  case atStart => exact ⟨0, by decide, rfl, HX3.out⟩
  case round =>
    obtain ⟨ρ, hρ, rfl, hl, hB, hb⟩ := hrel
    obtain ⟨r, hr⟩ : ∃ r, r = 3 + ρ := ⟨_, rfl⟩
    rw [← hr]
    by_cases hρ2 : ρ < 2
    · have hr4 : (r : Int) ≤ 4 := by omega
      have w2' : IntKind.i64.wrap ((r : Int) + 1) = (r : Int) + 1 := by rw [IntKind.wrap_i64]; omega
      have HL := hid (And.intro hl (And.intro hB (And.intro hb hr)))
      clear hl hB hb hr
      obtain ⟨wo, hwo⟩ : ∃ wo, wo = wr := ⟨_, rfl⟩
      subst hwo
      go_wp2_with fail
      go_loopw [8, 9, 10] (fun s _ _ wx => ∃ a : Nat, a ≤ 3 ∧ s = .int .i64 ((a + 1 : Nat) : Int) ∧ Lk w1 wx X b (Q6 (3 * ρ + a)) T ∧ Blk wx GL 38 lrow ∧ Blk wx G2 29 #[.slice none 0 0, .slice none 0 0, .slice none 0 0, .slice (some ⟨GL, 0, none⟩) 3 3]) (fun s _ _ _ => 5 - (intOf s).toNat)
      case atStart => exact ⟨0, by decide, rfl, HL.out.1, HL.out.2.1, HL.out.2.2.1⟩
      case round =>
        obtain ⟨a, ha, rfl, hl, hB, hb⟩ := hrel
        obtain ⟨s, hs⟩ : ∃ s, s = a + 1 := ⟨_, rfl⟩
        rw [← hs]
        by_cases ha3 : a < 3
        · as_aux_lemma => --[[ open
          have hs3 : (s : Int) ≤ 3 := by omega
          have w3' : IntKind.i64.wrap ((s : Int) + 1) = (s : Int) + 1 := by rw [IntKind.wrap_i64]; omega
          have c0 : wr.cell? ⟨G2, 0, none⟩ = some (.slice none 0 0) := hb.cell 0
          have c1 : wr.cell? ⟨G2, 1, none⟩ = some (.slice none 0 0) := hb.cell 1
          have c2 : wr.cell? ⟨G2, 2, none⟩ = some (.slice none 0 0) := hb.cell 2
          have c3 : wr.cell? ⟨G2, 3, none⟩ = some (.slice (some ⟨GL, 0, none⟩) 3 3) := hb.cell 3
          have ho := openL hl hρ2 ha3 HT.out.1 hB
          rw [← HL.out.2.2.2, ← hs] at ho
          have HO := hid ho
          have HX := hid (And.intro hB (And.intro hb hs))
          generalize a * 4 = B at *
          clear hl hB hb ho hs
          go_wp2_with fail
          refine HO.out.mono ?_
          rintro e w4 ⟨rfl, h4, s4⟩
          rw [HX.out.2.2] at h4
          have H4 := hid (And.intro h4 (And.intro (Blk.of_block HX.out.1 (s4.2 _ HT.out.1)) (Blk.of_block HX.out.2.1 (s4.2 _ HT.out.2))))
          clear h4 s4 c0 c1 c2 c3
          go_wp2_with fail
          exact ⟨⟨a + 1, by omega, by have := HX.out.2.2; rw [← this]; go_num, H4.out⟩, by simp [intOf]; omega⟩
          --]] open
        · as_aux_lemma => --[[ next
          have hs3 : ¬ (s : Int) ≤ 3 := by omega
          have hae : a = 3 := by omega
          subst hae
          have HX := hid (And.intro hl (And.intro hB hb))
          clear hl hB hb hs
          go_wp2_with fail
          exact ⟨⟨ρ + 1, by omega, by have := HL.out.2.2.2; rw [show (((3 + (ρ + 1) : Nat)) : Int) = (r : Int) + 1 by omega], HX.out⟩, by simp [intOf]; omega⟩
          --]] next
    · have hρe : ρ = 2 := by omega
      subst hρe
      have hr4 : ¬ (r : Int) ≤ 4 := by omega
      have HX := hid (show Lk w1 wr X b (QL L0) T from hl)
      clear hl hB hb hr
      obtain ⟨wo, hwo⟩ : ∃ wo, wo = wr := ⟨_, rfl⟩
      subst hwo
      go_wp2_with fail
      go_loopw [11] (fun i wx => ∃ (q : Nat) (L : LF), q ≤ N ∧ i = .int .i64 (q : Int) ∧ L3 L ∧ Lk w1 wx X b (QL L) T) (fun i _ => N - (intOf i).toNat)
      case atStart => exact ⟨0, L0, Nat.zero_le _, rfl, L3.zero, HX.out⟩
      case round =>
        obtain ⟨q, L, hq, rfl, hL3, hl⟩ := hrel
        by_cases hqN : q < N
        · as_aux_lemma => --[[ snap
          obtain ⟨bb, oo, x, hva, hx, _, hcell⟩ := HA.out.1.get hqN
          subst hva
          obtain ⟨⟨x0, x0'⟩, ⟨x1, x1'⟩, ⟨x2, x2'⟩⟩ := HA.out.2.2 x (List.mem_of_getElem? hx)
          have hnW := HN1.out.step hl.new
          have g0 : w.cell? ⟨bb, oo + q * 3, none⟩ = some (.int .u8 x.1) := by have := hcell 0 _ rfl; simpa using this
          have g1 : w.cell? ⟨bb, oo + q * 3 + 1, none⟩ = some (.int .u8 x.2.1) := hcell 1 _ rfl
          have g2 : w.cell? ⟨bb, oo + q * 3 + 2, none⟩ = some (.int .u8 x.2.2) := hcell 2 _ rfl
          obtain ⟨x, y, z⟩ := x
          obtain ⟨m0, rfl⟩ := Int.eq_ofNat_of_zero_le x0
          obtain ⟨m1, rfl⟩ := Int.eq_ofNat_of_zero_le x1
          obtain ⟨m2, rfl⟩ := Int.eq_ofNat_of_zero_le x2
          have c0 : wr.cell? ⟨bb, oo + q * 3, none⟩ = some (.int .u8 (m0 : Int)) := hnW.cellK g0
          have c1 : wr.cell? ⟨bb, oo + q * 3 + 1, none⟩ = some (.int .u8 (m1 : Int)) := hnW.cellK g1
          have c2 : wr.cell? ⟨bb, oo + q * 3 + 2, none⟩ = some (.int .u8 (m2 : Int)) := hnW.cellK g2
          have HG := hid (fun W (hW : New w W) => And.intro (hW.cellK g0) (And.intro (hW.cellK g1) (hW.cellK g2)))
          obtain ⟨ρ, hρd⟩ : ∃ ρ, ρ = m0 % 2 := ⟨_, rfl⟩
          obtain ⟨K, hK⟩ : ∃ K, K = m0 / 2 := ⟨_, rfl⟩
          obtain ⟨a, had⟩ : ∃ a, a = K % 3 := ⟨_, rfl⟩
          obtain ⟨n, hnd⟩ : ∃ n, n = m1 % 3 := ⟨_, rfl⟩
          obtain ⟨c, hcd⟩ : ∃ c, c = m2 % 4 := ⟨_, rfl⟩
          obtain ⟨R, hR⟩ : ∃ R, R = 3 + ρ := ⟨_, rfl⟩
          obtain ⟨S, hS⟩ : ∃ S, S = a + 1 := ⟨_, rfl⟩
          obtain ⟨V, hV⟩ : ∃ V, V = 1 + c := ⟨_, rfl⟩
          have hρ2 : ρ < 2 := by omega
          have ha3 : a < 3 := by omega
          have hn3 : n < 3 := by omega
          have hV5 : V < 5 := by omega
          simp only at x0' x1' x2'
          have u0 : IntKind.i64.wrap (m0 : Int) = (m0 : Int) := by rw [IntKind.wrap_i64]; omega
          have u1 : IntKind.i64.wrap (m1 : Int) = (m1 : Int) := by rw [IntKind.wrap_i64]; omega
          have u2 : IntKind.i64.wrap (m2 : Int) = (m2 : Int) := by rw [IntKind.wrap_i64]; omega
          have u3 : Go.bits .and .i64 (m0 : Int) 1 = (ρ : Int) := by rw [and1, hρd]
          have u4 : IntKind.i64.wrap (3 + (ρ : Int)) = (R : Int) := by rw [IntKind.wrap_i64]; omega
          have u5 : (m0 : Int) / 2 = (K : Int) := by omega
          have u5' : (m0 : Int) / 2 ^ 1 = (K : Int) := by omega
          have u6 : IntKind.i64.wrap (K : Int) = (K : Int) := by rw [IntKind.wrap_i64]; omega
          have u7 : (K : Int).tmod 3 = (a : Int) := by rw [had, Int.tmod_eq_emod_of_nonneg (by omega)]; rfl
          have u8 : IntKind.i64.wrap (1 + (a : Int)) = (S : Int) := by rw [IntKind.wrap_i64]; omega
          have u9 : (m1 : Int).tmod 3 = (n : Int) := by rw [hnd, Int.tmod_eq_emod_of_nonneg (by omega)]; rfl
          have u10 : (m2 : Int).tmod 4 = (c : Int) := by rw [hcd, Int.tmod_eq_emod_of_nonneg (by omega)]; rfl
          have u11 : IntKind.i64.wrap (1 + (c : Int)) = (V : Int) := by rw [IntKind.wrap_i64]; omega
          have u12 : IntKind.i64.wrap ((q : Int) + 1) = (q : Int) + 1 := by rw [IntKind.wrap_i64]; omega
          have j0 : (0 : Int) ≤ (q : Int) := by omega
          have j1 : (q : Int) < (N : Int) := by omega
          have hsn := SnapQ_ok (hl.new_ (New.refl wr).drew) (q := sec6 ρ a (L ρ a)) (QL_mem L hρ2 ha3) (n := n) (by show n < (L ρ a).length; rw [hL3]; exact hn3) V 0 0 (by rw [Point.mayB_iff]; omega)
          rw [QL_set L hρ2 ha3] at hsn
          have hrr : ((sec6 ρ a (L ρ a)).ring : Int) = (R : Int) := by rw [hR]; rfl
          have hss : ((sec6 ρ a (L ρ a)).seg : Int) = (S : Int) := by rw [hS]; rfl
          rw [hrr, hss, show ((0 : Nat) : Int) = 0 from rfl] at hsn
          have HSn := hid hsn
          have HL3 := hid (hL3.up ρ a n (V, max 0 (sec6 ρ a (L ρ a)).ring, 0, 0))
          generalize upL L ρ a n (V, max 0 (sec6 ρ a (L ρ a)).ring, 0, 0) = L' at *
          clear hsn hL3 hl hrr hss hρd hK had hnd hcd hR hS hV hρ2 ha3 hn3 hV5 x0 x0' x1 x1' x2 x2' g0 g1 g2 hcell hx hnW
          go_wp2_with fail
          go_region_held3 (fun w' => w'.cell? ⟨bb, oo + q * 3, none⟩ = some (.int .u8 (m0 : Int)) ∧ w'.cell? ⟨bb, oo + q * 3 + 1, none⟩ = some (.int .u8 (m1 : Int)) ∧ w'.cell? ⟨bb, oo + q * 3 + 2, none⟩ = some (.int .u8 (m2 : Int))) (first | exact ⟨c0, c1, c2⟩ | exact hS5) (first | (go_at_call 13; (with_reducible refine HSn.out.mono ?_); rintro e w5 ⟨rfl, h5, s5⟩; have hS5 := HG.out w5 (HN1.out.step h5.new)))
          have H5 := hid h5
          clear h5 s5 hS5 c0 c1 c2
          go_wp2_with fail
          exact ⟨⟨q + 1, L', by omega, by go_num, HL3.out, H5.out⟩, by simp [intOf]; omega⟩
          --]] snap
        · as_aux_lemma => --[[ rest
          have hlt : ¬ (q : Int) < (N : Int) := by omega
          obtain ⟨c, hc⟩ : ∃ c, c = sg % 4 := ⟨_, rfl⟩
          obtain ⟨S, hS⟩ : ∃ S, S = 1 + c := ⟨_, rfl⟩
          have u0 : IntKind.i64.wrap (sg : Int) = (sg : Int) := by rw [IntKind.wrap_i64]; omega
          have u1 : (sg : Int).tmod 4 = (c : Int) := by rw [hc, Int.tmod_eq_emod_of_nonneg (by omega)]; rfl
          have u2 : IntKind.i64.wrap (1 + (c : Int)) = (S : Int) := by rw [IntKind.wrap_i64]; omega
          have hzb := zb6_run
          have hl2 := hl.box (.cells (zarr 72 (.int .i64 0)) 46)
          have hb2 := Bef.zero (L := L) (Blk.new wr 46 (zarr 72 (.int .i64 0))) (zarr_size _ _)
          have HX2 := hid (And.intro hl2 hb2)
          have HL3 := hid hL3
          clear hl hl2 hb2 hL3 hc hS
          go_wp2_with fail
          obtain ⟨w4, hw4⟩ : ∃ w4, w4 = wr.alloc (.cells (zarr 72 (.int .i64 0)) 46) := ⟨_, rfl⟩
          rw [← hw4] at HX2 ⊢
          obtain ⟨GB, hGB⟩ : ∃ GB, GB = wr.heap.size := ⟨_, rfl⟩
          rw [← hGB] at HX2 ⊢
          clear hw4 hGB hzb
          obtain ⟨T2, hT2⟩ : ∃ T2 : Nat → Prop, T2 = fun k => T k ∨ k = GB := ⟨_, rfl⟩
          rw [← hT2] at HX2
          have HT2 := hid (show T2 GB by rw [hT2]; exact .inr rfl)
          clear hT2
          go_loopw [14, 15, 16, 17, 18, 19] (fun many r _ _ _ _ wx => ∃ (ρ cn : Nat) (RI : Int), ρ ≤ 2 ∧ RI = (ρ : Int) ∧ r = .int .i64 RI ∧ many = .int .i64 (cn : Int) ∧ cn = cntN (S : Int) L (9 * ρ) ∧ Lk w1 wx X b (QL L) T2 ∧ Bef wx GB L (9 * ρ)) (fun _ r _ _ _ _ _ => 2 - (intOf r).toNat)
          case atStart => exact ⟨0, 0, 0, by decide, rfl, rfl, rfl, rfl, HX2.out⟩
          case round =>
            obtain ⟨ρ, cn, RI, hρ, hRI, rfl, rfl, hcn, hl, hbf⟩ := hrel
            by_cases hρ2 : ρ < 2
            · have r0 : (0 : Int) ≤ RI := by omega
              have r1 : RI < 2 := by omega
              have r2 : RI.toNat = ρ := by omega
              obtain ⟨R, hR⟩ : ∃ R, R = 3 + ρ := ⟨_, rfl⟩
              have v1 : IntKind.i64.wrap (3 + RI) = (R : Int) := by rw [IntKind.wrap_i64]; omega
              have v2 : IntKind.i64.wrap (RI + 1) = RI + 1 := by rw [IntKind.wrap_i64]; omega
              have HA4 := hid (And.intro hl (And.intro hbf (And.intro hcn (And.intro hRI hR))))
              clear hl hbf hcn hRI hR
              obtain ⟨wo, hwo⟩ : ∃ wo, wo = wr := ⟨_, rfl⟩
              subst hwo
              go_wp2_with fail
              go_loopw [14, 16, 17, 18, 19] (fun many a _ _ _ wx => ∃ a' cn : Nat, a' ≤ 3 ∧ a = .int .i64 (a' : Int) ∧ many = .int .i64 (cn : Int) ∧ cn = cntN (S : Int) L (9 * ρ + 3 * a') ∧ Lk w1 wx X b (QL L) T2 ∧ Bef wx GB L (9 * ρ + 3 * a')) (fun _ a _ _ _ _ => 3 - (intOf a).toNat)
              case atStart => exact ⟨0, cn, by decide, rfl, rfl, HA4.out.2.2.1, HA4.out.1, HA4.out.2.1⟩
              case round =>
                obtain ⟨a, cn, ha, rfl, rfl, hcn, hl, hbf⟩ := hrel
                by_cases ha3 : a < 3
                · have a0 : (0 : Int) ≤ (a : Int) := by omega
                  have a1 : (a : Int) < 3 := by omega
                  obtain ⟨S1, hS1⟩ : ∃ S1, S1 = a + 1 := ⟨_, rfl⟩
                  have v3 : IntKind.i64.wrap (1 + (a : Int)) = (S1 : Int) := by rw [IntKind.wrap_i64]; omega
                  have v4 : IntKind.i64.wrap ((a : Int) + 1) = (a : Int) + 1 := by rw [IntKind.wrap_i64]; omega
                  have HA5 := hid (And.intro hl (And.intro hbf (And.intro hcn hS1)))
                  clear hl hbf hcn hS1
                  obtain ⟨wo2, hwo⟩ : ∃ wo2, wo2 = wr := ⟨_, rfl⟩
                  subst hwo
                  go_wp2_with fail
                  go_loopw [14, 17, 18, 19] (fun many y _ _ wx => ∃ b' cn : Nat, b' ≤ 3 ∧ y = .int .i64 (b' : Int) ∧ many = .int .i64 (cn : Int) ∧ cn = cntN (S : Int) L (9 * ρ + 3 * a + b') ∧ Lk w1 wx X b (QL L) T2 ∧ Bef wx GB L (9 * ρ + 3 * a + b')) (fun _ y _ _ _ => 3 - (intOf y).toNat)
                  case atStart => exact ⟨0, cn, by decide, rfl, rfl, HA5.out.2.2.1, HA5.out.1, HA5.out.2.1⟩
                  case round =>
                    obtain ⟨y, cn, hy, rfl, rfl, hcn, hl, hbf⟩ := hrel
                    by_cases hy3 : y < 3
                    · as_aux_lemma => --[[ look
                      have y0 : (0 : Int) ≤ (y : Int) := by omega
                      have y1 : (y : Int) < 3 := by omega
                      have v5 : IntKind.i64.wrap ((y : Int) + 1) = (y : Int) + 1 := by rw [IntKind.wrap_i64]; omega
                      obtain ⟨p, hp⟩ : ∃ p, p = Lat L ρ a y := ⟨_, rfl⟩
                      have hlk := LinkQ_ok hl (q := sec6 ρ a (L ρ a)) (QL_mem L hρ2 ha3) (Lat_at HL3.out hy3)
                      rw [show (((sec6 ρ a (L ρ a)).ring : Nat) : Int) = (R : Int) by rw [HA4.out.2.2.2.2]; rfl, show (((sec6 ρ a (L ρ a)).seg : Nat) : Int) = (S1 : Int) by rw [HA5.out.2.2.2]; rfl] at hlk
                      have hcl : cn ≤ 18 := by have := cntN_le (S : Int) L (9 * ρ + 3 * a + y); omega
                      have v6 : IntKind.i64.wrap ((cn : Int) + 1) = (cn : Int) + 1 := by rw [IntKind.wrap_i64]; omega
                      have hnx := cntN_next (s := (S : Int)) (L := L) (ρ := ρ) ha3 hy3 rfl
                      have hit : hit6 (S : Int) L ρ a y = (decide (RI = 1) && (decide (((Lat L ρ a y).2.2.1 : Int) = 0) && decide (((Lat L ρ a y).1 : Int) = (S : Int)))) := by
                        unfold hit6
                        congr 1
                        have : (RI = 1) ↔ (ρ = 1) := by have := HA4.out.2.2.2.1; omega
                        simp only [this]
                      have hset := fun (W : World) (hW : Bef W GB L (9 * ρ + 3 * a + y)) => hW.set hρ2 ha3 hy3 rfl
                      rw [← hcn] at hnx
                      unfold pv at hlk
                      generalize Lat L ρ a y = p at *
                      obtain ⟨p1, p2, p3, p4⟩ := p
                      obtain ⟨P1, hP1⟩ : ∃ P : Int, P = (p1 : Int) := ⟨_, rfl⟩
                      obtain ⟨P2, hP2⟩ : ∃ P : Int, P = (p2 : Int) := ⟨_, rfl⟩
                      obtain ⟨P3, hP3⟩ : ∃ P : Int, P = (p3 : Int) := ⟨_, rfl⟩
                      obtain ⟨P4, hP4⟩ : ∃ P : Int, P = (p4 : Int) := ⟨_, rfl⟩
                      simp only [← hP1, ← hP2, ← hP3, ← hP4] at hlk hit hset
                      have HLk := hid hlk
                      have HH := hid (And.intro hnx (And.intro hit hset))
                      have HL := hid (And.intro hl hbf)
                      clear hl hbf hlk hnx hit hset hP1 hP2 hP3 hP4 hp hcn hcl
                      go_wp2_with fail
                      refine HLk.out.mono ?_
                      rintro e w5 ⟨rfl, n5⟩
                      have hl6 := (HL.out.1.new_ n5).new_ ((New.refl w5).alloc (.cells #[.int .i64 P1, .int .i64 P2, .int .i64 P3, .int .i64 P4] 43))
                      have hbf6 := (HL.out.2.new_ n5).new_ ((New.refl w5).alloc (.cells #[.int .i64 P1, .int .i64 P2, .int .i64 P3, .int .i64 P4] 43))
                      have hB6 := Blk.new w5 43 #[.int .i64 P1, .int .i64 P2, .int .i64 P3, .int .i64 P4]
                      have hne : w5.heap.size ≠ GB := fun e => by have := (HL.out.2.new_ n5).lt; omega
                      go_upto_region 34 with fail
                      obtain ⟨w6, hw6⟩ : ∃ w6, w6 = w5.alloc (.cells #[.int .i64 P1, .int .i64 P2, .int .i64 P3, .int .i64 P4] 43) := ⟨_, rfl⟩
                      rw [← hw6] at hl6 hbf6 hB6 ⊢
                      obtain ⟨G8, hG8⟩ : ∃ G8, G8 = w5.heap.size := ⟨_, rfl⟩
                      rw [← hG8] at hB6 hne ⊢
                      clear hw6 hG8 n5
                      go_cut [19] from 129 to 135 (fun e wx => e = .int .i64 0 ∧ Lk w1 wx X b (QL L) T2 ∧ Bef wx GB L (9 * ρ + 3 * a + y + 1) ∧ Blk wx G8 43 #[.int .i64 P1, .int .i64 P2, .int .i64 P3, .int .i64 P4])
                      case first =>
                        have g0 : w6.cell? ⟨G8, 0, none⟩ = some (.int .i64 P1) := hB6.cell 0
                        have g1 : w6.cell? ⟨G8, 1, none⟩ = some (.int .i64 P2) := hB6.cell 1
                        have g2 : w6.cell? ⟨G8, 2, none⟩ = some (.int .i64 P3) := hB6.cell 2
                        have g3 : w6.cell? ⟨G8, 3, none⟩ = some (.int .i64 P4) := hB6.cell 3
                        obtain ⟨z0, hz0⟩ := hbf6.has (i := ρ * 36 + a * 12 + y * 4) (by omega)
                        obtain ⟨z1, hz1⟩ := hbf6.has (i := ρ * 36 + a * 12 + y * 4 + 1) (by omega)
                        obtain ⟨z2, hz2⟩ := hbf6.has (i := ρ * 36 + a * 12 + y * 4 + 2) (by omega)
                        obtain ⟨z3, hz3⟩ := hbf6.has (i := ρ * 36 + a * 12 + y * 4 + 3) (by omega)
                        have f0 := hbf6.frozen (ρ * 36 + a * 12 + y * 4)
                        have f1 := hbf6.frozen (ρ * 36 + a * 12 + y * 4 + 1)
                        have f2 := hbf6.frozen (ρ * 36 + a * 12 + y * 4 + 2)
                        have f3 := hbf6.frozen (ρ * 36 + a * 12 + y * 4 + 3)
                        have fz := hbf6.lt
                        have HF := hid (And.intro (HH.out.2.2 w6.drew (hbf6.block rfl)) (And.intro (Lk_set (Lk_set (Lk_set (Lk_set (hl6.new_ (New.refl w6).drew) HT2.out (ρ * 36 + a * 12 + y * 4) (.int .i64 P1)) HT2.out (ρ * 36 + a * 12 + y * 4 + 1) (.int .i64 P2)) HT2.out (ρ * 36 + a * 12 + y * 4 + 2) (.int .i64 P3)) HT2.out (ρ * 36 + a * 12 + y * 4 + 3) (.int .i64 P4)) ((((hB6.drew.far (p := ⟨GB, ρ * 36 + a * 12 + y * 4, none⟩) hne (.int .i64 P1)).far (p := ⟨GB, ρ * 36 + a * 12 + y * 4 + 1, none⟩) hne (.int .i64 P2)).far (p := ⟨GB, ρ * 36 + a * 12 + y * 4 + 2, none⟩) hne (.int .i64 P3)).far (p := ⟨GB, ρ * 36 + a * 12 + y * 4 + 3, none⟩) hne (.int .i64 P4))))
                        clear hl6 hbf6 hB6
                        go_region_law (fail)
                        all_goals
                          go_wp2_with fail
                          go_meet
                          exact ⟨rfl, HF.out.2.1, HF.out.1, HF.out.2.2⟩
                      case rest =>
                        obtain ⟨rfl, hl7, hbf7, hB7⟩ := hcut
                        have g0 : wc.cell? ⟨G8, 0, none⟩ = some (.int .i64 P1) := hB7.cell 0
                        have g2 : wc.cell? ⟨G8, 2, none⟩ = some (.int .i64 P3) := hB7.cell 2
                        have HL7 := hid (And.intro hl7 hbf7)
                        clear hl7 hbf7 hB7 hl6 hbf6 hB6 hne
                        cases h1 : (RI == 1) with
                        | false =>
                          have hh := hid (show hit6 (S : Int) L ρ a y = false by rw [HH.out.2.1, decide_eq_false (beq_eq_false_iff_ne.1 h1)]; rfl)
                          go_wp2_with fail
                          exact ⟨⟨y + 1, cn, by omega, by go_num, rfl, by have := HH.out.1; rw [hh.out] at this; rw [← Nat.add_assoc]; simpa using this.symm, HL7.out⟩, by simp [intOf]; omega⟩
                        | true =>
                          cases h3 : (P3 == 0) with
                          | false =>
                            have hh := hid (show hit6 (S : Int) L ρ a y = false by rw [HH.out.2.1, decide_eq_false (beq_eq_false_iff_ne.1 h3)]; simp)
                            go_wp2_with fail
                            exact ⟨⟨y + 1, cn, by omega, by go_num, rfl, by have := HH.out.1; rw [hh.out] at this; rw [← Nat.add_assoc]; simpa using this.symm, HL7.out⟩, by simp [intOf]; omega⟩
                          | true =>
                            cases h5 : (P1 == (S : Int)) with
                            | false =>
                              have hh := hid (show hit6 (S : Int) L ρ a y = false by rw [HH.out.2.1, decide_eq_false (beq_eq_false_iff_ne.1 h5)]; simp)
                              go_wp2_with fail
                              exact ⟨⟨y + 1, cn, by omega, by go_num, rfl, by have := HH.out.1; rw [hh.out] at this; rw [← Nat.add_assoc]; simpa using this.symm, HL7.out⟩, by simp [intOf]; omega⟩
                            | true =>
                              have hh := hid (show hit6 (S : Int) L ρ a y = true by rw [HH.out.2.1, decide_eq_true (beq_iff_eq.1 h1), decide_eq_true (beq_iff_eq.1 h3), decide_eq_true (beq_iff_eq.1 h5)]; rfl)
                              go_wp2_with fail
                              exact ⟨⟨y + 1, cn + 1, by omega, by go_num, by go_num, by have := HH.out.1; rw [hh.out] at this; rw [← Nat.add_assoc]; simpa using this.symm, HL7.out⟩, by simp [intOf]; omega⟩
                      --]] look
                    · as_aux_lemma => --[[ nexta
                      have hye : y = 3 := by omega
                      subst hye
                      have HY := hid (And.intro hcn (And.intro hl hbf))
                      clear hcn hl hbf
                      go_wp2_with fail
                      exact ⟨⟨a + 1, cn, by omega, by go_num, rfl, HY.out.1, HY.out.2⟩, by simp [intOf]; omega⟩
                      --]] nexta
                · as_aux_lemma => --[[ nextr
                  have hae : a = 3 := by omega
                  subst hae
                  have HY := hid (And.intro hcn (And.intro hl hbf))
                  have HRI := hid HA4.out.2.2.2.1
                  clear hcn hl hbf
                  go_wp2_with fail
                  exact ⟨⟨ρ + 1, cn, RI + 1, by omega, by have := HRI.out; omega, by go_num, rfl, HY.out.1, HY.out.2⟩, by have := HRI.out; simp [intOf]; omega⟩
                  --]] nextr
            · as_aux_lemma => --[[ loose
              have hρe : ρ = 2 := by omega
              subst hρe
              have r1 : ¬ RI < 2 := by omega
              have HLo := hid (LooseQ hl (by show 6 ≤ 10000; decide) 4 (S : Int) (tot := cn) (by rw [hcn, cnt18 HL3.out]))
              have HBf := hid hbf
              clear hl hbf hcn hRI
              go_wp2_with fail
              refine HLo.out.mono ?_
              rintro e w5 ⟨rfl, h5, s5⟩
              rw [QL_loose] at h5
              have hbf5 := HBf.out.block (s5.2 _ HT2.out)
              have HLo2 := hid (LooseQ h5 (by show 6 ≤ 10000; decide) 4 (S : Int) (tot := 0) (again_cnt (S : Int) L))
              have HB5 := hid hbf5
              clear h5 s5 hbf5
              go_wp2_with fail
              refine HLo2.out.mono ?_
              rintro e w6 ⟨rfl, h6, s6⟩
              rw [QL_loose, again_same] at h6
              have HM := hid (And.intro h6 (HB5.out.block (s6.2 _ HT2.out)))
              clear h6 s6
              go_wp2_with fail
              go_loopw [20, 21, 22, 23, 24, 25] (fun r _ _ _ _ _ wx => ∃ (ρ : Nat) (RI : Int), ρ ≤ 2 ∧ RI = (ρ : Int) ∧ r = .int .i64 RI ∧ New w6 wx) (fun r _ _ _ _ _ _ => 2 - (intOf r).toNat)
              case atStart => exact ⟨0, 0, by decide, rfl, rfl, New.refl _⟩
              case round =>
                obtain ⟨ρ, RI, hρ, hRI, rfl, hn⟩ := hrel
                by_cases hρ2 : ρ < 2
                · have r0 : (0 : Int) ≤ RI := by omega
                  have r1 : RI < 2 := by omega
                  have r2 : RI.toNat = ρ := by omega
                  obtain ⟨R, hR⟩ : ∃ R, R = 3 + ρ := ⟨_, rfl⟩
                  have v1 : IntKind.i64.wrap (3 + RI) = (R : Int) := by rw [IntKind.wrap_i64]; omega
                  have v2 : IntKind.i64.wrap (RI + 1) = RI + 1 := by rw [IntKind.wrap_i64]; omega
                  have HA4 := hid (And.intro hn (And.intro hRI hR))
                  clear hn hRI hR
                  go_wp2_with fail
                  go_loopw [21, 22, 23, 24, 25] (fun a _ _ _ _ wx => ∃ a' : Nat, a' ≤ 3 ∧ a = .int .i64 (a' : Int) ∧ New w6 wx) (fun a _ _ _ _ _ => 3 - (intOf a).toNat)
                  case atStart => exact ⟨0, by decide, rfl, HA4.out.1⟩
                  case round =>
                    obtain ⟨a, ha, rfl, hn⟩ := hrel
                    by_cases ha3 : a < 3
                    · have a0 : (0 : Int) ≤ (a : Int) := by omega
                      have a1 : (a : Int) < 3 := by omega
                      obtain ⟨S1, hS1⟩ : ∃ S1, S1 = a + 1 := ⟨_, rfl⟩
                      have v3 : IntKind.i64.wrap (1 + (a : Int)) = (S1 : Int) := by rw [IntKind.wrap_i64]; omega
                      have v4 : IntKind.i64.wrap ((a : Int) + 1) = (a : Int) + 1 := by rw [IntKind.wrap_i64]; omega
                      have HA5 := hid (And.intro hn hS1)
                      clear hn hS1
                      go_wp2_with fail
                      go_loopw [22, 23, 24, 25] (fun y _ _ _ wx => ∃ b' : Nat, b' ≤ 3 ∧ y = .int .i64 (b' : Int) ∧ New w6 wx) (fun y _ _ _ _ => 3 - (intOf y).toNat)
                      case atStart => exact ⟨0, by decide, rfl, HA5.out.1⟩
                      case round =>
                        obtain ⟨y, hy, rfl, hn⟩ := hrel
                        by_cases hy3 : y < 3
                        · as_aux_lemma => --[[ cmp
                          have y0 : (0 : Int) ≤ (y : Int) := by omega
                          have y1 : (y : Int) < 3 := by omega
                          have v5 : IntKind.i64.wrap ((y : Int) + 1) = (y : Int) + 1 := by rw [IntKind.wrap_i64]; omega
                          have hlk := LinkQ_ok (HM.out.1.new_ hn) (q := sec6 ρ a (loL (S : Int) L ρ a)) (QL_mem (loL (S : Int) L) hρ2 ha3) (loL_at HL3.out hy3)
                          rw [show (((sec6 ρ a (loL (S : Int) L ρ a)).ring : Nat) : Int) = (R : Int) by rw [HA4.out.2.2]; rfl, show (((sec6 ρ a (loL (S : Int) L ρ a)).seg : Nat) : Int) = (S1 : Int) by rw [HA5.out.2]; rfl] at hlk
                          have hit : hit6 (S : Int) L ρ a y = (decide (RI = 1) && (decide (((Lat L ρ a y).2.2.1 : Int) = 0) && decide (((Lat L ρ a y).1 : Int) = (S : Int)))) := by
                            unfold hit6
                            congr 1
                            have : (RI = 1) ↔ (ρ = 1) := by have := HA4.out.2.1; omega
                            simp only [this]
                          obtain ⟨g0, g1, g2, g3⟩ := (HM.out.2.new_ hn).get (ρ := ρ) ha3 hy3 (show 9 * ρ + 3 * a + y < 9 * 2 by omega)
                          have hbl := (HM.out.2.new_ hn).lt
                          generalize Lat L ρ a y = p at *
                          obtain ⟨p1, p2, p3, p4⟩ := p
                          obtain ⟨P1, hP1⟩ : ∃ P : Int, P = (p1 : Int) := ⟨_, rfl⟩
                          obtain ⟨P2, hP2⟩ : ∃ P : Int, P = (p2 : Int) := ⟨_, rfl⟩
                          obtain ⟨P3, hP3⟩ : ∃ P : Int, P = (p3 : Int) := ⟨_, rfl⟩
                          obtain ⟨P4, hP4⟩ : ∃ P : Int, P = (p4 : Int) := ⟨_, rfl⟩
                          simp only [← hP1, ← hP2, ← hP3, ← hP4] at hit g0 g1 g2 g3
                          have HG := hid (fun W (hW : New wr W) => And.intro (hW.cellK g0) (And.intro (hW.cellK g1) (And.intro (hW.cellK g2) (hW.cellK g3))))
                          have hq1 := fun W => neq_same P1 P2 P3 P4 W
                          have hq2 := fun W => neq_same (S1 : Int) 4 1 (y : Int) W
                          have hmiss : hit6 (S : Int) L ρ a y = false → Calls Try.prog 14 #[ptr X, .int .i64 (R : Int), .int .i64 (S1 : Int), .int .i64 (y : Int)] wr fun e w' => e = .returned (.tuple #[pt P1 P2 P3 P4, .int .i64 0]) ∧ New wr w' := fun hh => by
                            have := hlk
                            rw [hh] at this
                            rw [hP1, hP2, hP3, hP4]
                            exact this
                          have hhit : hit6 (S : Int) L ρ a y = true → RI = 1 → Calls Try.prog 14 #[ptr X, .int .i64 (R : Int), .int .i64 (S1 : Int), .int .i64 (y : Int)] wr fun e w' => e = .returned (.tuple #[pt (S1 : Int) 4 1 (y : Int), .int .i64 0]) ∧ New wr w' := fun hh h1 => by
                            have hρ1 : ρ = 1 := by have := HA4.out.2.1; omega
                            have := hlk
                            rw [hh, hρ1, ← HA5.out.2] at this
                            exact this
                          have HN := hid hn
                          have HC := hid (And.intro hit (And.intro hmiss hhit))
                          clear hlk hit hmiss hhit hn g0 g1 g2 g3 hP1 hP2 hP3 hP4
                          cases h1 : (RI == 1) with
                          | false =>
                            have HLk := hid (HC.out.2.1 (by rw [HC.out.1, decide_eq_false (beq_eq_false_iff_ne.1 h1)]; rfl))
                            go_wp2_with fail
                            refine HLk.out.mono ?_
                            rintro e w7 ⟨rfl, n7⟩
                            obtain ⟨g0, g1, g2, g3⟩ := HG.out _ (n7.alloc (.cells #[.int .i64 P1, .int .i64 P2, .int .i64 P3, .int .i64 P4] 43))
                            have HN7 := hid (((HN.out.step n7).alloc (.cells #[.int .i64 P1, .int .i64 P2, .int .i64 P3, .int .i64 P4] 43)).alloc (.cells #[.int .i64 P1, .int .i64 P2, .int .i64 P3, .int .i64 P4] 43))
                            clear n7
                            go_wp2_with fail
                            exact ⟨⟨y + 1, by omega, by go_num, HN7.out⟩, by simp [intOf]; omega⟩
                          | true =>
                            cases h3 : (P3 == 0) with
                            | false =>
                              have HLk := hid (HC.out.2.1 (by rw [HC.out.1, decide_eq_false (beq_eq_false_iff_ne.1 h3)]; simp))
                              go_wp2_with fail
                              refine HLk.out.mono ?_
                              rintro e w7 ⟨rfl, n7⟩
                              obtain ⟨g0, g1, g2, g3⟩ := HG.out _ (n7.alloc (.cells #[.int .i64 P1, .int .i64 P2, .int .i64 P3, .int .i64 P4] 43))
                              have HN7 := hid (((HN.out.step n7).alloc (.cells #[.int .i64 P1, .int .i64 P2, .int .i64 P3, .int .i64 P4] 43)).alloc (.cells #[.int .i64 P1, .int .i64 P2, .int .i64 P3, .int .i64 P4] 43))
                              clear n7
                              go_wp2_with fail
                              exact ⟨⟨y + 1, by omega, by go_num, HN7.out⟩, by simp [intOf]; omega⟩
                            | true =>
                              cases h5 : (P1 == (S : Int)) with
                              | false =>
                                have HLk := hid (HC.out.2.1 (by rw [HC.out.1, decide_eq_false (beq_eq_false_iff_ne.1 h5)]; simp))
                                go_wp2_with fail
                                refine HLk.out.mono ?_
                                rintro e w7 ⟨rfl, n7⟩
                                obtain ⟨g0, g1, g2, g3⟩ := HG.out _ (n7.alloc (.cells #[.int .i64 P1, .int .i64 P2, .int .i64 P3, .int .i64 P4] 43))
                                have HN7 := hid (((HN.out.step n7).alloc (.cells #[.int .i64 P1, .int .i64 P2, .int .i64 P3, .int .i64 P4] 43)).alloc (.cells #[.int .i64 P1, .int .i64 P2, .int .i64 P3, .int .i64 P4] 43))
                                clear n7
                                go_wp2_with fail
                                exact ⟨⟨y + 1, by omega, by go_num, HN7.out⟩, by simp [intOf]; omega⟩
                              | true =>
                                have HLk := hid (HC.out.2.2 (by rw [HC.out.1, decide_eq_true (beq_iff_eq.1 h1), decide_eq_true (beq_iff_eq.1 h3), decide_eq_true (beq_iff_eq.1 h5)]; rfl) (beq_iff_eq.1 h1))
                                go_wp2_with fail
                                refine HLk.out.mono ?_
                                rintro e w7 ⟨rfl, n7⟩
                                obtain ⟨g0, g1, g2, g3⟩ := HG.out _ (n7.alloc (.cells #[.int .i64 (S1 : Int), .int .i64 4, .int .i64 1, .int .i64 (y : Int)] 43))
                                have hn1 := HN.out.step n7
                                have hsz := hn1.size
                                go_wp2_with fail
                                refine ⟨⟨y + 1, by omega, by go_num, ?_⟩, by simp [intOf]; omega⟩
                                repeat (first | exact hn1 | (refine New.alloc ?_ _) | (refine New.setCell ?_ (by first | exact hsz | (simp; omega)) _) | (refine New.drew ?_))
                          --]] cmp
                        · have hye : y = 3 := by omega
                          subst hye
                          have HY := hid hn
                          clear hn
                          go_wp2_with fail
                          exact ⟨⟨a + 1, by omega, by go_num, HY.out⟩, by simp [intOf]; omega⟩
                    · have hae : a = 3 := by omega
                      subst hae
                      have HY := hid (And.intro hn HA4.out.2.1)
                      clear hn
                      go_wp2_with fail
                      exact ⟨⟨ρ + 1, RI + 1, by omega, by have := HY.out.2; omega, by go_num, HY.out.1⟩, by have := HY.out.2; simp [intOf]; omega⟩
                · have r1 : ¬ RI < 2 := by omega
                  have HZ := hid ((HN1.out.step HM.out.1.new).step hn)
                  clear hn hRI
                  go_wp2
                  go_ret
                  exact ⟨rfl, HZ.out⟩
              --]] loose
          --]] rest
theorem three_of {H : Type} (w : World) (ds : List Value) (h : RArr 3 1 (RInt .u8) w ds) : ∃ x : T3, ds = tc x ∧ ok3 x := by
  obtain ⟨hl, he⟩ := h
  match ds, hl with
  | [x, y, z], _ =>
    obtain ⟨a, e1, h1⟩ := he 0 (by decide)
    obtain ⟨b, e2, h2⟩ := he 1 (by decide)
    obtain ⟨c, e3, h3⟩ := he 2 (by decide)
    simp at e1 e2 e3
    subst e1 e2 e3
    exact ⟨(a, b, c), rfl, wf_u8 h1, wf_u8 h2, wf_u8 h3⟩
set_option maxRecDepth 100000 in
theorem linkageLoose_row {H : Type} {enc : TypeId × Value → H} (W : World) {base : Nat}
    (v0 : Value) (d0 : DataW H) (p0 : List MemPlace) (k0 : Value.okWide Try.prog W .any base 36 v0) (h0 : DataW.Trod enc Try.prog W 0 (fun _ => true) true 36 v0 d0 p0) (l0 : ∀ x ∈ p0, x.block < W.heap.size)
    (v1 : Value) (d1 : DataW H) (p1 : List MemPlace) (k1 : Value.okWide Try.prog W .any base 5 v1) (h1 : DataW.Trod enc Try.prog W 0 (fun _ => true) true 5 v1 d1 p1) (l1 : ∀ x ∈ p1, x.block < W.heap.size)
    : Calls Try.prog 4 #[v0, v1] W fun e W' => e = .returned (.bool true) ∧ Below W.heap.size W W' := by
  obtain ⟨z, rfl, rfl, rfl, hwz⟩ := open_int Try.underlying5 k1 h1
  obtain ⟨z0, z1⟩ := wf_u8 hwz
  obtain ⟨Z, rfl⟩ := Int.eq_ofNat_of_zero_le z0
  have oU : Opens H Try.prog 5 1 (RInt .u8) := Opens.int Try.underlying5 (by kernel_rfl)
  have oA : Opens H Try.prog 40 (3 * 1) (RArr 3 1 (RInt .u8)) := Opens.array Try.underlying40 oU (by kernel_rfl)
  have oS := Opens.slice Try.underlying36 (by kernel_rfl) oA (by decide)
  obtain ⟨l, hl, hq⟩ := oS.list (f := tc) (Q := ok3) Try.underlying36 (fun w ds hR => three_of (H := H) w ds hR) k0 h0
  exact linkageLoose_walk _ l hq Z (by omega) W hl
end Go.Proofs.Yteakbhfegbghoaa.Law
