/- The contract of Read. -/
import Derived.Test.YtnoahdobgndmnaaObjS
namespace Go.Proofs.Ytnoahdobgndmnaa.Obj
open Go Go.RowKit Go.Maps Go.Proofs.Ytnoahdobgndmnaa.Kit Go.Proofs.Ytnoahdobgndmnaa.Str Go.Proofs.Ytnoahdobgndmnaa.Names Go.Proofs.Ytnoahdobgndmnaa.Let Go.Proofs.Ytnoahdobgndmnaa.Wd
open Go.Proofs.Ytnoahdobgndmnaa.Letters (wv WsAt word_info)
set_option linter.unusedSimpArgs false
set_option linter.unusedVariables false
theorem max_4 (ats : Array TypeId) (ty : TypeId) (k k1 k2 k3 : IntKind) (a b c d : Int) : Builtin.max_ ats ty #[.int k a, .int k1 b, .int k2 c, .int k3 d] = pure (.int k (mxZ (mxZ (mxZ a b) c) d)) := by
  have e : ∀ x y : Int, (if x < y then y else x) = mxZ x y := fun x y => by unfold mxZ; split <;> omega
  have h : ∀ (k' : IntKind) (x y : Int), Builtin.max2 (.int k x) (.int k' y) = pure (.int k (mxZ x y)) := fun k' x y => by simp only [Builtin.max2, gt_iff_lt, e]
  simp only [Builtin.max_, List.foldlM_cons, List.foldlM_nil, h, pure_bind]
theorem sl_cap {w : World} {base : Nat} {e : TypeId} {size n m c : Nat} {a : Option Addr} {cs : List Value} (h : Sl w base e size (.slice a n c) m cs) : c ≤ maxLen := by
  rcases h.2 with ⟨e, _⟩ | ⟨g, o, cap, cur, e, _, _, _, hm, _⟩
  · injection e with _ _ e; rw [e]; exact Nat.zero_le _
  · injection e with _ _ e; rw [e]; exact hm
theorem ls_off {α : Type} {k : Nat} {f : α → List Value} {w w' : World} {v : Value} {xs : List α} {G : Nat} {t : TypeId} (h : LsAt k f w v xs) (hb : Blk w G t #[.slice none 0 0, .slice none 0 0, .slice none 0 0, .slice none 0 0]) (hf : ∀ x, ∃ u, (f x)[0]? = some u ∧ u ≠ .slice none 0 0) (hk : Keeps (fun i => i = G) w w') : LsAt k f w' v xs := by
  obtain ⟨a, c, hv, h1, h2, h3⟩ := h
  refine ⟨a, c, hv, h1, h2, fun h0 => ?_⟩
  obtain ⟨b, o, ha, hlt, hc⟩ := h3 h0
  have hne : b ≠ G := by
    rintro rfl
    obtain ⟨u, hu, hu2⟩ := hf (xs[0]'h0)
    have := hc 0 _ (List.getElem?_eq_getElem h0) 0 u hu
    rw [hb.cell] at this
    have hm := Array.mem_of_getElem? this
    simp at hm
    exact hu2 hm
  exact ⟨b, o, ha, Nat.lt_of_lt_of_le hlt hk.size, fun i x hx j u hu => hk.cell (hc i x hx j u hu) hne⟩
theorem ob_off {w w' : World} {v : Value} {O : Ob} {G : Nat} {t : TypeId} (h : ObAt w v O) (hb : Blk w G t #[.slice none 0 0, .slice none 0 0, .slice none 0 0, .slice none 0 0]) (hk : Keeps (fun i => i = G) w w') : ObAt w' v O := by
  obtain ⟨a, b, c, d, e, h1, h2, h3, h4⟩ := h
  exact ⟨a, b, c, d, e, ls_off h1 hb (fun x => ⟨_, rfl, by simp⟩) hk, ls_off h2 hb (fun x => ⟨_, rfl, by simp⟩) hk, ls_off h3 hb (fun x => ⟨_, rfl, by simp⟩) hk, ls_off h4 hb (fun x => ⟨_, rfl, by simp⟩) hk⟩
theorem ObAt.form {w : World} {v : Value} {O : Ob} (h : ObAt w v O) : ∃ x1 n1 y1 x2 n2 y2 x3 n3 y3 x4 n4 y4, v = .agg #[.slice x1 n1 y1, .slice x2 n2 y2, .slice x3 n3 y3, .slice x4 n4 y4] := by
  obtain ⟨a, b, c, d, e, ⟨_, _, h1, _⟩, ⟨_, _, h2, _⟩, ⟨_, _, h3, _⟩, ⟨_, _, h4, _⟩⟩ := h
  subst h1 h2 h3 h4
  exact ⟨_, _, _, _, _, _, _, _, _, _, _, _, e⟩
def S5 (w : World) (M : Nat) (a b c d : Nat) (e : Int) : Prop := w.cell? ⟨M, 0, none⟩ = some (.int .i64 (a : Int)) ∧ w.cell? ⟨M, 1, none⟩ = some (.int .i64 (b : Int)) ∧ w.cell? ⟨M, 2, none⟩ = some (.int .i64 (c : Int)) ∧ w.cell? ⟨M, 3, none⟩ = some (.int .i64 (d : Int)) ∧ w.cell? ⟨M, 4, none⟩ = some (.int .i64 e)
theorem S5.keeps {w w' : World} {M G : Nat} {a b c d : Nat} {e : Int} (h : S5 w M a b c d e) (hk : Keeps (fun i => i = G) w w') (hn : ¬ M = G) : S5 w' M a b c d e := ⟨hk.cell h.1 hn, hk.cell h.2.1 hn, hk.cell h.2.2.1 hn, hk.cell h.2.2.2.1 hn, hk.cell h.2.2.2.2 hn⟩
theorem S5.new_ {w w' : World} {M : Nat} {a b c d : Nat} {e : Int} (h : S5 w M a b c d e) (hk : New w w') : S5 w' M a b c d e := ⟨hk.cellK h.1, hk.cellK h.2.1, hk.cellK h.2.2.1, hk.cellK h.2.2.2.1, hk.cellK h.2.2.2.2⟩
theorem S5.ex {w : World} {M : Nat} {a b c d : Nat} {e : Int} (h : S5 w M a b c d e) : w.cell? ⟨M, 0, none⟩ = some (.int .i64 (a : Int)) ∧ w.cell? ⟨M, 1, none⟩ = some (.int .i64 (b : Int)) ∧ w.cell? ⟨M, 2, none⟩ = some (.int .i64 (c : Int)) ∧ w.cell? ⟨M, 3, none⟩ = some (.int .i64 (d : Int)) ∧ w.cell? ⟨M, 4, none⟩ = some (.int .i64 e) := h
theorem S5_set4 {w : World} {M G : Nat} {a b c d : Nat} {e : Int} (h : S5 w M a b c d e) (p q r s : Value) (hn : ¬ M = G) : S5 ((((w.setCell ⟨G, 0, none⟩ p).setCell ⟨G, 1, none⟩ q).setCell ⟨G, 2, none⟩ r).setCell ⟨G, 3, none⟩ s) M a b c d e :=
  S5.keeps h (set4_keeps w G p q r s) hn
def mask (x : Nat) : Nat := x % 68719476736
def mk (ws : List Nat) : List Nat := ws.map mask
def mxd (ws : List Nat) (k : Nat) : List Nat := (ws.take k).map mask ++ ws.drop k
theorem mxd_get {ws : List Nat} {k : Nat} : (mxd ws k)[k]? = ws[k]? := by
  unfold mxd
  by_cases h : k < ws.length
  · have hl : ((ws.take k).map mask).length = k := by rw [List.length_map, List.length_take]; omega
    rw [List.getElem?_append_right (by omega), hl, Nat.sub_self, List.getElem?_drop, Nat.add_zero]
  · rw [List.getElem?_eq_none (by simp; omega), List.getElem?_eq_none (by omega)]
theorem mxd_set {ws : List Nat} {k x : Nat} (h : ws[k]? = some x) : (mxd ws k).set k (mask x) = mxd ws (k + 1) := by
  have hk := (List.getElem?_eq_some_iff.1 h).1
  have hx := (List.getElem?_eq_some_iff.1 h).2
  have hl : ((ws.take k).map mask).length = k := by rw [List.length_map, List.length_take]; omega
  unfold mxd
  rw [List.set_append_right _ _ (by omega), hl, Nat.sub_self, take_snoc h, List.map_append, List.append_assoc]
  congr 1
  rw [List.drop_eq_getElem_cons hk, hx]
  rfl
theorem mxd_all (ws : List Nat) : mxd ws ws.length = mk ws := by unfold mxd mk; simp
theorem mk_lo (ws : List Nat) : Lo (mk ws) := fun x hx => by
  obtain ⟨y, _, rfl⟩ := List.mem_map.1 hx
  unfold mask maskN
  omega
/-- The number at place i of the end. -/
def mm (ws : List Nat) (i : Nat) : Nat := (mk ws).getD (ws.length - 5 + i) 0
def headOk (ws : List Nat) : Prop := 5 ≤ ws.length ∧ ws.length ≤ 1024 ∧ mm ws 4 = magic ∧ mm ws 0 ≤ 1024 ∧ mm ws 1 ≤ 1024 ∧ mm ws 2 ≤ 1024 ∧ mm ws 3 ≤ 1024
noncomputable def theO (ws : List Nat) : Ob := readO ((mk ws).take (ws.length - 5)) (mm ws 0) (mm ws 1) (mm ws 2) (mm ws 3)
noncomputable def theE (ws : List Nat) : Rd := readE ((mk ws).take (ws.length - 5)) (mm ws 0) (mm ws 1) (mm ws 2) (mm ws 3)
def Reads (ws : List Nat) : Prop := headOk ws ∧ (theE ws).2 = false ∧ (theE ws).1 = [] ∧ mayB (theO ws) = true
/-- What Read leaves. -/
def ReadPost (w : World) (ws : List Nat) (e : Ending) (w' : World) : Prop :=
  (Reads ws ∧ ∃ v, e = .returned (.tuple #[v, .int .i64 0]) ∧ ObAt w' v (theO ws) ∧ New w w') ∨ (¬ Reads ws ∧ e = .returned (.tuple #[.agg #[.slice none 0 0, .slice none 0 0, .slice none 0 0, .slice none 0 0], .int .i64 12]) ∧ New w w')
theorem mm_lt (ws : List Nat) (i : Nat) : mm ws i < 68719476736 := by
  unfold mm
  rw [List.getD_eq_getElem?_getD]
  cases h : (mk ws)[ws.length - 5 + i]? with
  | none => decide
  | some x =>
    have := mk_lo ws x (List.mem_of_getElem? h)
    unfold maskN at this
    show x < _
    omega
theorem zero_five (w : World) : (zeroValue 55).run Try.prog w = .ok (.agg (zarr 5 (.int .i64 0))) w := by kernel_rfl
theorem textR_len (s : Rd) : (textR s).1.length ≤ 255 := by
  unfold textR
  split
  · rename_i h
    rw [show (rdL s.1).length = rdN s.1 from rdL_len _]
    exact h.2.2.1
  · simp
theorem defsR_lens : ∀ (k : Nat) (s : Rd), ∀ d ∈ (defsR k s).1, d.1.length ≤ 255
  | 0, s => fun d hd => by cases hd
  | k + 1, s => fun d hd => by
    rw [defsR] at hd
    rcases List.mem_append.1 hd with hd | hd
    · exact defsR_lens k s d hd
    · rw [List.mem_singleton.1 hd]; exact textR_len _
theorem linksR_lens : ∀ (k : Nat) (s : Rd), ∀ x ∈ (linksR k s).1, x.1.length ≤ 255 ∧ x.2.1.length ≤ 255
  | 0, s => fun d hd => by cases hd
  | k + 1, s => fun d hd => by
    rw [linksR] at hd
    rcases List.mem_append.1 hd with hd | hd
    · exact linksR_lens k s d hd
    · rw [List.mem_singleton.1 hd]; exact ⟨textR_len _, textR_len _⟩
theorem theO_lens (ws : List Nat) : Lens (theO ws) :=
  ⟨fun d hd => Nat.le_trans (defsR_lens _ _ d hd) (by unfold maxLen; decide), fun x hx => ⟨Nat.le_trans (linksR_lens _ _ x hx).1 (by unfold maxLen; decide), Nat.le_trans (linksR_lens _ _ x hx).2 (by unfold maxLen; decide)⟩⟩
set_option maxRecDepth 100000 in
set_option maxHeartbeats 8000000 in
theorem Read_any (w : World) (v : Value) (ws : List Nat) (h : LsAt 1 uw w v ws) (hx : ∀ x ∈ ws, x < 18446744073709551616) :
    Calls Try.prog 9 #[v] w (ReadPost w ws) := by
  obtain ⟨a, c, hv, hlc, hcm, _⟩ := id h
  subst hv
  have hz := zero_obj
  have hz5 := zero_five
  unfold maxLen at hcm
  have hnil : ∀ X, New w X → Blk X w.heap.size 27 #[.slice none 0 0, .slice none 0 0, .slice none 0 0, .slice none 0 0] → True := fun _ _ _ => trivial
  have hB := Blk.new w 27 #[.slice none 0 0, .slice none 0 0, .slice none 0 0, .slice none 0 0]
  have hN := (New.refl w).alloc (.cells #[.slice none 0 0, .slice none 0 0, .slice none 0 0, .slice none 0 0] 27)
  obtain ⟨L, hL⟩ : ∃ L, L = ws.length := ⟨_, rfl⟩
  rw [← hL] at hlc h ⊢
  by_cases h5 : 5 ≤ L
  · by_cases h10 : L ≤ 1024
    · obtain ⟨n, hn⟩ : ∃ n, n = L - 5 := ⟨_, rfl⟩
      have hLn : L = n + 5 := by omega
      have i0 : IntKind.i64.wrap ((n : Int) + 5 - 5) = (n : Int) := by rw [IntKind.wrap_i64]; omega
      have i00 : IntKind.i64.wrap (n : Int) = (n : Int) := by rw [IntKind.wrap_i64]; omega
      have i1 : ¬ (n : Int) < 0 := by omega
      have i2 : ¬ (1024 : Int) < (n : Int) + 5 := by omega
      have i3 : ¬ (n : Int) + 5 < 5 := by omega
      obtain ⟨w1, hw1⟩ : ∃ w1, w1 = w.alloc (.cells #[.slice none 0 0, .slice none 0 0, .slice none 0 0, .slice none 0 0] 27) := ⟨_, rfl⟩
      obtain ⟨B, hBe⟩ : ∃ B, B = w.heap.size := ⟨_, rfl⟩
      rw [← hw1] at hB hN
      rw [← hBe] at hB
      have hC := clone_any _ ws w1 (h.new_ hN |> fun q => (by rw [← hLn] at *; exact q)) (by rw [← hL]; omega)
      rw [← hL, hLn] at hC
      have HC := hid hC
      have HN := hid (And.intro hN (And.intro hB (And.intro hL (And.intro hx hB.lt))))
      have hw1' := hid hw1
      have hBe' := hid hBe
      subst hLn
      clear hN hB hL hx hC hnil h hw1 hBe hn h5 h10
      go_enter Try.func9, Try.ntmps9
      go_wp2_with fail
      rw [← hw1'.out, ← hBe'.out]
      refine HC.out.mono ?_
      rintro e w2 ⟨v2, rfl, hs2, hn2⟩
      obtain ⟨g, o, c2, rfl, hg1, hg2, hc2, _, hfr⟩ := hs2.form (by omega)
      have HS2 := hid (And.intro hs2 (And.intro hn2 hg1))
      clear hs2 hn2 hg2 hg1 hfr
      go_wp2_with fail
      go_loopw [27] (fun i wr => ∃ k : Nat, k ≤ n + 5 ∧ i = .int .i64 (k : Int) ∧ New w1 wr ∧ Sl wr w1.heap.size 37 1 (.slice (some ⟨g, o, none⟩) (n + 5) c2) (n + 5) (flatOf uw (mxd ws k))) (fun i _ => n + 5 - (intOf i).toNat)
      case atStart => exact ⟨0, Nat.zero_le _, rfl, HS2.out.2.1, by have := HS2.out.1; simpa [mxd] using this⟩
      case round =>
        obtain ⟨k, hk, rfl, hnr, hsv⟩ := hrel
        by_cases hkn : k < n + 5
        · have w2' : IntKind.i64.wrap ((k : Int) + 1) = k + 1 := by rw [IntKind.wrap_i64]; omega
          have hkL : k < ws.length := by rw [← HN.out.2.2.1]; exact hkn
          have hxk := List.getElem?_eq_getElem hkL
          generalize ws[k]'hkL = x at hxk
          have hx64 := HN.out.2.2.2.1 x (List.mem_of_getElem? hxk)
          obtain ⟨g', o', c', e', _, _, _, hcell, hfr⟩ := hsv.form (by omega)
          injection e' with e1 _ _
          injection e1 with e1
          injection e1 with e1 e2
          subst e1 e2
          have c0 : wr.cell? ⟨g, o + k, none⟩ = some (.int .u64 (x : Int)) := hcell k _ (by rw [flat_uw, List.getElem?_map, mxd_get, hxk]; rfl)
          have f0 := hfr (o + k)
          have hband : Go.bits .and .u64 (x : Int) 68719476735 = ((mask x : Nat) : Int) := by rw [and_mask (by omega) (by omega)]; unfold mask; omega
          have j0 : (0 : Int) ≤ (k : Int) := by omega
          have j1 : (k : Int) < (n : Int) + 5 := by omega
          have hset := hsv.set k (by omega) (wv (mask x))
          have hcs : (flatOf uw (mxd ws k)).set k (wv (mask x)) = flatOf uw (mxd ws (k + 1)) := by
            rw [← mxd_set hxk, flat_uw, flat_uw, List.map_set]
          rw [hcs] at hset
          have hnw : New w1 (wr.setCell ⟨g, o + k, none⟩ (wv (mask x))) := hnr.kept (Keeps.setCell (F := fun i => i = g) (Keeps.refl _ _) (.inr rfl) _) (fun i hi => by rw [hi]; exact HS2.out.2.2)
          have HX := hid (And.intro hset hnw)
          clear hset hnw hcs hsv hnr hcell hfr hxk hkL
          generalize mask x = y at *
          go_wp2_with fail
          exact ⟨⟨k + 1, by omega, by go_num, HX.out.2, HX.out.1⟩, by simp [intOf]; omega⟩
        · have hke : n + 5 = k := by omega
          subst hke
          obtain ⟨wa, hwa⟩ : ∃ wa, wa = wr := ⟨_, rfl⟩
          subst hwa
          have hlt : ¬ (n : Int) + 5 < (n : Int) + 5 := by omega
          have hall : mxd ws (n + 5) = mk ws := by rw [HN.out.2.2.1]; exact mxd_all ws
          rw [hall] at hsv
          have hml : (mk ws).length = n + 5 := by unfold mk; rw [List.length_map, ← HN.out.2.2.1]
          obtain ⟨g', o', c', e', _, hga, _, hcell, _⟩ := hsv.form (by omega)
          injection e' with e1 _ e3
          injection e1 with e1
          injection e1 with e1 e2
          subst e1 e2 e3
          have hA := Arr.new wa 55 5 (.int .i64 0)
          obtain ⟨M, hM⟩ : ∃ M, M = wa.heap.size := ⟨_, rfl⟩
          obtain ⟨wb, hwb⟩ : ∃ wb, wb = wa.alloc (.cells (zarr 5 (.int .i64 0)) 55) := ⟨_, rfl⟩
          rw [← hM, ← hwb] at hA
          have hnb : New wa wb := by rw [hwb]; exact (New.refl _).alloc _
          have hcellb : ∀ i, i < n + 5 → ∃ x, (mk ws)[i]? = some x ∧ wb.cell? ⟨g, o + i, none⟩ = some (wv x) := fun i hi => by
            have hx := List.getElem?_eq_getElem (l := mk ws) (i := i) (by omega)
            exact ⟨_, hx, hnb.cellK (hcell i _ (by rw [flat_uw, List.getElem?_map, hx]; rfl))⟩
          have hmm : ∀ k x, (mk ws)[n + k]? = some x → mm ws k = x := fun k x hx => by
            unfold mm
            rw [← HN.out.2.2.1, show n + 5 - 5 + k = n + k by omega, List.getD_eq_getElem?_getD, hx]
            rfl
          have HA := hid (And.intro hA (And.intro hnb (And.intro hcellb (And.intro hmm (And.intro hnr (And.intro hsv (And.intro hga hml)))))))
          have HMM := hid hM
          have i4 : (0 : Int) ≤ (n : Int) := by omega
          have i5 : (n : Int) ≤ (n : Int) + 5 := by omega
          have i6 : (n : Int) + 5 ≤ (c2 : Int) := by omega
          have i7 : ¬ c2 = n := by omega
          have i9 : (n : Int) ≤ (c2 : Int) := by omega
          have i8 : n + 5 - n = 5 := by omega
          clear hA hnb hcellb hmm hnr hsv hga hml hcell hall HC HS2
          go_wp2_with fail
          rw [← hwb, ← hM]
          clear hwb hM
          go_loopw [41] (fun i wx => ∃ k : Nat, k ≤ 5 ∧ i = .int .i64 (k : Int) ∧ Keeps (fun i => i = M) wb wx ∧ Arr wx M 55 5 (fun i => .int .i64 (if i < k then (mm ws i : Int) else 0))) (fun i _ => 5 - (intOf i).toNat)
          case atStart => exact ⟨0, by omega, rfl, Keeps.refl _ _, HA.out.1.congr fun i _ => by simp⟩
          case round =>
            obtain ⟨k, hk, rfl, hkp, har⟩ := hrel
            by_cases hkn : k < 5
            · have w2' : IntKind.i64.wrap ((k : Int) + 1) = k + 1 := by rw [IntKind.wrap_i64]; omega
              obtain ⟨x, hx, hcx⟩ := HA.out.2.2.1 (n + k) (by omega)
              have hgM : ¬ g = M := by have := HA.out.2.2.2.2.2.2.1; have := HMM.out; omega
              have c0 : wr.cell? ⟨g, o + n + k, none⟩ = some (.int .u64 (x : Int)) := by
                have := hkp.cell hcx hgM
                rw [← Nat.add_assoc] at this
                exact this
              have hxm := HA.out.2.2.2.1 k x hx
              have hxlo := mk_lo ws x (List.mem_of_getElem? hx)
              unfold maskN at hxlo
              have z0 : IntKind.i64.wrap (x : Int) = x := by rw [IntKind.wrap_i64]; omega
              have j0 : (0 : Int) ≤ (k : Int) := by omega
              have j1 : (k : Int) < 5 := by omega
              have d0 := har.cell (i := k) hkn
              have f0 := har.frozen k
              have hset := har.set k (.int .i64 (x : Int))
              have hkp2 : Keeps (fun i => i = M) wb (wr.setCell ⟨M, k, none⟩ (.int .i64 (x : Int))) := hkp.setCell (.inr rfl) _
              have HX := hid (And.intro (hset.congr (f' := fun i => .int .i64 (if i < k + 1 then (mm ws i : Int) else 0)) (fun i hi => by
                by_cases e : i = k
                · subst e; rw [if_pos rfl, if_pos (by omega), hxm]
                · rw [if_neg e]
                  by_cases h : i < k
                  · rw [if_pos h, if_pos (by omega)]
                  · rw [if_neg h, if_neg (by omega)])) hkp2)
              rw [if_neg (Nat.lt_irrefl k)] at d0
              clear hset hkp2 har hkp hxm hx hcx
              go_wp2_with fail
              exact ⟨⟨k + 1, by omega, by go_num, HX.out.2, HX.out.1⟩, by simp [intOf]; omega⟩
            · have hke : 5 = k := by omega
              subst hke
              have hlt : ¬ (5 : Int) < 5 := by omega
              obtain ⟨wd, hwd⟩ : ∃ wd, wd = wr := ⟨_, rfl⟩
              subst hwd
              have har' : Arr wd M 55 5 (fun i => .int .i64 (mm ws i : Int)) := har.congr fun i hi => by rw [if_pos hi]
              have m0 := har'.cell (i := 0) (by omega)
              have m1 := har'.cell (i := 1) (by omega)
              have m2 := har'.cell (i := 2) (by omega)
              have m3 := har'.cell (i := 3) (by omega)
              have m4 := har'.cell (i := 4) (by omega)
              have hmax := fun ats ty => max_4 ats ty .i64 .i64 .i64 .i64 (mm ws 0 : Int) (mm ws 1 : Int) (mm ws 2 : Int) (mm ws 3 : Int)
              have hmx : mxZ (mxZ (mxZ (mm ws 0 : Int) (mm ws 1 : Int)) (mm ws 2 : Int)) (mm ws 3 : Int) ≤ 1024 ↔ mm ws 0 ≤ 1024 ∧ mm ws 1 ≤ 1024 ∧ mm ws 2 ≤ 1024 ∧ mm ws 3 ≤ 1024 := by unfold mxZ; omega
              have hMw : w1.heap.size ≤ M := by rw [HMM.out]; exact HA.out.2.2.2.2.1.size
              have hnd : New w1 wd := ((HA.out.2.2.2.2.1.step HA.out.2.1).kept hkp (fun i hi => by rw [hi]; exact hMw))
              have hBd := HN.out.2.1.new_ hnd
              obtain ⟨b0, b1, b2, b3⟩ := blk4 hBd
              have bf := hBd.frozen
              obtain ⟨h0, h1, h2, h3⟩ := blk4 (set4_blk hBd (.slice none 0 0) (.slice none 0 0) (.slice none 0 0) (.slice none 0 0))
              unfold set4 at h0 h1 h2 h3
              have H0 := hid (And.intro h0 (And.intro h1 (And.intro h2 h3)))
              clear h0 h1 h2 h3
              have HD := hid (And.intro har' (And.intro hkp (And.intro hmx (And.intro hMw (And.intro hnd hBd)))))
              clear har har' hkp hmx hMw hnd hBd
              generalize hM0 : mm ws 0 = M0 at *
              generalize hM1 : mm ws 1 = M1 at *
              generalize hM2 : mm ws 2 = M2 at *
              generalize hM3 : mm ws 3 = M3 at *
              generalize hM4 : mm ws 4 = M4 at *
              have HMS := hid (And.intro hM0 (And.intro hM1 (And.intro hM2 (And.intro hM3 hM4))))
              clear hM0 hM1 hM2 hM3 hM4
              generalize hX : mxZ (mxZ (mxZ (M0 : Int) (M1 : Int)) (M2 : Int)) (M3 : Int) = X at *
              clear hX
              by_cases hmg : M4 = 45812815077
              · have hmg' : (M4 : Int) = 45812815077 := by omega
                by_cases hxx : X ≤ 1024
                · have hxx' : ¬ 1024 < X := by omega
                  have hle := HD.out.2.2.1.1 hxx
                  have hhead : headOk ws := by
                    refine ⟨by have := HN.out.2.2.1; omega, by have := HN.out.2.2.1; omega, ?_, ?_, ?_, ?_, ?_⟩
                    · rw [HMS.out.2.2.2.2]; exact hmg
                    · rw [HMS.out.1]; exact hle.1
                    · rw [HMS.out.2.1]; exact hle.2.1
                    · rw [HMS.out.2.2.1]; exact hle.2.2.1
                    · rw [HMS.out.2.2.2.1]; exact hle.2.2.2
                  have htl : ((mk ws).take n).length = n := by rw [List.length_take, HA.out.2.2.2.2.2.2.2]; omega
                  have hcl : ∀ X, New wd X → ∀ i x, ((mk ws).take n)[i]? = some x → X.cell? ⟨g, o + i, none⟩ = some (wv x) := fun X hX i x hx => by
                    have hi : i < n := by rw [← htl]; exact (List.getElem?_eq_some_iff.1 hx).1
                    rw [List.getElem?_take_of_lt hi] at hx
                    obtain ⟨y, hy, hc⟩ := HA.out.2.2.1 i (by omega)
                    rw [hx] at hy
                    rw [Option.some.inj hy]
                    exact hX.cellK (HD.out.2.1.cell hc (by have := HA.out.2.2.2.2.2.2.1; have := HMM.out; show ¬ g = M; omega))
                  have hgd : g < wd.heap.size := by have := HA.out.2.2.2.2.2.2.1; have := HA.out.2.1.size; have := HD.out.2.1.size; omega
                  have hO : theO ws = readO ((mk ws).take n) M0 M1 M2 M3 := by
                    unfold theO
                    rw [HMS.out.1, HMS.out.2.1, HMS.out.2.2.1, HMS.out.2.2.2.1, ← HN.out.2.2.1, Nat.add_sub_cancel]
                  have hE : theE ws = readE ((mk ws).take n) M0 M1 M2 M3 := by
                    unfold theE
                    rw [HMS.out.1, HMS.out.2.1, HMS.out.2.2.1, HMS.out.2.2.2.1, ← HN.out.2.2.1, Nat.add_sub_cancel]
                  have hrd := fun X (hX : New wd X) => read_any X g o c2 ((mk ws).take n) M0 M1 M2 M3 M4 (by rw [htl]; omega) (by rw [htl]; omega) (sl_cap HA.out.2.2.2.2.2.1) (Nat.lt_of_lt_of_le hgd hX.size) (hcl X hX) (fun x hx => mk_lo ws x (List.mem_of_mem_take hx)) (by omega) (by omega) (by omega) (by omega)
                  rw [htl, ← hO, ← hE, hmg'] at hrd
                  rw [hmg'] at m4
                  have HRD := hid hrd
                  have HHD := hid hhead
                  obtain ⟨okb, hokb⟩ : ∃ okb : Bool, okb = (!(theE ws).2 && decide ((theE ws).1 = [])) := ⟨_, rfl⟩
                  have HOK := hid hokb
                  rw [← hokb] at hrd
                  replace HRD := hid hrd
                  clear hrd hhead htl hcl hgd hO hE hle hokb
                  go_upto_region 18 with fail
                  go_cut [10, 11] from 67 to 74 (fun v ok wx => ok = .bool okb ∧ ∃ (G : Nat) (a b c d : Value), v = .pointer (some ⟨G, 0, none⟩) ∧ wd.heap.size ≤ G ∧ Blk wx G 27 #[a, b, c, d] ∧ ObAt wx (.agg #[a, b, c, d]) (theO ws) ∧ New wd wx)
                  case first =>
                    have ND : New wd wd.drew := (New.refl _).drew
                    have NA : ∀ o, New wd (wd.alloc o).drew := fun o => ((New.refl _).alloc o).drew
                    have hS0 : S5 wd M M0 M1 M2 M3 45812815077 := ⟨m0, m1, m2, m3, m4⟩
                    have HS5 : Hid (∀ X, New wd X → S5 X M M0 M1 M2 M3 45812815077) := fun X hX => hS0.new_ hX
                    have HML : Hid (M < wd.heap.size) := HD.out.1.lt
                    have HMG : Hid (¬ M = wd.heap.size) := fun e => by have := HML.out; omega
                    have hSD := HS5.out _ ND
                    have hSA := fun o => HS5.out _ (NA o)
                    unfold S5 at hSD hSA
                    clear hS0
                    go_region_held3 (fun w' => w'.cell? ⟨M, 0, none⟩ = some (.int .i64 (M0 : Int)) ∧ w'.cell? ⟨M, 1, none⟩ = some (.int .i64 (M1 : Int)) ∧ w'.cell? ⟨M, 2, none⟩ = some (.int .i64 (M2 : Int)) ∧ w'.cell? ⟨M, 3, none⟩ = some (.int .i64 (M3 : Int)) ∧ w'.cell? ⟨M, 4, none⟩ = some (.int .i64 45812815077)) (first | with_reducible exact hSD | with_reducible exact hSA _ | with_reducible exact hT5 | with_reducible exact hT5a _ | with_reducible exact hT6) (first
                      | (go_at_call 19; (with_reducible refine (HRD.out _ ND).mono ?_); rintro e w5 ⟨vv, rfl, hob, hn5⟩; have hS5 := HS5.out _ (ND.step hn5); have hT5 := S5.ex hS5; have hT5a := fun o => S5.ex (S5.new_ hS5 ((New.refl w5).alloc o)); obtain ⟨x1, n1, y1, x2, n2, y2, x3, n3, y3, x4, n4, y4, rfl⟩ := ObAt.form hob)
                      | (go_at_call 19; (with_reducible refine (HRD.out _ (NA _)).mono ?_); rintro e w5 ⟨vv, rfl, hob, hn5⟩; have hS5 := HS5.out _ ((NA _).step hn5); have hT5 := S5.ex hS5; have hG5 := Blk.new_ (show Blk (wd.alloc (.cells #[.slice none 0 0, .slice none 0 0, .slice none 0 0, .slice none 0 0] 27)).drew wd.heap.size 27 #[.slice none 0 0, .slice none 0 0, .slice none 0 0, .slice none 0 0] from Blk.new wd _ _) hn5; obtain ⟨g50, g51, g52, g53⟩ := blk4 hG5; have gf5 := hG5.frozen; obtain ⟨x1, n1, y1, x2, n2, y2, x3, n3, y3, x4, n4, y4, rfl⟩ := ObAt.form hob; have hT6 := S5.ex (S5_set4 hS5 (.slice x1 n1 y1) (.slice x2 n2 y2) (.slice x3 n3 y3) (.slice x4 n4 y4) HMG.out)))
                    all_goals (go_wp2_with fail; go_meet)
                    all_goals first
                      | exact ⟨rfl, _, _, _, _, _, rfl, Nat.le_trans (Nat.le_refl _) hn5.size, Blk.new w5 _ _, hob.new_ ((New.refl w5).alloc _), (ND.step hn5).alloc _⟩
                      | exact ⟨rfl, _, _, _, _, _, rfl, Nat.le_refl _, set4_blk hG5 _ _ _ _, ob_off hob hG5 (set4_keeps w5 wd.heap.size _ _ _ _), ((NA _).step hn5 |> fun q => (New.refl wd).step q).kept (set4_keeps w5 wd.heap.size _ _ _ _) (fun i hi => by rw [hi]; exact Nat.le_refl _)⟩
                  case rest =>
                    obtain ⟨rfl, G, a', b', c', d', rfl, hG, hbG, hob, hnx⟩ := hcut
                    obtain ⟨g0, g1, g2, g3⟩ := blk4 hbG
                    have hBx := HD.out.2.2.2.2.2.new_ hnx
                    obtain ⟨b0, b1, b2, b3⟩ := blk4 hBx
                    have bf := hBx.frozen
                    obtain ⟨h0, h1, h2, h3⟩ := blk4 (set4_blk hBx (.slice none 0 0) (.slice none 0 0) (.slice none 0 0) (.slice none 0 0))
                    unfold set4 at h0 h1 h2 h3
                    have HR0 := hid (And.intro h0 (And.intro h1 (And.intro h2 h3)))
                    clear h0 h1 h2 h3
                    have hnw : New w wc := (HN.out.1.step HD.out.2.2.2.2.1).step hnx
                    have HC3 := hid (And.intro hob (And.intro hnx (And.intro hBx (And.intro hbG hnw))))
                    clear hG hbG hob hnx hBx hnw
                    have hcond : Reads ws ↔ okb = true ∧ mayB (theO ws) = true := by
                      rw [HOK.out]
                      unfold Reads
                      constructor
                      · rintro ⟨_, h2, h3, h4⟩
                        rw [h2, h3]
                        exact ⟨rfl, h4⟩
                      · rintro ⟨h1, h2⟩
                        rw [Bool.and_eq_true, Bool.not_eq_true', decide_eq_true_eq] at h1
                        exact ⟨HHD.out, h1.1, h1.2, h2⟩
                    have HCO := hid hcond
                    clear hcond H0
                    cases okb with
                    | false =>
                      have HF := hid (show ¬ Reads ws from fun hr => by have := (HCO.out.1 hr).1; cases this)
                      go_wp2_with fail
                      refine bodyPost_ret (v := .tuple #[.agg #[.slice none 0 0, .slice none 0 0, .slice none 0 0, .slice none 0 0], .int .i64 12]) (by simp [results, Try.results9, go_sem, HR0.out.1, HR0.out.2.1, HR0.out.2.2.1, HR0.out.2.2.2]) rfl ?_
                      exact .inr ⟨HF.out, rfl, HC3.out.2.2.2.2.kept (set4_keeps _ _ _ _ _ _) (fun i hi => by rw [hi, hBe'.out]; exact Nat.le_refl _)⟩
                    | true =>
                      have hMay := mayO_any wc _ (theO ws) HC3.out.1 (theO_lens ws)
                      obtain ⟨x1, n1, y1, x2, n2, y2, x3, n3, y3, x4, n4, y4, hfo⟩ := ObAt.form HC3.out.1
                      injection hfo with hfo
                      injection hfo with hfo
                      injection hfo with f1 hfo
                      injection hfo with f2 hfo
                      injection hfo with f3 hfo
                      injection hfo with f4 hfo
                      subst f1 f2 f3 f4
                      cases hmb : mayB (theO ws) with
                      | false =>
                        rw [hmb] at hMay
                        have HF := hid (show ¬ Reads ws from fun hr => by have := (HCO.out.1 hr).2; rw [hmb] at this; cases this)
                        have HMy := hid hMay
                        clear hMay hmb hfo
                        go_wp2_with fail
                        refine HMy.out.mono ?_
                        rintro e w6 ⟨rfl, n6⟩
                        have hB6 := HC3.out.2.2.1.new_ n6
                        obtain ⟨c0, c1, c2', c3⟩ := blk4 hB6
                        have cf := hB6.frozen
                        obtain ⟨h0, h1, h2, h3⟩ := blk4 (set4_blk hB6 (.slice none 0 0) (.slice none 0 0) (.slice none 0 0) (.slice none 0 0))
                        unfold set4 at h0 h1 h2 h3
                        have HR6 := hid (And.intro h0 (And.intro h1 (And.intro h2 h3)))
                        have HN6 := hid (HC3.out.2.2.2.2.step n6)
                        clear h0 h1 h2 h3 n6 hB6
                        go_wp2_with fail
                        refine bodyPost_ret (v := .tuple #[.agg #[.slice none 0 0, .slice none 0 0, .slice none 0 0, .slice none 0 0], .int .i64 12]) (by simp [results, Try.results9, go_sem, HR6.out.1, HR6.out.2.1, HR6.out.2.2.1, HR6.out.2.2.2]) rfl ?_
                        exact .inr ⟨HF.out, rfl, HN6.out.kept (set4_keeps _ _ _ _ _ _) (fun i hi => by rw [hi, hBe'.out]; exact Nat.le_refl _)⟩
                      | true =>
                        rw [hmb] at hMay
                        have HF := hid (HCO.out.2 ⟨rfl, hmb⟩)
                        have HMy := hid hMay
                        clear hMay hmb hfo
                        go_wp2_with fail
                        refine HMy.out.mono ?_
                        rintro e w6 ⟨rfl, n6⟩
                        have hB6 := HC3.out.2.2.1.new_ n6
                        obtain ⟨c0, c1, c2', c3⟩ := blk4 hB6
                        have cf := hB6.frozen
                        obtain ⟨d0, d1, d2, d3⟩ := blk4 (HC3.out.2.2.2.1.new_ n6)
                        obtain ⟨h0, h1, h2, h3⟩ := blk4 (set4_blk hB6 (.slice x1 n1 y1) (.slice x2 n2 y2) (.slice x3 n3 y3) (.slice x4 n4 y4))
                        have hob6 := ob_off (HC3.out.1.new_ n6) hB6 (set4_keeps w6 B (.slice x1 n1 y1) (.slice x2 n2 y2) (.slice x3 n3 y3) (.slice x4 n4 y4))
                        have hn6 := (HC3.out.2.2.2.2.step n6).kept (set4_keeps w6 B (.slice x1 n1 y1) (.slice x2 n2 y2) (.slice x3 n3 y3) (.slice x4 n4 y4)) (fun i hi => by rw [hi, hBe'.out]; exact Nat.le_refl _)
                        unfold set4 at h0 h1 h2 h3
                        have HR6 := hid (And.intro h0 (And.intro h1 (And.intro h2 h3)))
                        have HN6 := hid (And.intro hob6 hn6)
                        clear h0 h1 h2 h3 n6 hB6 hob6 hn6
                        go_wp2_with fail
                        refine bodyPost_ret (v := .tuple #[.agg #[.slice x1 n1 y1, .slice x2 n2 y2, .slice x3 n3 y3, .slice x4 n4 y4], .int .i64 0]) (by simp [results, Try.results9, go_sem, HR6.out.1, HR6.out.2.1, HR6.out.2.2.1, HR6.out.2.2.2]) rfl ?_
                        exact .inl ⟨HF.out, _, rfl, HN6.out.1, HN6.out.2⟩
                · have hxx' : 1024 < X := by omega
                  have hno : ¬ Reads ws := fun hr => hxx (HD.out.2.2.1.2 (by obtain ⟨⟨_, _, _, h0, h1, h2, h3⟩, _⟩ := hr; rw [HMS.out.1] at h0; rw [HMS.out.2.1] at h1; rw [HMS.out.2.2.1] at h2; rw [HMS.out.2.2.2.1] at h3; exact ⟨h0, h1, h2, h3⟩))
                  have HF := hid hno
                  clear hno hxx
                  go_wp2_with fail
                  refine bodyPost_ret (v := .tuple #[.agg #[.slice none 0 0, .slice none 0 0, .slice none 0 0, .slice none 0 0], .int .i64 12]) (by simp [results, Try.results9, go_sem, H0.out.1, H0.out.2.1, H0.out.2.2.1, H0.out.2.2.2]) rfl ?_
                  exact .inr ⟨HF.out, rfl, (HN.out.1.step HD.out.2.2.2.2.1).kept (set4_keeps _ _ _ _ _ _) (fun i hi => by rw [hi, hBe'.out]; exact Nat.le_refl _)⟩
              · have hmg' : ¬ (M4 : Int) = 45812815077 := by omega
                have hno : ¬ Reads ws := fun hr => hmg (by have := hr.1.2.2.1; rw [HMS.out.2.2.2.2] at this; exact this)
                have HF := hid hno
                clear hno hmg
                go_wp2_with fail
                refine bodyPost_ret (v := .tuple #[.agg #[.slice none 0 0, .slice none 0 0, .slice none 0 0, .slice none 0 0], .int .i64 12]) (by simp [results, Try.results9, go_sem, H0.out.1, H0.out.2.1, H0.out.2.2.1, H0.out.2.2.2]) rfl ?_
                exact .inr ⟨HF.out, rfl, (HN.out.1.step HD.out.2.2.2.2.1).kept (set4_keeps _ _ _ _ _ _) (fun i hi => by rw [hi, hBe'.out]; exact Nat.le_refl _)⟩
    · have hno : ¬ Reads ws := fun hr => h10 (by have := hr.1.2.1; omega)
      have i0 : IntKind.i64.wrap ((L : Int) - 5) = (L : Int) - 5 := by rw [IntKind.wrap_i64]; omega
      have i1 : ¬ (L : Int) - 5 < 0 := by omega
      have i2 : (1024 : Int) < (L : Int) := by omega
      have i3 : ¬ (L : Int) < 5 := by omega
      have HF := hid (And.intro hno hN)
      clear hno hL hlc h hB hN hnil hcm
      go_enter Try.func9, Try.ntmps9
      go_wp2
      refine bodyPost_ret (v := .tuple #[.agg #[.slice none 0 0, .slice none 0 0, .slice none 0 0, .slice none 0 0], .int .i64 12]) (by simp [results, Try.results9, go_sem]) rfl ?_
      exact .inr ⟨HF.out.1, rfl, HF.out.2⟩
  · have hno : ¬ Reads ws := fun hr => h5 (by have := hr.1.1; omega)
    have i0 : IntKind.i64.wrap ((L : Int) - 5) = (L : Int) - 5 := by rw [IntKind.wrap_i64]; omega
    have i1 : (L : Int) - 5 < 0 := by omega
    have i3 : (L : Int) < 5 := by omega
    have HF := hid (And.intro hno hN)
    clear hno hL hlc h hB hN hnil hcm
    go_enter Try.func9, Try.ntmps9
    go_wp2
    refine bodyPost_ret (v := .tuple #[.agg #[.slice none 0 0, .slice none 0 0, .slice none 0 0, .slice none 0 0], .int .i64 12]) (by simp [results, Try.results9, go_sem]) rfl ?_
    exact .inr ⟨HF.out.1, rfl, HF.out.2⟩
end Go.Proofs.Ytnoahdobgndmnaa.Obj
