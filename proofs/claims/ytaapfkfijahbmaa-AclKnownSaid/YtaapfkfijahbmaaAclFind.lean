/- The contract of acl.Find. -/
import Derived.Test.YtaapfkfijahbmaaAcl
namespace Go.Proofs.Ytaapfkfijahbmaa.Acl
open Go Go.RowKit Go.Proofs.Ytaapfkfijahbmaa.Kit Go.Proofs.Ytaapfkfijahbmaa.Str Go.Proofs.Ytaapfkfijahbmaa.Term Go.Proofs.Ytaapfkfijahbmaa.Names
set_option linter.unusedSimpArgs false
set_option linter.unusedVariables false
def look (l : List Tm) (u : List UInt8) : Option Fl := (l.find? fun x => x.1 == u).map (·.2)
def zf : Fl := (false, false, false)
noncomputable def findF (l : List Tm) (u : List UInt8) : Fl := if mayL l = true then ((look l u).orElse fun _ => look l [42]).getD zf else zf
theorem look_none {l : List Tm} {u : List UInt8} (h : ∀ (q : Nat) (x : Tm), l[q]? = some x → x.1 ≠ u) : look l u = none := by
  unfold look
  rw [List.find?_eq_none.2]
  · rfl
  · intro x hx
    obtain ⟨q, hq⟩ := List.getElem?_of_mem hx
    have := h q x hq
    simpa using this
theorem look_some : ∀ {l : List Tm} {u : List UInt8} {i : Nat} {x : Tm}, (∀ (q : Nat) (y : Tm), q < i → l[q]? = some y → y.1 ≠ u) → l[i]? = some x → x.1 = u → look l u = some x.2
  | [], u, i, x, _, h, _ => by simp at h
  | y :: l, u, 0, x, _, h, e => by
    simp only [List.getElem?_cons_zero, Option.some.injEq] at h
    subst h
    unfold look
    rw [List.find?_cons_of_pos (by simp [e])]
    rfl
  | y :: l, u, i + 1, x, h0, h, e => by
    have ih := look_some (l := l) (i := i) (fun q z hq hz => h0 (q + 1) z (by omega) (by simpa using hz)) (by simpa using h) e
    unfold look at ih ⊢
    have := h0 0 y (by omega) rfl
    rw [List.find?_cons_of_neg (by simpa using this)]
    exact ih
theorem setF {w : World} {R : Nat} {e : TypeId} {x y z : Value} (h : Blk w R e #[x, y, z]) (f : Fl) : Blk (((w.setCell ⟨R, 0, none⟩ (.bool f.1)).setCell ⟨R, 1, none⟩ (.bool f.2.1)).setCell ⟨R, 2, none⟩ (.bool f.2.2)) R e #[.bool f.1, .bool f.2.1, .bool f.2.2] :=
  ((h.set 0 (.bool f.1)).set 1 (.bool f.2.1)).set 2 (.bool f.2.2)
theorem newF {w w1 : World} {R : Nat} (h : New w w1) (hR : w.heap.size ≤ R) (f : Fl) : New w (((w1.setCell ⟨R, 0, none⟩ (.bool f.1)).setCell ⟨R, 1, none⟩ (.bool f.2.1)).setCell ⟨R, 2, none⟩ (.bool f.2.2)) :=
  ((h.setCell hR _).setCell hR _).setCell hR _
def FindPost (w : World) (l : List Tm) (u : List UInt8) (en : Ending) (w' : World) : Prop := en = .returned (fv (findF l u)) ∧ New w w'
set_option maxRecDepth 100000 in
set_option maxHeartbeats 4000000 in
theorem find_any (v : Value) (l : List Tm) (u : List UInt8) (w : World) (h : LsAt 4 tc w v l) (hu : ∀ t ∈ l, t.1.length ≤ 9223372036854775807) (hl : l.length ≤ 1000000) :
    Calls Try.prog 11 #[v, st u] w (FindPost w l u) := by
  obtain ⟨a, c, hv, hlc, hcm, _⟩ := id h
  subst hv
  unfold maxLen at hcm
  obtain ⟨n, hn⟩ : ∃ n, n = l.length := ⟨_, rfl⟩
  rw [← hn] at hlc hl h ⊢
  have H := hid (And.intro h (And.intro hn hu))
  have hB := Blk.new w 24 #[.bool false, .bool false, .bool false]
  have hnB := (New.refl w).alloc (.cells #[.bool false, .bool false, .bool false] 24)
  clear h hn hu
  go_enter Try.func11, Try.ntmps11
  go_wp2_with fail
  generalize (w.alloc (.cells #[.bool false, .bool false, .bool false] 24)) = w0 at *
  refine (may_any _ l H.out.2.2 w0 (H.out.1.new_ hnB)).mono ?_
  rintro e w1 ⟨rfl, n1⟩
  have b1 := hB.new_ n1
  have n1 := hnB.step n1
  obtain ⟨R, hR⟩ : ∃ R, R = w.heap.size := ⟨_, rfl⟩
  have hRw : w.heap.size ≤ R := by omega
  rw [← hR] at b1 ⊢
  clear hB hnB hR
  have g0 : w1.cell? ⟨R, 0, none⟩ = some (.bool false) := by rw [b1.cell]; rfl
  have g1 : w1.cell? ⟨R, 1, none⟩ = some (.bool false) := by rw [b1.cell]; rfl
  have g2 : w1.cell? ⟨R, 2, none⟩ = some (.bool false) := by rw [b1.cell]; rfl
  have f0 := b1.frozen 0
  have f1 := b1.frozen 1
  have f2 := b1.frozen 2
  cases hm : mayL l with
  | false =>
    have HE : Hid (findF l u = zf) := by unfold findF; rw [hm]; rfl
    have HN := hid n1
    clear hm n1
    have bF := setF b1 zf
    have nF := newF HN.out hRw zf
    go_wp2_with fail
    simp only [zf] at bF nF
    generalize (((w1.setCell ⟨R, 0, none⟩ (.bool false)).setCell ⟨R, 1, none⟩ (.bool false)).setCell ⟨R, 2, none⟩ (.bool false)) = wF at *
    have c0 : wF.cell? ⟨R, 0, none⟩ = some (.bool false) := by rw [bF.cell]; rfl
    have c1 : wF.cell? ⟨R, 1, none⟩ = some (.bool false) := by rw [bF.cell]; rfl
    have c2 : wF.cell? ⟨R, 2, none⟩ = some (.bool false) := by rw [bF.cell]; rfl
    refine bodyPost_ret (v := fv zf) (by simp [results, Try.results11, go_sem, c0, c1, c2, zf]) rfl ?_
    exact ⟨by rw [HE.out], nF⟩
  | true =>
    have HE : Hid (findF l u = ((look l u).orElse fun _ => look l [42]).getD zf) := by unfold findF; rw [if_pos hm]; exact rfl
    have hbN := Blk.new w1 9 #[st u, st [42]]
    have hnN := (New.refl w1).alloc (.cells #[st u, st [42]] 9)
    have HB := hid (And.intro b1 (And.intro n1 (And.intro hbN hnN)))
    clear hm b1 n1 hbN hnN g0 g1 g2 f0 f1 f2
    go_wp2_with fail
    generalize (w1.alloc (.cells #[st u, .string ⟨#[42]⟩] 9)) = wN at *
    generalize w1.heap.size = N0 at *
    have bRN := HB.out.1.new_ HB.out.2.2.2
    have nN := HB.out.2.1.step HB.out.2.2.2
    have HN := hid (And.intro bRN (And.intro nN HB.out.2.2.1))
    clear HB bRN nN
    go_loopw [16] (fun j wr => ∃ q : Nat, q ≤ 2 ∧ j = .int .i64 (q : Int) ∧ (0 < q → look l u = none) ∧ (1 < q → look l [42] = none) ∧ New wN wr) (fun j _ => 2 - (intOf j).toNat)
    case atStart => exact ⟨0, by omega, rfl, fun h => absurd h (by omega), fun h => absurd h (by omega), New.refl _⟩
    case round =>
      obtain ⟨q, hq, rfl, hq1, hq2, hnr⟩ := hrel
      by_cases hq2' : q < 2
      · obtain ⟨nm, hnm⟩ : ∃ nm, nm = if q = 0 then u else [42] := ⟨_, rfl⟩
        have cN : wr.cell? ⟨N0, q, none⟩ = some (st nm) := by
          rw [(HN.out.2.2.new_ hnr).cell, hnm]
          rcases (show q = 0 ∨ q = 1 by omega) with rfl | rfl <;> rfl
        have w1' : IntKind.i64.wrap ((q : Int) + 1) = q + 1 := by rw [IntKind.wrap_i64]; omega
        have i0 : (0 : Int) ≤ (q : Int) := by omega
        have i1 : (q : Int) < 2 := by omega
        have HQ := hid (And.intro hq1 (And.intro hq2 (And.intro hnr hnm)))
        clear hq1 hq2 hnr hnm
        go_wp2_with fail
        go_loopw [22] (fun i wx => ∃ k : Nat, k ≤ n ∧ i = .int .i64 (k : Int) ∧ (∀ (p : Nat) (y : Tm), p < k → l[p]? = some y → y.1 ≠ nm) ∧ New wN wx) (fun i _ => n - (intOf i).toNat)
        case atStart => exact ⟨0, Nat.zero_le _, rfl, fun p y hp => absurd hp (by omega), HQ.out.2.2.1⟩
        case round =>
          obtain ⟨k, hk, rfl, hall, hnx⟩ := hrel
          clear cN
          by_cases hkn : k < n
          · have w2' : IntKind.i64.wrap ((k : Int) + 1) = k + 1 := by rw [IntKind.wrap_i64]; omega
            obtain ⟨b, o, c', t, hv, _, _, hx, hcell⟩ := (H.out.1.new_ (HN.out.2.1.step hnx)).at (i := k) (by rw [← H.out.2.1]; exact hkn)
            injection hv with hv1 _ hv3
            subst hv1
            have c0 := hcell 0 _ rfl
            have c1 := hcell 1 _ rfl
            have c2 := hcell 2 _ rfl
            have c3 := hcell 3 _ rfl
            rw [Nat.add_zero] at c0
            have bR := HN.out.1.new_ hnx
            have hRl := bR.lt
            have g0 : wr.cell? ⟨R, 0, none⟩ = some (.bool false) := by rw [bR.cell]; rfl
            have g1 : wr.cell? ⟨R, 1, none⟩ = some (.bool false) := by rw [bR.cell]; rfl
            have g2 : wr.cell? ⟨R, 2, none⟩ = some (.bool false) := by rw [bR.cell]; rfl
            have f0 := bR.frozen 0
            have f1 := bR.frozen 1
            have f2 := bR.frozen 2
            have j0 : (0 : Int) ≤ (k : Int) := by omega
            have j1 : (k : Int) < (n : Int) := by omega
            have HX := hid (And.intro hx (And.intro hall (And.intro hnx bR)))
            clear hcell hx hall hv3 hnx bR
            by_cases he : t.1 = nm
            · have he' : (t.1 == nm) = true := by rw [he]; exact beq_self_eq_true _
              have HV := hid he
              clear he
              have bF := (setF HX.out.2.2.2 t.2).alloc (.cells #[st t.1, .bool t.2.1, .bool t.2.2.1, .bool t.2.2.2] 26)
              have nF := (newF (HN.out.2.1.step HX.out.2.2.1) hRw t.2).alloc (.cells #[st t.1, .bool t.2.1, .bool t.2.2.1, .bool t.2.2.2] 26)
              have hres : Hid (findF l u = t.2) := by
                have hlk := look_some HX.out.2.1 HX.out.1 HV.out
                have hnm := HQ.out.2.2.2
                show _ = _
                rw [HE.out]
                by_cases h0 : q = 0
                · rw [if_pos h0] at hnm
                  rw [hnm] at hlk
                  rw [hlk]; rfl
                · rw [if_neg h0] at hnm
                  rw [hnm] at hlk
                  rw [HQ.out.1 (by omega), hlk]; rfl
              have HF := hid nF
              clear nF
              go_wp2_with fail
              generalize ((((wr.setCell ⟨R, 0, none⟩ (.bool t.2.1)).setCell ⟨R, 1, none⟩ (.bool t.2.2.1)).setCell ⟨R, 2, none⟩ (.bool t.2.2.2)).alloc (.cells #[st t.1, .bool t.2.1, .bool t.2.2.1, .bool t.2.2.2] 26)) = wF at *
              have c0 : wF.cell? ⟨R, 0, none⟩ = some (.bool t.2.1) := by rw [bF.cell]; rfl
              have c1 : wF.cell? ⟨R, 1, none⟩ = some (.bool t.2.2.1) := by rw [bF.cell]; rfl
              have c2 : wF.cell? ⟨R, 2, none⟩ = some (.bool t.2.2.2) := by rw [bF.cell]; rfl
              refine bodyPost_ret (v := fv t.2) (by simp [results, Try.results11, go_sem, c0, c1, c2]) rfl ?_
              exact ⟨by rw [hres.out], HF.out⟩
            · have he' : (t.1 == nm) = false := by rw [beq_eq_false_iff_ne]; exact he
              have HV := hid he
              clear he
              go_wp2_with fail
              refine ⟨⟨k + 1, by omega, by go_num, fun p y hp hy => ?_, HX.out.2.2.1.alloc _⟩, by simp [intOf]; omega⟩
              by_cases e : p = k
              · rw [e, HX.out.1] at hy
                cases hy
                exact HV.out
              · exact HX.out.2.1 p y (by omega) hy
          · have j1 : ¬ (k : Int) < (n : Int) := by omega
            have hno : Hid (look l nm = none) := look_none fun p y hy => hall p y (by have := (List.getElem?_eq_some_iff.1 hy).1; have := H.out.2.1; omega) hy
            have HX := hid hnx
            clear hall hnx
            go_wp2_with fail
            refine ⟨⟨q + 1, by omega, by go_num, fun _ => ?_, fun h => ?_, HX.out⟩, by simp [intOf]; omega⟩
            · by_cases h0 : q = 0
              · have := HQ.out.2.2.2
                rw [if_pos h0] at this
                rw [← this]; exact hno.out
              · exact HQ.out.1 (by omega)
            · have := HQ.out.2.2.2
              rw [if_neg (by omega)] at this
              rw [← this]; exact hno.out
      · have i1 : ¬ (q : Int) < 2 := by omega
        have hres : Hid (findF l u = zf) := by
          show _ = _
          rw [HE.out, hq1 (by omega), hq2 (by omega)]; rfl
        have bR := HN.out.1.new_ hnr
        have hRl := bR.lt
        have g0 : wr.cell? ⟨R, 0, none⟩ = some (.bool false) := by rw [bR.cell]; rfl
        have g1 : wr.cell? ⟨R, 1, none⟩ = some (.bool false) := by rw [bR.cell]; rfl
        have g2 : wr.cell? ⟨R, 2, none⟩ = some (.bool false) := by rw [bR.cell]; rfl
        have f0 := bR.frozen 0
        have f1 := bR.frozen 1
        have f2 := bR.frozen 2
        have bF := setF bR zf
        have nF := newF (HN.out.2.1.step hnr) hRw zf
        simp only [zf] at bF nF
        have HF := hid nF
        clear nF bR hnr hq1 hq2
        go_wp2_with fail
        generalize (((wr.setCell ⟨R, 0, none⟩ (.bool false)).setCell ⟨R, 1, none⟩ (.bool false)).setCell ⟨R, 2, none⟩ (.bool false)) = wF at *
        have c0 : wF.cell? ⟨R, 0, none⟩ = some (.bool false) := by rw [bF.cell]; rfl
        have c1 : wF.cell? ⟨R, 1, none⟩ = some (.bool false) := by rw [bF.cell]; rfl
        have c2 : wF.cell? ⟨R, 2, none⟩ = some (.bool false) := by rw [bF.cell]; rfl
        refine bodyPost_ret (v := fv zf) (by simp [results, Try.results11, go_sem, c0, c1, c2, zf]) rfl ?_
        exact ⟨by rw [hres.out], HF.out⟩
end Go.Proofs.Ytaapfkfijahbmaa.Acl
