/- The contract of the reference's Find. -/
import Derived.Test.YtaapfkfijahbmaaAclRef
namespace Go.Proofs.Ytaapfkfijahbmaa.Acl
open Go Go.RowKit Go.Proofs.Ytaapfkfijahbmaa.Kit Go.Proofs.Ytaapfkfijahbmaa.Str Go.Proofs.Ytaapfkfijahbmaa.Term Go.Proofs.Ytaapfkfijahbmaa.Names
set_option linter.unusedSimpArgs false
set_option linter.unusedVariables false
def lastF (l : List Tm) (u : List UInt8) (d : Fl) : Fl := l.foldl (fun f x => if (x.1 == u) = true then x.2 else f) d
theorem lastF_snoc {l : List Tm} {u : List UInt8} {d : Fl} {x : Tm} : lastF (l ++ [x]) u d = if (x.1 == u) = true then x.2 else lastF l u d := by
  unfold lastF
  rw [List.foldl_append]
  rfl
theorem lastF_none : ∀ {l : List Tm} {u : List UInt8} {d : Fl}, (∀ x ∈ l, x.1 ≠ u) → lastF l u d = d
  | [], u, d, _ => rfl
  | y :: l, u, d, h => by
    have h1 : (y.1 == u) = false := beq_eq_false_iff_ne.2 (h y List.mem_cons_self)
    have := lastF_none (l := l) (u := u) (d := d) (fun x hx => h x (List.mem_cons_of_mem _ hx))
    unfold lastF at this ⊢
    rw [List.foldl_cons, h1]
    exact this
theorem lastF_look : ∀ {l : List Tm} {u : List UInt8} {d : Fl}, Srt l → lastF l u d = (Acl.look l u).getD d
  | [], u, d, _ => rfl
  | y :: l, u, d, h => by
    have h' := h
    unfold Srt at h'
    rw [List.pairwise_cons] at h'
    unfold Acl.look
    cases hb : (y.1 == u) with
    | true =>
      have e := beq_iff_eq.1 hb
      rw [List.find?_cons_of_pos (p := fun x : Tm => x.1 == u) hb]
      have := lastF_none (l := l) (u := u) (d := y.2) (fun x hx e2 => ltB_ne (h'.1 x hx) (by rw [e, e2]))
      unfold lastF at this ⊢
      rw [List.foldl_cons, hb]
      exact this
    | false =>
      rw [List.find?_cons_of_neg (p := fun x : Tm => x.1 == u) (by rw [hb]; decide)]
      have := lastF_look (l := l) (u := u) (d := d) h'.2
      unfold lastF Acl.look at this
      unfold lastF
      rw [List.foldl_cons, hb]
      exact this
theorem lastF_find {l : List Tm} {u : List UInt8} (h : MayP l) : lastF l u (lastF l [42] zf) = findF l u := by
  rw [lastF_look (MayP.srt h), lastF_look (MayP.srt h), findF_may h]
  cases Acl.look l u <;> rfl
theorem flagsOf {w : World} {R : Nat} {e : TypeId} {f : Fl} (h : Blk w R e #[.bool f.1, .bool f.2.1, .bool f.2.2]) : w.cell? ⟨R, 0, none⟩ = some (.bool f.1) ∧ w.cell? ⟨R, 1, none⟩ = some (.bool f.2.1) ∧ w.cell? ⟨R, 2, none⟩ = some (.bool f.2.2) := by
  refine ⟨?_, ?_, ?_⟩ <;> (rw [h.cell]; rfl)
theorem farF {w : World} {R G : Nat} {e : TypeId} {cs : Array Value} {x y z : Value} (h : Blk w G e cs) (hn : G ≠ R) : Blk (((w.setCell ⟨R, 0, none⟩ x).setCell ⟨R, 1, none⟩ y).setCell ⟨R, 2, none⟩ z) G e cs := ((h.far (p := ⟨R, 0, none⟩) hn x).far (p := ⟨R, 1, none⟩) hn y).far (p := ⟨R, 2, none⟩) hn z
/-- What the two loops keep. -/
def RelF (l m : List Tm) (u : List UInt8) (d : Fl) (R G : Nat) (w wr : World) : Prop :=
  Blk wr R 24 #[.bool false, .bool false, .bool false] ∧ Blk wr G 24 #[.bool (lastF m u d).1, .bool (lastF m u d).2.1, .bool (lastF m u d).2.2] ∧ New w wr
set_option maxRecDepth 100000 in
set_option maxHeartbeats 4000000 in
theorem reffind_any (v : Value) (l : List Tm) (u : List UInt8) (w : World) (h : LsAt 4 tc w v l) (hu : ∀ t ∈ l, t.1.length ≤ 9223372036854775807) (hl : l.length ≤ 1000000) :
    Calls Try.prog 17 #[v, st u] w (FindPost w l u) := by
  obtain ⟨a, c, hv, hlc, hcm, _⟩ := id h
  subst hv
  unfold maxLen at hcm
  obtain ⟨n, hn⟩ : ∃ n, n = l.length := ⟨_, rfl⟩
  rw [← hn] at hlc hl h ⊢
  have H := hid (And.intro h (And.intro hn hu))
  have hR := (Blk.new w 24 #[.bool false, .bool false, .bool false]).alloc (.cells #[.bool false, .bool false, .bool false] 24)
  have hG := Blk.new (w.alloc (.cells #[.bool false, .bool false, .bool false] 24)) 24 #[.bool false, .bool false, .bool false]
  have hnB := ((New.refl w).alloc (.cells #[.bool false, .bool false, .bool false] 24)).alloc (.cells #[.bool false, .bool false, .bool false] 24)
  rw [World.size_alloc] at hG
  clear h hn hu
  go_enter Try.func17, Try.ntmps17
  go_wp2_with fail
  generalize ((w.alloc (.cells #[.bool false, .bool false, .bool false] 24)).alloc (.cells #[.bool false, .bool false, .bool false] 24)) = w0 at *
  obtain ⟨R, hRe⟩ : ∃ R, R = w.heap.size := ⟨_, rfl⟩
  obtain ⟨G, hGe⟩ : ∃ G, G = w.heap.size + 1 := ⟨_, rfl⟩
  rw [← hGe] at hG ⊢
  rw [← hRe] at hR ⊢
  have hRw : w.heap.size ≤ R := by omega
  have hGw : w.heap.size ≤ G := by omega
  have hRG : R ≠ G := by omega
  have hGR : G ≠ R := by omega
  clear hRe hGe
  refine (listmay_any _ l H.out.2.2 w0 (H.out.1.new_ hnB)).mono ?_
  rintro e w1 ⟨rfl, n1⟩
  have hbR := hR.new_ n1
  have hbG := hG.new_ n1
  have hnw := hnB.step n1
  clear hR hG hnB n1
  cases hm : mayL l with
  | false =>
    have hres : Hid (findF l u = zf) := by unfold findF; rw [hm]; rfl
    obtain ⟨g0, g1, g2⟩ := flagsOf (f := zf) hbG
    obtain ⟨r0, r1, r2⟩ := flagsOf (f := zf) hbR
    have f0 := hbR.frozen 0
    have f1 := hbR.frozen 1
    have f2 := hbR.frozen 2
    have bF := setF hbR zf
    have nF := newF hnw hRw zf
    have HF := hid nF
    simp only [zf] at bF g0 g1 g2 r0 r1 r2 HF
    clear hbR hbG hnw nF hm
    go_wp2_with fail
    generalize (((w1.setCell ⟨R, 0, none⟩ (.bool false)).setCell ⟨R, 1, none⟩ (.bool false)).setCell ⟨R, 2, none⟩ (.bool false)) = wF at *
    obtain ⟨c0, c1, c2⟩ := flagsOf (f := (false, false, false)) bF
    refine bodyPost_ret (v := fv zf) (by simp [results, Try.results17, go_sem, c0, c1, c2, zf]) rfl ?_
    exact ⟨by rw [hres.out], HF.out⟩
  | true =>
    have HM := hid (mayL_iff.1 hm)
    have HB1 := hid (show RelF l (l.take 0) [42] zf R G w w1 from ⟨hbR, hbG, hnw⟩)
    clear hm hbR hbG hnw
    go_wp2_with fail
    go_loopw [6] (fun i wr => ∃ k : Nat, k ≤ n ∧ i = .int .i64 (k : Int) ∧ RelF l (l.take k) [42] zf R G w wr) (fun i _ => n - (intOf i).toNat)
    case atStart => exact ⟨0, Nat.zero_le _, rfl, HB1.out⟩
    case round =>
      obtain ⟨k, hk, rfl, hbR, hbG, hnw⟩ := hrel
      by_cases hkn : k < n
      · have w2' : IntKind.i64.wrap ((k : Int) + 1) = k + 1 := by rw [IntKind.wrap_i64]; omega
        obtain ⟨b, o, x, rfl, hx, _, hcell⟩ := (H.out.1.new_ hnw).get hkn
        have c0 := hcell 0 _ rfl
        have c1 := hcell 1 _ rfl
        have c2 := hcell 2 _ rfl
        have c3 := hcell 3 _ rfl
        rw [Nat.add_zero] at c0
        have hst : Hid (lastF (l.take (k + 1)) [42] zf = if (x.1 == [42]) = true then x.2 else lastF (l.take k) [42] zf) := by
          show _ = _
          rw [List.take_add_one, hx]
          exact lastF_snoc
        have j0 : (0 : Int) ≤ (k : Int) := by omega
        have j1 : (k : Int) < (n : Int) := by omega
        obtain ⟨g0, g1, g2⟩ := flagsOf hbG
        have f0 := hbG.frozen 0
        have f1 := hbG.frozen 1
        have f2 := hbG.frozen 2
        have HX := hid (And.intro hbR (And.intro hbG hnw))
        clear hcell hx hbR hbG hnw
        cases hb : (x.1 == [42]) with
        | true =>
          rw [hb, if_pos rfl] at hst
          have hfin : Hid (RelF l (l.take (k + 1)) [42] zf R G w (((wr.setCell ⟨G, 0, none⟩ (.bool x.2.1)).setCell ⟨G, 1, none⟩ (.bool x.2.2.1)).setCell ⟨G, 2, none⟩ (.bool x.2.2.2))) :=
            ⟨farF HX.out.1 hRG, by rw [hst.out]; exact setF HX.out.2.1 x.2, newF HX.out.2.2 hGw x.2⟩
          clear hst
          go_wp2_with fail
          exact ⟨⟨k + 1, by omega, by go_num, hfin.out⟩, by simp [intOf]; omega⟩
        | false =>
          rw [hb, if_neg (by decide)] at hst
          go_wp2_with fail
          exact ⟨⟨k + 1, by omega, by go_num, HX.out.1, by rw [hst.out]; exact HX.out.2.1, HX.out.2.2⟩, by simp [intOf]; omega⟩
      · have j1 : ¬ (k : Int) < (n : Int) := by omega
        have hk' : l.take k = l := List.take_of_length_le (by have := H.out.2.1; omega)
        rw [hk'] at hbG
        have HB2 := hid (And.intro hbR (And.intro hbG hnw))
        clear hk' hbR hbG hnw
        go_wp2_with fail
        go_loopw [7] (fun i wr => ∃ k : Nat, k ≤ n ∧ i = .int .i64 (k : Int) ∧ RelF l (l.take k) u (lastF l [42] zf) R G w wr) (fun i _ => n - (intOf i).toNat)
        case atStart => exact ⟨0, Nat.zero_le _, rfl, HB2.out⟩
        case round =>
          obtain ⟨k, hk, rfl, hbR, hbG, hnw⟩ := hrel
          by_cases hkn : k < n
          · have w2' : IntKind.i64.wrap ((k : Int) + 1) = k + 1 := by rw [IntKind.wrap_i64]; omega
            obtain ⟨b, o, x, rfl, hx, _, hcell⟩ := (H.out.1.new_ hnw).get hkn
            have c0 := hcell 0 _ rfl
            have c1 := hcell 1 _ rfl
            have c2 := hcell 2 _ rfl
            have c3 := hcell 3 _ rfl
            rw [Nat.add_zero] at c0
            have hst : Hid (lastF (l.take (k + 1)) u (lastF l [42] zf) = if (x.1 == u) = true then x.2 else lastF (l.take k) u (lastF l [42] zf)) := by
              show _ = _
              rw [List.take_add_one, hx]
              exact lastF_snoc
            have j0 : (0 : Int) ≤ (k : Int) := by omega
            have j1 : (k : Int) < (n : Int) := by omega
            obtain ⟨g0, g1, g2⟩ := flagsOf hbG
            have f0 := hbG.frozen 0
            have f1 := hbG.frozen 1
            have f2 := hbG.frozen 2
            have HX := hid (And.intro hbR (And.intro hbG hnw))
            clear hcell hx hbR hbG hnw
            cases hb : (x.1 == u) with
            | true =>
              rw [hb, if_pos rfl] at hst
              have hfin : Hid (RelF l (l.take (k + 1)) u (lastF l [42] zf) R G w (((wr.setCell ⟨G, 0, none⟩ (.bool x.2.1)).setCell ⟨G, 1, none⟩ (.bool x.2.2.1)).setCell ⟨G, 2, none⟩ (.bool x.2.2.2))) :=
                ⟨farF HX.out.1 hRG, by rw [hst.out]; exact setF HX.out.2.1 x.2, newF HX.out.2.2 hGw x.2⟩
              clear hst
              go_wp2_with fail
              exact ⟨⟨k + 1, by omega, by go_num, hfin.out⟩, by simp [intOf]; omega⟩
            | false =>
              rw [hb, if_neg (by decide)] at hst
              go_wp2_with fail
              exact ⟨⟨k + 1, by omega, by go_num, HX.out.1, by rw [hst.out]; exact HX.out.2.1, HX.out.2.2⟩, by simp [intOf]; omega⟩
          · have j1 : ¬ (k : Int) < (n : Int) := by omega
            have hk' : l.take k = l := List.take_of_length_le (by have := H.out.2.1; omega)
            rw [hk'] at hbG
            obtain ⟨F, hF⟩ : ∃ F, F = lastF l u (lastF l [42] zf) := ⟨_, rfl⟩
            have hres : Hid (F = findF l u) := hF.trans (lastF_find HM.out)
            rw [← hF] at hbG
            obtain ⟨g0, g1, g2⟩ := flagsOf hbG
            obtain ⟨r0, r1, r2⟩ := flagsOf (f := zf) hbR
            have f0 := hbR.frozen 0
            have f1 := hbR.frozen 1
            have f2 := hbR.frozen 2
            have bF := setF hbR F
            have nF := newF hnw hRw F
            have HF := hid nF
            clear hk' hF hbR hbG hnw nF
            go_wp2_with fail
            generalize (((wr.setCell ⟨R, 0, none⟩ (.bool F.1)).setCell ⟨R, 1, none⟩ (.bool F.2.1)).setCell ⟨R, 2, none⟩ (.bool F.2.2)) = wF at *
            obtain ⟨c0, c1, c2⟩ := flagsOf bF
            refine bodyPost_ret (v := fv F) (by simp [results, Try.results17, go_sem, c0, c1, c2]) rfl ?_
            exact ⟨by rw [hres.out], HF.out⟩
end Go.Proofs.Ytaapfkfijahbmaa.Acl
