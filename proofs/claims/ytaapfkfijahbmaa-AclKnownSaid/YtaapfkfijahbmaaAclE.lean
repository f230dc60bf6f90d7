/- The contracts of slices.DeleteFunc at the closure of acl.Drop, and of acl.Drop. -/
import Derived.Test.YtaapfkfijahbmaaAclD
namespace Go.Proofs.Ytaapfkfijahbmaa.Acl
open Go Go.RowKit Go.Proofs.Ytaapfkfijahbmaa.Kit Go.Proofs.Ytaapfkfijahbmaa.Str Go.Proofs.Ytaapfkfijahbmaa.Term Go.Proofs.Ytaapfkfijahbmaa.Names
set_option linter.unusedSimpArgs false
set_option linter.unusedVariables false
def DelPost (w : World) (base : Nat) (v : Value) (res : List Tm) (e : Ending) (w' : World) : Prop :=
  ∃ v', e = .returned v' ∧ Sl w' base 26 4 v' res.length (flatOf tc res) ∧ Keeps (fun k => v.ownBlock = some k) w w'
def dropL (l : List Tm) (u : List UInt8) : List Tm := l.filter fun x => !(x.1 == u)
theorem drop_none {l : List Tm} {u : List UInt8} (h : NoneTo l u l.length) : dropL l u = l := by
  unfold dropL
  rw [List.filter_eq_self]
  intro x hx
  obtain ⟨q, hq⟩ := List.getElem?_of_mem hx
  have := h q x (List.getElem?_eq_some_iff.1 hq).1 hq
  simpa using this
theorem drop_to {l : List Tm} {u : List UInt8} {i : Nat} (h : NoneTo l u i) (hi : i ≤ l.length) : dropL (l.take i) u = l.take i := by
  refine drop_none fun q x hq hx => h q x ?_ ?_
  · rw [List.length_take] at hq; omega
  · rw [List.length_take] at hq
    rw [List.getElem?_take_of_lt (by omega)] at hx
    exact hx
/-- What stands in the row behind q rounds: p terms that stay, and from q on all as it was. -/
def Mid (l : List Tm) (u : List UInt8) (p q : Nat) (ys : List Tm) : Prop := p < q ∧ q ≤ l.length ∧ ys.length = l.length ∧ ys.take p = dropL (l.take q) u ∧ ys.drop q = l.drop q
theorem Mid.skip {l ys : List Tm} {u : List UInt8} {p q : Nat} {t : Tm} (h : Mid l u p q ys) (ht : l[q]? = some t) (he : t.1 = u) : Mid l u p (q + 1) ys := by
  obtain ⟨h1, h2, h3, h4, h5⟩ := h
  have hq := (List.getElem?_eq_some_iff.1 ht).1
  refine ⟨by omega, by omega, h3, ?_, ?_⟩
  · rw [List.take_add_one, ht, h4]
    unfold dropL
    rw [List.filter_append]
    simp [he]
  · rw [← List.drop_drop, h5, List.drop_drop]
theorem Mid.keep {l ys : List Tm} {u : List UInt8} {p q : Nat} {t : Tm} (h : Mid l u p q ys) (ht : l[q]? = some t) (he : t.1 ≠ u) : Mid l u (p + 1) (q + 1) (ys.take p ++ t :: ys.drop (p + 1)) := by
  obtain ⟨h1, h2, h3, h4, h5⟩ := h
  have hq := (List.getElem?_eq_some_iff.1 ht).1
  have hpl : (ys.take p).length = p := by rw [List.length_take]; omega
  refine ⟨by omega, by omega, by rw [List.length_append, hpl, List.length_cons, List.length_drop]; omega, ?_, ?_⟩
  · rw [List.take_add_one (l := l), ht]
    rw [show ys.take p ++ t :: ys.drop (p + 1) = (ys.take p ++ [t]) ++ ys.drop (p + 1) by simp, List.take_left' (by rw [List.length_append, hpl]; rfl), h4]
    unfold dropL
    rw [List.filter_append]
    simp [he]
  · rw [show ys.take p ++ t :: ys.drop (p + 1) = (ys.take p ++ [t]) ++ ys.drop (p + 1) by simp]
    have hl2 : (ys.take p ++ [t]).length = p + 1 := by rw [List.length_append, hpl]; rfl
    rw [List.drop_append, hl2, List.drop_eq_nil_of_le (by omega), List.nil_append, List.drop_drop, show p + 1 + (q + 1 - (p + 1)) = q + 1 by omega, ← List.drop_drop, h5, List.drop_drop]
theorem Mid.at {l ys : List Tm} {u : List UInt8} {p q : Nat} (h : Mid l u p q ys) : ys[q]? = l[q]? := by
  have := congrArg (fun x => x[0]?) h.2.2.2.2
  simpa using this
set_option maxRecDepth 100000 in
set_option maxHeartbeats 4000000 in
theorem delete_any (w : World) (base : Nat) (v : Value) (l : List Tm) (u : List UInt8) (B : Nat) (hs : Sl w base 26 4 v l.length (flatOf tc l)) (hl : l.length ≤ 1000000)
    (hB : w.cell? ⟨B, 0, none⟩ = some (st u)) (hne : v.ownBlock ≠ some B) :
    Calls Try.prog 25 #[v, .func (.func 26) #[] #[.pointer (some ⟨B, 0, none⟩)]] w (DelPost w base v (dropL l u)) := by
  have hL := LsAt.of_sl tc_len hs
  have hv := hs.val
  obtain ⟨a, c, rfl⟩ := hv
  obtain ⟨n, hn⟩ : ∃ n, n = l.length := ⟨_, rfl⟩
  have H := hid (And.intro hs (And.intro hL (And.intro hB hn)))
  have hi := index_any (.slice a l.length c) l u B w hB hL hl
  rw [← hn] at hi hl ⊢
  have HI := hid hi
  clear hs hL hB hn hi
  go_enter Try.func25, Try.ntmps25
  go_wp2_with fail
  refine HI.out.mono ?_
  rintro e w1 ⟨⟨i, t, rfl, ht, he, hno⟩ | ⟨rfl, hno⟩, n1⟩
  · have hin : i < n := by have := (List.getElem?_eq_some_iff.1 ht).1; have := H.out.2.2.2; omega
    have w0' : IntKind.i64.wrap ((i : Int) + 1) = i + 1 := by rw [IntKind.wrap_i64]; omega
    have hs1 := H.out.1.new_ n1
    obtain ⟨g, o, cp, hv, hbg, hgl, hnc, _, _⟩ := hs1.form (by rw [← H.out.2.2.2]; omega)
    rw [← H.out.2.2.2] at hs1 hnc
    injection hv with hv1 hv2 hv3
    subst hv1 hv3
    clear hv2
    have hcm : c ≤ maxLen := by
      rcases hs1.2 with ⟨e, h0⟩ | ⟨_, _, _, _, e, _, _, h1, h2, _⟩
      · cases e
      · injection e with e1 e2 e3; omega
    unfold maxLen at hcm
    have hneg : ((i : Int) == -1) = false := by rw [beq_eq_false_iff_ne]; omega
    have hneg' : ¬ (i : Int) = -1 := by omega
    have hgB : g ≠ B := fun e => hne (by rw [e]; rfl)
    have hmid : Mid l u i (i + 1) l := by
      refine ⟨by omega, by have := H.out.2.2.2; omega, rfl, ?_, rfl⟩
      rw [List.take_add_one, ht]
      have h1 := drop_to hno (show i ≤ l.length by have := H.out.2.2.2; omega)
      unfold dropL at h1 ⊢
      rw [List.filter_append, h1]
      simp [he]
    have A := hid (And.intro hs1 (And.intro n1 hmid))
    have hk1 : Keeps (fun k => (Value.slice (some ⟨g, o, none⟩) n c).ownBlock = some k) w w1 := n1.keeps _
    have HK := hid hk1
    clear hs1 n1 hmid ht he hno hk1 HI
    go_wp2_with fail
    go_loopw [5, 6] (fun i j wr => ∃ (p q : Nat) (ys : List Tm), i = .int .i64 (p : Int) ∧ j = .int .i64 (q : Int) ∧ Mid l u p q ys ∧ Sl wr base 26 4 (.slice (some ⟨g, o, none⟩) n c) n (flatOf tc ys) ∧ Keeps (fun k => (Value.slice (some ⟨g, o, none⟩) n c).ownBlock = some k) w wr) (fun _ j _ => n - (intOf j).toNat)
    case atStart => exact ⟨i, i + 1, l, rfl, by go_num, A.out.2.2, A.out.1, HK.out⟩
    case round =>
      obtain ⟨p, q, ys, rfl, rfl, hmid, hsl, hkp⟩ := hrel
      have hpq : p < q := hmid.1
      have hqn : q ≤ n := by have := hmid.2.1; have := H.out.2.2.2; omega
      by_cases hq : q < n
      · have w1' : IntKind.i64.wrap ((q : Int) + 1) = q + 1 := by rw [IntKind.wrap_i64]; omega
        have w2' : IntKind.i64.wrap ((p : Int) + 1) = p + 1 := by rw [IntKind.wrap_i64]; omega
        have hyl : n = ys.length := by rw [hmid.2.2.1]; exact H.out.2.2.2
        have hls : LsAt 4 tc wr (.slice (some ⟨g, o, none⟩) n c) ys := LsAt.of_sl tc_len (by rw [← hyl]; exact hsl)
        obtain ⟨b', o', x, e, hx, _, hcell⟩ := hls.get hq
        injection e with e
        injection e with e1 e2
        subst e1 e2
        have hxl : l[q]? = some x := by rw [← hmid.at]; exact hx
        have c0 := hcell 0 _ rfl
        have c1 := hcell 1 _ rfl
        have c2 := hcell 2 _ rfl
        have c3 := hcell 3 _ rfl
        rw [Nat.add_zero] at c0
        have hnB := (New.refl wr).alloc (.cells #[st x.1, .bool x.2.1, .bool x.2.2.1, .bool x.2.2.2] 26)
        have hBx := Blk.new wr 26 #[st x.1, .bool x.2.1, .bool x.2.2.1, .bool x.2.2.2]
        have hBB : wr.cell? ⟨B, 0, none⟩ = some (st u) := hkp.cell H.out.2.2.1 (fun e => hne e)
        have hBl := World.block_lt_of_cell? wr _ hBB
        have hgl' : g < wr.heap.size := by have := hkp.size; have := H.out.1.lt g rfl; omega
        have hcall := del_any x u B _ (hnB.cellK hBB)
        have hgD : g ≠ wr.heap.size := by omega
        have i0 : (0 : Int) ≤ (q : Int) := by omega
        have i1 : (q : Int) < (n : Int) := by omega
        have i2 : (0 : Int) ≤ (p : Int) := by omega
        have i3 : (p : Int) < (n : Int) := by omega
        have d0 : (wr.alloc (.cells #[st x.1, .bool x.2.1, .bool x.2.2.1, .bool x.2.2.2] 26)).cell? ⟨wr.heap.size, 0, none⟩ = some (st x.1) := by rw [hBx.cell]; rfl
        have d1 : (wr.alloc (.cells #[st x.1, .bool x.2.1, .bool x.2.2.1, .bool x.2.2.2] 26)).cell? ⟨wr.heap.size, 1, none⟩ = some (.bool x.2.1) := by rw [hBx.cell]; rfl
        have d2 : (wr.alloc (.cells #[st x.1, .bool x.2.1, .bool x.2.2.1, .bool x.2.2.2] 26)).cell? ⟨wr.heap.size, 2, none⟩ = some (.bool x.2.2.1) := by rw [hBx.cell]; rfl
        have d3 : (wr.alloc (.cells #[st x.1, .bool x.2.1, .bool x.2.2.1, .bool x.2.2.2] 26)).cell? ⟨wr.heap.size, 3, none⟩ = some (.bool x.2.2.2) := by rw [hBx.cell]; rfl
        have HX := hid (And.intro hmid (And.intro hsl (And.intro hkp (And.intro hnB (And.intro hxl (And.intro hcall hyl))))))
        clear hmid hsl hkp hnB hxl hcall hls hcell hx hBx hBB hBl hyl
        go_wp2_with fail
        refine HX.out.2.2.2.2.2.1.mono ?_
        rintro e w4 ⟨rfl, n4⟩
        replace d0 := n4.cellK d0
        replace d1 := n4.cellK d1
        replace d2 := n4.cellK d2
        replace d3 := n4.cellK d3
        have n4 := HX.out.2.2.2.1.step n4
        have k4 := HX.out.2.2.1.trans (n4.keeps (fun k => (Value.slice (some ⟨g, o, none⟩) n c).ownBlock = some k)) (fun i _ h => h)
        have s4 := HX.out.2.1.new_ n4
        cases hb : (x.1 == u) with
        | true =>
          have HY := hid (And.intro (HX.out.1.skip HX.out.2.2.2.2.1 (beq_iff_eq.1 hb)) (And.intro s4 k4))
          clear s4 k4 n4 hb
          go_wp2_with fail
          exact ⟨⟨p, q + 1, ys, rfl, by go_num, HY.out.1, HY.out.2.1, HY.out.2.2⟩, by simp [intOf]; omega⟩
        | false =>
          have hlsy : LsAt 4 tc w4 (.slice (some ⟨g, o, none⟩) n c) ys := LsAt.of_sl tc_len (by rw [← HX.out.2.2.2.2.2.2]; exact s4)
          obtain ⟨b', o', y, e, hy, _, hcy⟩ := hlsy.get (show p < n by omega)
          injection e with e
          injection e with e1 e2
          subst e1 e2
          have y0 := hcy 0 _ rfl
          have y1 := hcy 1 _ rfl
          have y2 := hcy 2 _ rfl
          have y3 := hcy 3 _ rfl
          rw [Nat.add_zero] at y0
          obtain ⟨g', o', cp', hv', _, _, _, _, hfr⟩ := s4.form (by omega)
          cases hv'
          have f0 := hfr (o + p * 4)
          have f1 := hfr (o + p * 4 + 1)
          have f2 := hfr (o + p * 4 + 2)
          have f3 := hfr (o + p * 4 + 3)
          have hsf := Sl.setTerm s4 HX.out.2.2.2.2.2.2 (show p < n by omega) x
          have hkf := (((k4.setCell (p := ⟨g, o + p * 4, none⟩) (.inr rfl) (st x.1)).setCell (p := ⟨g, o + p * 4 + 1, none⟩) (.inr rfl) (.bool x.2.1)).setCell (p := ⟨g, o + p * 4 + 2, none⟩) (.inr rfl) (.bool x.2.2.1)).setCell (p := ⟨g, o + p * 4 + 3, none⟩) (.inr rfl) (.bool x.2.2.2)
          have HY := hid (And.intro (HX.out.1.keep HX.out.2.2.2.2.1 (beq_eq_false_iff_ne.1 hb)) (And.intro hsf hkf))
          clear hsf hkf s4 k4 n4 hb hlsy hcy hfr hy
          go_wp2_with fail
          exact ⟨⟨p + 1, q + 1, _, by go_num, by go_num, HY.out.1, HY.out.2.1, HY.out.2.2⟩, by simp [intOf]; omega⟩
      · have eq : q = n := by omega
        subst eq
        have hpn : p < q := hpq
        obtain ⟨ti, hti, hzz⟩ := Option.map_eq_some_iff.1 term_info
        simp only [Prod.mk.injEq] at hzz
        have hyl : q = ys.length := by rw [hmid.2.2.1]; exact H.out.2.2.2
        have hyp : ys.take p = dropL l u := by rw [hmid.2.2.2.1, List.take_of_length_le (by have := H.out.2.2.2; omega)]
        have hdl : (dropL l u).length = p := by rw [← hyp, List.length_take]; omega
        obtain ⟨Z, hZ⟩ : ∃ Z, Z = (Value.agg #[Value.string { data := #[] }, Value.bool false, Value.bool false, Value.bool false]) := ⟨_, rfl⟩
        have hZ1 : ∀ i, i < Z.cells.size → (Z.cells[i]!).oneCell' = true := by
          rw [hZ]
          intro i hi
          have hi4 : i < 4 := hi
          rcases (show i = 0 ∨ i = 1 ∨ i = 2 ∨ i = 3 by omega) with rfl | rfl | rfl | rfl <;> rfl
        have hZs : Z.cells.size = 4 := by rw [hZ]; rfl
        obtain ⟨zs, hzs⟩ : ∃ zs, zs = (Builtin.zeroCells Z.cells (q - p)).toList := ⟨_, rfl⟩
        have hzl : zs.length = (q - p) * 4 := by rw [hzs, Array.length_toList, size_zeroCells, hZs]
        have hone : ∀ v ∈ zs, v.oneCell' = true := by rw [hzs]; exact zeroCells_one hZ1 _
        have hsp : flatOf tc ys = flatOf tc (dropL l u) ++ flatOf tc (ys.drop p) := by rw [← hyp, ← flatOf_app, List.take_append_drop]
        rw [hsp] at hsl
        have hAl : (flatOf tc (dropL l u)).length = p * 4 := by rw [flatOf_len tc_len, hdl]
        obtain ⟨cur, hbc, hfit, hst⟩ := Sl.setTail (zs := zs) hsl hAl (by rw [hzl, flatOf_len tc_len, List.length_drop, ← hyl])
        have hclr : ∀ ty cc, (Builtin.clear_ #[22] ty #[.slice (some ⟨g, o + p * 4, none⟩) (q - p) cc]).run Try.prog wr = .ok (.tuple #[]) (wr.setCells g (o + p * 4) zs) := fun ty cc =>
          run_clear_k wr 22 ty 26 26 ti Z Try.underlying22 hti (by rw [hzz.1, hZ]) g _ _ cc (by omega) zs hzs.symm cur hbc hfit hone
        have hfin := hst.cutTo (m := p) (by omega) hAl
        have hkf := hkp.grown (setCells_keeps g zs (o + p * 4) wr) (fun k hk => .inr hk)
        obtain ⟨W1, hW1⟩ : ∃ W1, W1 = wr.setCells g (o + p * 4) zs := ⟨_, rfl⟩
        rw [← hW1] at hclr hfin hkf
        have HF := hid (show DelPost w base (.slice (some ⟨g, o, none⟩) q c) (dropL l u) (.returned (.slice (some ⟨g, o, none⟩) p c)) W1 from ⟨_, rfl, by rw [hdl]; exact hfin, hkf⟩)
        have i2 : (0 : Int) ≤ (p : Int) := by omega
        have i3 : (p : Int) ≤ (q : Int) := by omega
        have i4 : ¬ (c = p) := by omega
        have i5 : (q : Int) ≤ (c : Int) := by omega
        have i6 : ¬ (q : Int) < (q : Int) := by omega
        clear hmid hsl hkp hti hzz hyl hyp hdl hZ hZ1 hZs hzs hzl hone hsp hAl hbc hfit hst hfin hkf hW1 hq
        go_wp2
        go_ret
        exact HF.out
  · have HF := hid (show DelPost w base (.slice a n c) (dropL l u) (.returned (.slice a n c)) w1 from ⟨_, rfl, by rw [drop_none hno]; exact H.out.2.2.2 ▸ H.out.1.new_ n1, n1.keeps _⟩)
    clear hno n1 HI
    go_wp2
    go_ret
    exact HF.out
noncomputable def dropE (l : List Tm) (u : List UInt8) : Nat := if mayL l = true then (if hasB l u = true then 0 else 4) else 1
theorem drop_len {l : List Tm} {u : List UInt8} : (dropL l u).length = l.length ↔ hasB l u = false := by
  unfold dropL hasB
  rw [List.length_filter_eq_length_iff, List.any_eq_false]
  constructor
  · intro h x hx; have := h x hx; simpa using this
  · intro h x hx; have := h x hx; simpa using this
theorem drop_le (l : List Tm) (u : List UInt8) : (dropL l u).length ≤ l.length := List.length_filter_le _ _
def DropPost (w : World) (l : List Tm) (u : List UInt8) (en : Ending) (w' : World) : Prop :=
  ∃ v, en = .returned (.tuple #[v, .int .i64 ((dropE l u : Nat) : Int)]) ∧ (dropE l u = 0 → Sl w' w.heap.size 26 4 v (dropL l u).length (flatOf tc (dropL l u))) ∧ (dropE l u ≠ 0 → v = .slice none 0 0) ∧ New w w'
set_option maxRecDepth 100000 in
set_option maxHeartbeats 4000000 in
theorem drop_any (v : Value) (l : List Tm) (u : List UInt8) (w : World) (h : LsAt 4 tc w v l) (hu : ∀ t ∈ l, t.1.length ≤ 9223372036854775807) (hl : l.length ≤ 1000000) :
    Calls Try.prog 18 #[v, st u] w (DropPost w l u) := by
  have hnB := (New.refl w).alloc (.cells #[st u] 9)
  have hB := Blk.new w 9 #[st u]
  obtain ⟨a, c, hv, hlc, hcm, _⟩ := id h
  subst hv
  obtain ⟨n, hn⟩ : ∃ n, n = l.length := ⟨_, rfl⟩
  rw [← hn] at hlc hl h ⊢
  have H := hid (And.intro h (And.intro hn hu))
  clear h hn hu
  go_enter Try.func18, Try.ntmps18
  go_wp2_with fail
  generalize (w.alloc (.cells #[st u] 9)) = w0 at *
  refine (may_any _ l H.out.2.2 w0 (H.out.1.new_ hnB)).mono ?_
  rintro e w1 ⟨rfl, n1⟩
  have b1 := hB.new_ n1
  have n1 := hnB.step n1
  clear hB hnB
  cases hm : mayL l with
  | false =>
    have HE : Hid (dropE l u = 1) := by unfold dropE; rw [hm]; rfl
    clear hm
    go_wp2_with fail
    go_ret2
    exact ⟨_, by rw [HE.out]; rfl, fun h => absurd h (by rw [HE.out]; decide), fun _ => rfl, n1⟩
  | true =>
    have HE : Hid (dropE l u = if hasB l u = true then 0 else 4) := by unfold dropE; rw [if_pos hm]; exact rfl
    have HB1 := hid (And.intro b1 n1)
    clear hm b1 n1
    go_wp2_with fail
    refine (clone_any _ l w1 (H.out.1.new_ HB1.out.2) (by rw [← H.out.2.1]; exact hl)).mono ?_
    rintro e w3 ⟨v3, rfl, s3, n3⟩
    have hbs := s3.lt
    have s3 := s3.mono (New.size HB1.out.2)
    have b3 := HB1.out.1.new_ n3
    have n3 := HB1.out.2.step n3
    have hlt := HB1.out.1.lt
    have d0 : w3.cell? ⟨w.heap.size, 0, none⟩ = some (st u) := by rw [b3.cell]; rfl
    have hq := delete_any w3 w.heap.size v3 l u w.heap.size s3 (by rw [← H.out.2.1]; exact hl) d0 (fun e => by have := (hbs _ e).1; omega)
    have HQ := hid (And.intro hq (And.intro n3 s3))
    clear hq n3 s3 b3 d0 hbs
    go_wp2_with fail
    refine HQ.out.1.mono ?_
    rintro e w4 ⟨v4, rfl, s4, k4⟩
    have n4 : New w w4 := HQ.out.2.1.kept k4 (fun k hk => (HQ.out.2.2.lt k hk).1)
    have hv4 := s4.val
    obtain ⟨m, hm⟩ : ∃ m, m = (dropL l u).length := ⟨_, rfl⟩
    rw [← hm] at s4 hv4
    obtain ⟨a4, c4, rfl⟩ := hv4
    have HS := hid (And.intro s4 (And.intro n4 hm))
    have hmn : m ≤ n := by rw [hm, H.out.2.1]; exact drop_le l u
    clear s4 n4 k4 hm
    cases hh : hasB l u with
    | false =>
      have HE2 : Hid (dropE l u = 4) := by rw [HE.out, if_neg (by rw [hh]; decide)]; exact rfl
      have e1 : (m : Int) = (n : Int) := by have := HS.out.2.2; have := H.out.2.1; have := drop_len.2 hh; omega
      have e2 : m = n := by omega
      subst e2
      clear hh e1
      go_wp2_with fail
      go_ret2
      exact ⟨_, by rw [HE2.out]; rfl, fun h => absurd h (by rw [HE2.out]; decide), fun _ => rfl, HS.out.2.1⟩
    | true =>
      have HE2 : Hid (dropE l u = 0) := by rw [HE.out, if_pos hh]; exact rfl
      have e1 : ¬ m = n := fun e => by
        have := drop_len.1 (show (dropL l u).length = l.length by have := HS.out.2.2; have := H.out.2.1; omega)
        rw [hh] at this; cases this
      have e2 : ¬ (m : Int) = (n : Int) := by omega
      clear hh
      go_wp2_with fail
      go_ret2
      refine ⟨_, by rw [HE2.out]; rfl, fun _ => ?_, fun h => absurd HE2.out h, HS.out.2.1⟩
      have := HS.out.1
      rw [HS.out.2.2] at this ⊢
      exact this
end Go.Proofs.Ytaapfkfijahbmaa.Acl
