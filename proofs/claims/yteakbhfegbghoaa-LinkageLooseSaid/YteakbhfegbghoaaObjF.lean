/- The contracts of defs, links, fits, May, Words. -/
import Derived.Test.YteakbhfegbghoaaObjN
import Derived.Maps.Keyed
import Derived.Lib.SliceRun
import Derived.BigQuiet
namespace Go.Proofs.Yteakbhfegbghoaa.Obj
open Go Go.RowKit Go.Maps Go.Proofs.Yteakbhfegbghoaa.Kit Go.Proofs.Yteakbhfegbghoaa.Str Go.Proofs.Yteakbhfegbghoaa.Names Go.Proofs.Yteakbhfegbghoaa.Let
open Go.Proofs.Yteakbhfegbghoaa.Letters (wv WsAt word_info)
set_option linter.unusedSimpArgs false
set_option linter.unusedVariables false
/-- No text is longer than a text can be. -/
structure Lens (O : Ob) : Prop where
  defs : ∀ d ∈ O.defs, d.1.length ≤ maxLen
  links : ∀ x ∈ O.links, x.1.length ≤ maxLen ∧ x.2.1.length ≤ maxLen
abbrev ek (l : List UInt8) : Value := st l
abbrev ev (b : Bool) : Value := .bool b
theorem law : Keyed Try.prog 9 := string_keyed Try.underlying9
theorem keyOf_st {l : List UInt8} (h : l.length ≤ maxLen) : keyOf Try.prog 9 (ek l) = some (.string l) := by
  have := WideMaps.keyOf_string_mk (P := Try.prog) (k := 9) Try.underlying9 (s := ⟨l.toArray⟩) (by rw [ByteArray.size]; simpa using h)
  simpa using this
theorem ek_inj (L : List (List UInt8 × Bool)) : ∀ q ∈ L, ∀ x : List UInt8, ek q.1 = ek x → q.1 = x := fun q _ x h => st_inj h
def seenL (ds : List Df) : List (List UInt8 × Bool) := ds.map fun d => (d.1, true)
theorem seen_get (ds : List Df) (x : List UInt8) : get? (seenL ds) x = if x ∈ ds.map (·.1) then some true else none := by
  unfold get? seenL
  induction ds with
  | nil => rfl
  | cons d r ih =>
    rw [List.map_cons, List.find?_cons]
    by_cases e : d.1 = x
    · rw [decide_eq_true e, if_pos (by rw [List.map_cons, e]; exact List.mem_cons_self ..)]
      rfl
    · rw [decide_eq_false e]
      refine ih.trans ?_
      by_cases h : x ∈ r.map (·.1)
      · rw [if_pos h, if_pos (by rw [List.map_cons]; exact List.mem_cons_of_mem _ h)]
      · rw [if_neg h, if_neg (by
          rw [List.map_cons, List.mem_cons]
          rintro (h' | h')
          · exact e h'.symm
          · exact h h')]
theorem seen_put {ds : List Df} {d : Df} (h : ¬ d.1 ∈ ds.map (·.1)) : put (seenL ds) d.1 true = seenL (ds ++ [d]) := by
  unfold put
  rw [seen_get, if_neg h]
  simp [seenL]
theorem defs_bad {n : Nat} {ds : List Df} {k : Nat} {d : Df} (hx : ds[k]? = some d) (h : defB n d = false) : defsB n ds = false := by
  unfold defsB
  rw [Bool.and_eq_false_iff]
  left
  rw [List.all_eq_false]
  exact ⟨d, List.mem_of_getElem? hx, by rw [h]; decide⟩
theorem defs_dup {n : Nat} {ds : List Df} {k : Nat} {d : Df} (hx : ds[k]? = some d) (h : d.1 ∈ (ds.take k).map (·.1)) : defsB n ds = false := by
  unfold defsB
  rw [Bool.and_eq_false_iff]
  right
  rw [Bool.and_eq_false_iff]
  left
  rw [decide_eq_false_iff_not]
  intro hn
  have e : ds.map (·.1) = (ds.take k).map (·.1) ++ (ds.drop k).map (·.1) := by rw [← List.map_append, List.take_append_drop]
  rw [e, List.nodup_append] at hn
  have hd : d ∈ ds.drop k := List.mem_of_getElem? (i := 0) (by rw [List.getElem?_drop]; exact hx)
  exact hn.2.2 _ h _ (List.mem_map.2 ⟨d, hd, rfl⟩) rfl
theorem zero_bool (w : World) : (zeroValue 4).run Try.prog w = .ok (.bool false) w := by kernel_rfl
set_option maxRecDepth 100000 in
set_option maxHeartbeats 4000000 in
theorem defs_any (w : World) (v : Value) (O : Ob) (h : ObAt w v O) (hL : Lens O) :
    Calls Try.prog 64 #[v] w fun e w' => e = .returned (.bool (defsB O.text.length O.defs)) ∧ New w w' := by
  obtain ⟨a, b, c, d, rfl, ha, hb, hc, hd⟩ := h
  obtain ⟨a1, k1, ea, hk1, hk1m, _⟩ := id ha
  obtain ⟨a2, k2, eb, _⟩ := id hb
  obtain ⟨a3, k3, ec, hk3, hk3m, _⟩ := id hc
  obtain ⟨a4, k4, ed, hk4, hk4m, _⟩ := id hd
  obtain ⟨m1, hm1⟩ : ∃ m, m = O.text.length := ⟨_, rfl⟩
  obtain ⟨m3, hm3⟩ : ∃ m, m = O.defs.length := ⟨_, rfl⟩
  rw [← hm1] at ea hk1
  rw [← hm3] at ec hk3
  subst ea eb ec ed
  rw [← hm1]
  unfold maxLen at hk1m hk3m
  obtain ⟨cs, hcs⟩ : ∃ cs : Array Value, cs = #[.slice a1 m1 k1, .slice a2 O.static.length k2, .slice a3 m3 k3, .slice a4 O.links.length k4] := ⟨_, rfl⟩
  obtain ⟨B, hB⟩ : ∃ B, B = w.heap.size := ⟨_, rfl⟩
  have hbx : Blk (w.alloc (.cells cs 29)) B 29 cs := by rw [hB]; exact Blk.new w _ _
  have hW1 : New w (w.alloc (.cells cs 29)) := (New.refl w).alloc _
  have HA := hid (And.intro hc (And.intro hL (And.intro hm1 hm3)))
  have HB := hid hbx
  have HW := hid hW1
  have hsz : (w.alloc (.cells cs 29)).heap.size = B + 1 := by rw [World.size_alloc, hB]
  have HS := hid (And.intro hsz (And.intro hB hcs))
  have hmm := @run_makeMap Try.prog
  clear ha hb hc hd hL hm1 hm3 hbx hW1 hsz
  go_enter Try.func64, Try.ntmps64
  rw [← hcs]
  clear hcs
  have e0 : ((w.alloc (.cells cs 29)).alloc (.map #[] 0)).cell? ⟨w.heap.size, 2, none⟩ = some (.slice a3 m3 k3) := by rw [← HS.out.2.1, (HB.out.new_ ((New.refl _).alloc _)).cell, HS.out.2.2]; rfl
  have hmp := MapIs.new (w.alloc (.cells cs 29))
  rw [HS.out.1] at hmp
  have HM := hid (show MapOf ek ev ((w.alloc (.cells cs 29)).alloc (.map #[] 0)) (B + 1) (seenL []) from hmp)
  have HB2 := hid (HB.out.new_ ((New.refl _).alloc (.map #[] 0)))
  have HW2 := hid (HW.out.alloc (.map #[] 0))
  clear hmp HB HW
  go_wp2_with fail
  rw [← HS.out.2.1]
  generalize (w.alloc (.cells cs 29)).alloc (.map #[] 0) = W1 at *
  have HBM : Hid (w.heap.size ≤ B ∧ w.heap.size ≤ B + 1) := by have := HS.out.2.1; exact ⟨by omega, by omega⟩
  have HCS := hid HS.out.2.2
  clear HS e0
  generalize hMM : B + 1 = M at *
  have HNE : Hid (B ≠ M) := by show B ≠ M; omega
  clear hMM hB
  go_loopw [10] (fun i wr => ∃ k : Nat, k ≤ m3 ∧ i = .int .i64 (k : Int) ∧ New w wr ∧ Blk wr B 29 cs ∧ MapOf ek ev wr M (seenL (O.defs.take k)) ∧ (∀ d ∈ O.defs.take k, defB m1 d = true) ∧ ((O.defs.take k).map (·.1)).Nodup) (fun i _ => m3 - (intOf i).toNat)
  case atStart => exact ⟨0, Nat.zero_le _, rfl, HW2.out, HB2.out, HM.out, fun d hd => by simp at hd, by simp⟩
  case round =>
    clear HM HB2 HW2
    obtain ⟨k, hk, rfl, hnr, hbx, hmp, hall, hnd⟩ := hrel
    by_cases hkn : k < m3
    · have w2' : IntKind.i64.wrap ((k : Int) + 1) = k + 1 := by rw [IntKind.wrap_i64]; omega
      obtain ⟨bb, oo, x, rfl, hx, _, hcell⟩ := (HA.out.1.new_ hnr).get hkn
      obtain ⟨nm, of⟩ := x
      have c0 := hcell 0 _ rfl
      have c1 := hcell 1 _ rfl
      rw [Nat.add_zero] at c0
      have j0 : (0 : Int) ≤ (k : Int) := by omega
      have j1 : (k : Int) < (m3 : Int) := by omega
      have hlen := HA.out.2.1.defs _ (List.mem_of_getElem? hx)
      obtain ⟨w4, hw4⟩ : ∃ w4, w4 = wr.alloc (.cells #[.string ⟨nm.toArray⟩, .int .i64 of] 104) := ⟨_, rfl⟩
      obtain ⟨D, hD⟩ : ∃ D, D = wr.heap.size := ⟨_, rfl⟩
      have hn4 : New wr w4 := by rw [hw4]; exact (New.refl _).alloc _
      have hd4 : Blk w4 D 104 #[.string ⟨nm.toArray⟩, .int .i64 of] := by rw [hw4, hD]; exact Blk.new _ _ _
      have d0 : w4.cell? ⟨D, 0, none⟩ = some (.string ⟨nm.toArray⟩) := by rw [hd4.cell]; rfl
      have d1 : w4.cell? ⟨D, 1, none⟩ = some (.int .i64 of) := by rw [hd4.cell]; rfl
      have hbx4 := hbx.new_ hn4
      have b0 : w4.cell? ⟨B, 0, none⟩ = some (.slice a1 m1 k1) := by rw [hbx4.cell, HCS.out]; rfl
      have hmp4 : MapOf ek ev w4 M (seenL (O.defs.take k)) := MapIs.of_block hmp (hn4.block M (MapIs.lt hmp))
      have hMlt : M < w4.heap.size := MapIs.lt hmp4
      have hkey : ∀ p ∈ seenL (O.defs.take k), ∃ l, keyOf Try.prog 9 (ek p.1) = some l := fun p hp => by
        obtain ⟨d, hd, rfl⟩ := List.mem_map.1 hp
        exact ⟨_, keyOf_st (HA.out.2.1.defs d (List.mem_of_mem_take hd))⟩
      have hlk := fun j => MapOf.lookup_ok (P := Try.prog) (t := 151) (show MapOf ek ev (w4.drewN j) M (seenL (O.defs.take k)) from hmp4) law Try.underlying151 (zero_bool _) hkey (ek_inj _) (keyOf_st hlen) false
      have hupd := fun j => MapOf.update (P := Try.prog) (t := 151) (show MapOf ek ev (w4.drewN j) M (seenL (O.defs.take k)) from hmp4) law Try.underlying151 hkey (ek_inj _) (keyOf_st hlen) true
      rw [seen_get] at hlk
      have hMay := fun X => may_any nm (by unfold maxLen at hlen; exact hlen) X
      have HX := hid (And.intro hx (And.intro (hnr.step hn4) (And.intro hbx4 (And.intro hall hnd))))
      have HU := hid hupd
      clear hx hnr hbx hmp hall hnd hcell hn4 hd4 hbx4 hmp4 hkey hupd
      by_cases h1 : signsB nm 32 = true
      · rw [h1] at hMay
        by_cases h2 : nm ∈ (O.defs.take k).map (·.1)
        · have hlk' : ∀ j, (Instr.lookup 151 (.map (some M)) (.string ⟨nm.toArray⟩) false).run Try.prog (w4.drewN j) = .ok (.bool true) (w4.drewN j) := fun j => by have := hlk j; rw [if_pos h2] at this; exact this
          have HF := hid (show defsB m1 O.defs = false from defs_dup HX.out.1 h2)
          clear hlk h1 h2
          go_wp2_with fail
          rw [← hw4, ← hD]
          clear hw4 hD
          refine (hMay _).mono ?_
          rintro e w5 ⟨rfl, j, rfl⟩
          go_wp2_with fail
          go_ret
          exact ⟨ret_bool HF.out.symm, HX.out.2.1.drewN _⟩
        · have hlk' : ∀ j, (Instr.lookup 151 (.map (some M)) (.string ⟨nm.toArray⟩) false).run Try.prog (w4.drewN j) = .ok (.bool false) (w4.drewN j) := fun j => by have := hlk j; rw [if_neg h2] at this; exact this
          clear hlk
          by_cases h3 : 0 ≤ of
          · by_cases h4 : of < (m1 : Int)
            · have h3' : ¬ of < 0 := by omega
              have h4' : ¬ (m1 : Int) ≤ of := by omega
              have hg : defB m1 (nm, of) = true := by unfold defB; simp [h1, h3, h4]
              have hall' : ∀ d ∈ O.defs.take (k + 1), defB m1 d = true := fun d hd => by
                rw [take_snoc HX.out.1] at hd
                rcases List.mem_append.1 hd with hd | hd
                · exact HX.out.2.2.2.1 d hd
                · rw [List.mem_singleton.1 hd]; exact hg
              have hnd' : ((O.defs.take (k + 1)).map (·.1)).Nodup := by
                rw [take_snoc HX.out.1, List.map_append, List.nodup_append]
                refine ⟨HX.out.2.2.2.2, by simp, fun a ha b hb => ?_⟩
                simp only [List.map_cons, List.map_nil, List.mem_singleton] at hb
                rw [hb]
                rintro rfl
                exact h2 ha
              have hput : put (seenL (O.defs.take k)) nm true = seenL (O.defs.take (k + 1)) := by
                rw [take_snoc HX.out.1]
                exact seen_put (d := (nm, of)) h2
              have HG := hid (And.intro hall' (And.intro hnd' hput))
              clear h1 h2 hg hall' hnd' hput
              go_wp2_with fail
              rw [← hw4, ← hD]
              clear hw4 hD
              refine (hMay _).mono ?_
              rintro e w5 ⟨rfl, j, rfl⟩
              obtain ⟨ob, hrun, hmp'⟩ := HU.out j
              have HP := hid hmp'
              clear hmp'
              go_wp2_with fail
              have hkp : Keeps (fun i => i = M) (w4.drewN j) (Go.ChangeMaps.setBlock (w4.drewN j) M ob) := Keeps.setBlock (F := fun i => i = M) (Keeps.refl _ _) (.inr rfl) _
              refine ⟨⟨k + 1, by omega, by go_num, (HX.out.2.1.drewN j).kept hkp (fun i hi => by rw [hi]; exact HBM.out.2), Blk.keeps (show Blk (w4.drewN j) B _ _ from HX.out.2.2.1) hkp HNE.out, ?_, HG.out.1, HG.out.2.1⟩, by simp [intOf]; omega⟩
              have := HP.out
              rw [HG.out.2.2] at this
              exact this
            · have h3' : ¬ of < 0 := by omega
              have h4' : (m1 : Int) ≤ of := by omega
              have HF := hid (show defsB m1 O.defs = false from defs_bad HX.out.1 (by unfold defB; simp [h1, h3, h4]))
              clear h1 h2
              go_wp2_with fail
              rw [← hw4, ← hD]
              clear hw4 hD
              refine (hMay _).mono ?_
              rintro e w5 ⟨rfl, j, rfl⟩
              go_wp2_with fail
              go_ret
              exact ⟨ret_bool HF.out.symm, HX.out.2.1.drewN _⟩
          · have h3' : of < 0 := by omega
            have HF := hid (show defsB m1 O.defs = false from defs_bad HX.out.1 (by unfold defB; simp [h1, h3]))
            clear h1 h2 h3
            go_wp2_with fail
            rw [← hw4, ← hD]
            clear hw4 hD
            refine (hMay _).mono ?_
            rintro e w5 ⟨rfl, j, rfl⟩
            go_wp2_with fail
            go_ret
            exact ⟨ret_bool HF.out.symm, HX.out.2.1.drewN _⟩
      · have h1' : signsB nm 32 = false := by simpa using h1
        rw [h1'] at hMay
        have HF := hid (show defsB m1 O.defs = false from defs_bad HX.out.1 (by unfold defB; simp [h1']))
        clear h1 h1'
        go_wp2_with fail
        rw [← hw4, ← hD]
        clear hw4 hD
        refine (hMay _).mono ?_
        rintro e w5 ⟨rfl, j, rfl⟩
        go_wp2_with fail
        go_ret
        exact ⟨ret_bool HF.out.symm, HX.out.2.1.drewN _⟩
    · have hke : m3 = k := by omega
      subst hke
      have hlt : ¬ (m3 : Int) < (m3 : Int) := by omega
      have e0 : wr.cell? ⟨B, 2, none⟩ = some (.slice a3 m3 k3) := by rw [hbx.cell, HCS.out]; rfl
      have htk : O.defs.take m3 = O.defs := by rw [HA.out.2.2.2, List.take_length]
      have hfin : defsB m1 O.defs = decide ((m3 : Int) ≤ 32) := by
        rw [htk] at hall hnd
        unfold defsB
        rw [List.all_eq_true.2 hall, decide_eq_true hnd, Bool.true_and, Bool.true_and, ← HA.out.2.2.2]
        rw [Bool.eq_iff_iff]
        simp only [decide_eq_true_eq]
        omega
      have HF := hid (And.intro hfin hnr)
      clear hfin hall hnd hmp hbx hnr htk
      go_wp2_with fail
      go_ret
      exact ⟨ret_bool HF.out.1.symm, HF.out.2⟩
end Go.Proofs.Yteakbhfegbghoaa.Obj
