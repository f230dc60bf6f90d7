/- The walk of StoreCuts. -/
import Derived.Test.YtclmgpopejlfdaaStoreAwake
import Derived.Test.YtclmgpopejlfdaaOpenS
import Derived.Test.YtclmgpopejlfdaaSame
namespace Go.Proofs.Ytclmgpopejlfdaa.Law
open Go Go.RowKit Go.ChangeShapes Go.WideShapes Go.Proofs.Ytclmgpopejlfdaa.Kit Go.Proofs.Ytclmgpopejlfdaa.Wd Go.Proofs.Ytclmgpopejlfdaa.Store Go.Proofs.Ytclmgpopejlfdaa.Open Go.Proofs.Ytclmgpopejlfdaa.Same
set_option linter.unusedSimpArgs false
set_option linter.unusedVariables false
def slLen : Value → Nat
  | .slice _ n _ => n
  | _ => 0
abbrev one (g : Nat) (ws : List Int) : St := ⟨300, 1, [(1, g, ws)]⟩
theorem one_used (g : Nat) (ws : List Int) : (one g ws).used = ws.length := by simp [St.used, St.usedN]
/-- The store's words are ws, the slice's are us. -/
structure Cut (B : Nat) (w : World) (p m g : Nat) (ws : List Int) (v : Value) (g2 o2 cap : Nat) (us : List Int) : Prop where
  at_ : At w p m (one g ws)
  val : v = .slice (some ⟨g2, o2, none⟩) us.length cap
  sl : Sl w B 36 1 (.slice (some ⟨g2, o2, none⟩) us.length cap) us.length (us.map (Value.int .u64))
  ne : g ≠ g2
  low : B ≤ g
  len : ws.length ≤ 30
theorem slw_apart {w : World} {p m B n : Nat} {S : St} {g2 o2 cap : Nat} {cs : List Value} (h : At w p m S) (hs : Sl w B 36 1 (.slice (some ⟨g2, o2, none⟩) n cap) n cs) : g2 ≠ p ∧ g2 ≠ m := by
  rcases hs.2 with ⟨e, _⟩ | ⟨g', o', cap', cur, hv, hb, hg, _⟩
  · cases e
  · injection hv with hv1 hv2 hv3
    injection hv1 with hv1
    injection hv1 with hv1 hv4
    subst hv1
    have hB : Blk w g2 36 cur := hg
    refine ⟨?_, MapIs.ne_blk h.mp hB⟩
    rintro rfl
    have h2 := h.blk
    unfold Blk at hB h2
    rw [hB] at h2
    injection h2 with h2
    injection h2 with _ h3
    exact absurd h3 (by decide)
theorem At.off {w w' : World} {p m g g2 : Nat} {ws : List Int} (h : At w p m (one g ws)) {F : Nat → Prop} (k : Keeps F w w') (hF : ∀ b, F b → b = g2) (h1 : g2 ≠ p) (h2 : g2 ≠ m) (h3 : g ≠ g2) : At w' p m (one g ws) := by
  refine h.keeps k ?_
  rintro b (rfl | rfl | ⟨x, hx, rfl⟩) hb
  · exact h1 (hF _ hb).symm
  · exact h2 (hF _ hb).symm
  · cases List.mem_singleton.1 hx
    exact h3 (hF _ hb)
set_option maxRecDepth 100000 in
set_option maxHeartbeats 4000000 in
theorem storeCuts_walk (a : Option Addr) (c : Nat) (xs : List Int) (hx : ∀ x ∈ xs, 0 ≤ x ∧ x < 256) (y : Int) (hy0 : 0 ≤ y) (hy1 : y < 18446744073709551616) (W : World)
    (hc : 0 < xs.length → ∃ b o, a = some ⟨b, o, none⟩ ∧ b < W.heap.size ∧ ∀ i, i < xs.length → W.cell? ⟨b, o + i, none⟩ = some (.int .u8 (xs.getD i 0))) :
    Calls Try.prog 5 #[.slice a xs.length c, .int .u64 y] W fun e w' => e = .returned (.bool true) ∧ New W w' := by
  have H := hid hc
  have HX := hid hx
  clear hc hx
  go_enter Try.func5, Try.ntmps5
  go_wp2_with fail
  refine (awake_any W).mono ?_
  rintro e w0 ⟨rfl, n0⟩
  go_wp2_with fail
  refine (new_any 300 w0 (by decide)).mono ?_
  rintro e w1 ⟨rfl, n1, a1⟩
  have a1 : At w1 _ _ ⟨300, 0, []⟩ := a1
  by_cases h60 : 60 < xs.length
  · go_wp2
    go_ret
    exact ⟨rfl, n0.step n1⟩
  have s0 := n0.size
  have s1 := a1.blk.lt
  go_wp2_with fail
  refine (make_yes w1 _ _ _ a1 10 rfl (by decide)).mono ?_
  rintro e w2 ⟨rfl, b2, l2, a2, k2⟩
  have a2 : At w2 _ _ (one b2 (List.replicate 10 0)) := a2
  have n2 := (n0.step n1).kept k2 (by rintro i (rfl | rfl) <;> omega)
  rw [show (St.next ⟨300, 0, []⟩) + 1 = 1 from rfl]
  have s2 := k2.size
  have a2r := (a2.rows (1, b2, List.replicate 10 0) (List.mem_singleton.2 rfl)).lt
  simp only at a2r
  have hmk : (Instr.makeSlice 45 (.int .i64 10) (.int .i64 10)).run Try.prog w2 = .ok (.slice (some ⟨w2.heap.size, 0, none⟩) 10 10) (w2.alloc (.cells (row (List.replicate 10 0)) 36)) := by
    rw [row_made]
    exact run_make_row' 45 36 (.int .u64 0) 8 Try.underlying45 word_info rfl .i64 .i64 10 (by omega) (by omega) w2
  have hcut : Cut W.heap.size (w2.alloc (.cells (row (List.replicate 10 0)) 36)) (w0.heap.size + 1) w0.heap.size b2 (List.replicate 10 0) (.slice (some ⟨w2.heap.size, 0, none⟩) 10 10) w2.heap.size 0 10 (List.replicate 10 0) := by
    refine ⟨a2.keeps ((Keeps.refl (fun _ => False) w2).alloc _) (fun _ _ h => h), rfl, ?_, by omega, by omega, by decide⟩
    have := Sl.of_blk (base := W.heap.size) (Blk.new w2 36 (row (List.replicate 10 0))) (by omega) (by decide)
    exact this
  have hn3 : New W (w2.alloc (.cells (row (List.replicate 10 0)) 36)) := n2.alloc _
  obtain ⟨ti, hi, hzz⟩ := Option.map_eq_some_iff.1 word_info
  simp only [Prod.mk.injEq] at hzz
  have HT := hid (And.intro hi hzz)
  clear hi hzz a1 a2 n2 k2
  go_wp2_with fail
  go_loopw [8, 9] (fun v i wr => ∃ (j g g2 o2 cap : Nat) (ws : List Int), j ≤ xs.length ∧ i = .int .i64 (j : Int) ∧ Cut W.heap.size wr (w0.heap.size + 1) w0.heap.size g ws v g2 o2 cap ws ∧ New W wr) (fun _ i _ => xs.length - (intOf i).toNat)
  case atStart => exact ⟨0, b2, w2.heap.size, 0, 10, _, Nat.zero_le _, rfl, hcut, hn3⟩
  case round =>
    clear hcut hn3 hmk
    obtain ⟨j, g, g2, o2, cap, ws, hj, rfl, ⟨hat, rfl, hsl, hne, hlow, hlen⟩, hnr⟩ := hrel
    have w1' : IntKind.i64.wrap ((j : Int) + 1) = j + 1 := by rw [IntKind.wrap_i64]; omega
    have hgl : g < wr.heap.size := (hat.rows (1, g, ws) (List.mem_singleton.2 rfl)).lt
    have hap := slw_apart hat hsl
    have hns := hnr.size
    by_cases hjl : j < xs.length
    · obtain ⟨b, o, rfl, hb, hcell⟩ := H.out (by omega)
      have hcj := hnr.cellK (hcell j hjl)
      have hxj : 0 ≤ xs.getD j 0 ∧ xs.getD j 0 < 256 := HX.out _ (by rw [List.getD_eq_getElem?_getD, List.getElem?_eq_getElem hjl]; exact List.getElem_mem hjl)
      generalize xs.getD j 0 = x at hcj hxj
      clear hcell
      obtain ⟨n, hn⟩ : ∃ n : Nat, x / 2 % 30 = n := ⟨(x / 2 % 30).toNat, by omega⟩
      have hn30 : n < 30 := by omega
      by_cases hd : Go.bits .and .u8 x 1 = 0
      · have he : mayE (one g ws) (n : Int) ws.length = 0 := by
          unfold mayE
          rw [if_neg (by omega), one_used, if_neg (by show ¬ (300 : Int) - n < _; omega)]
        have hr := resize_yes wr _ _ _ hat 1 n (by decide) (by decide) g ws rfl he
        rw [← hn] at hr
        have hn' := hid hn
        clear he hn
        go_wp2_with fail
        refine hr.mono ?_
        rintro e w4 ⟨rfl, b4, hb4, hat4, hk4⟩
        have hat4 : At w4 _ _ (one b4 (cutL ws n)) := hat4
        have hsl4 := hsl.keeps hk4 (fun g' hg' e => by cases hg'; exact e.elim hap.1 hap.2)
        have hnr4 := hnr.kept hk4 (by rintro i (rfl | rfl) <;> omega)
        have hg2l := (hsl.lt g2 rfl).2
        clear hr hcj
        go_wp2_with fail
        go_loopw [8] (fun v wr => ∃ (q g2 o2 cap : Nat), v = .slice (some ⟨g2, o2, none⟩) (ws.length + q : Nat) cap ∧ At wr (w0.heap.size + 1) w0.heap.size (one b4 (cutL ws n)) ∧ Sl wr W.heap.size 36 1 v (ws.length + q) ((ws ++ List.replicate q 0).map (Value.int .u64)) ∧ b4 ≠ g2 ∧ (q = 0 ∨ ws.length + q ≤ n) ∧ New W wr) (fun v _ => n - slLen v)
        case atStart =>
          refine ⟨0, g2, o2, cap, rfl, hat4, ?_, by omega, .inl rfl, hnr4⟩
          simpa using hsl4
        case round =>
          have hb4W : W.heap.size ≤ b4 := by omega
          clear hat hsl hne hlow hap hns hgl hat4 hsl4 hnr4 hnr hg2l hb4 hk4
          obtain ⟨q, g2, o2, cap, rfl, hat, hsl, hne, hq, hnr⟩ := hrel
          have hap := slw_apart hat hsl
          have hns := hnr.size
          have hbl : b4 < wr.heap.size := (hat.rows (1, b4, cutL ws n) (List.mem_singleton.2 rfl)).lt
          by_cases hql : ws.length + q < n
          · have hql' : ((ws.length : Int) + q) < x / 2 % 30 := by rw [hn'.out]; omega
            obtain ⟨hi, hz, hs, hbt⟩ := HT.out
            have hi' := hid hi
            have hz' := hid hz
            have hs' := hid hs
            have hbt' := hid hbt
            have hlen1 : ws.length + q ≤ 30 := by omega
            clear hi hz hs hbt
            go_wp2_with (at_builtin; refine wpList_append_sl _ rfl (.tmp 62) (.tmp 63) 45 rfl W.heap.size 36 ti (.int .u64 0) 1 8 Try.underlying45 hi'.out hz'.out hs'.out hbt'.out rfl (by decide) _ (ws.length + q) _ rfl (hsl.alloc _) ⟨wr.heap.size, 0, none⟩ 1 1 [.int .u64 0] rfl (by decide) rfl (cell_one_new _ _ _) (by simp [Value.oneCell']) (by unfold maxLen; omega) (by omega) (by simp; omega) ?_; intro v' w3 hs3 hg3 hb3)
            obtain ⟨g3, o3, cap3, hv3, hb3', hg3l, hcap3, _, _⟩ := hs3.form (by omega)
            subst hv3
            have hnw : New W w3 := New.kept (hnr.alloc (.cells #[.int .u64 0] 36)) (F := fun b => b = g2) ⟨hg3.os, hg3.tape, hg3.output, hg3.size, fun i hi hn => hg3.block i hi (fun e => hn (by cases e; rfl))⟩ (fun i hi => by rw [hi]; exact (hsl.lt g2 rfl).1)
            have hat3 : At w3 _ _ (one b4 (cutL ws n)) := At.off (g2 := g2) (hat.keeps ((Keeps.refl (fun _ => False) wr).alloc (.cells #[.int .u64 0] 36)) (fun _ _ h => h)) (F := fun b => b = g2) ⟨hg3.os, hg3.tape, hg3.output, hg3.size, fun i hi hn => hg3.block i hi (fun e => hn (by cases e; rfl))⟩ (fun _ h => h) hap.1 hap.2 hne
            go_wp2_with fail
            go_roundw
            case rel =>
              refine ⟨q + 1, g3, o3, cap3, by rw [Nat.add_assoc], hat3, ?_, ?_, .inr (by omega), hnw⟩
              · rw [← Nat.add_assoc, List.replicate_succ', ← List.append_assoc, List.map_append]
                exact hs3
              · rcases hb3 with h | ⟨g', h, h'⟩
                · cases h; exact hne
                · have e : g3 = g' := by simpa [Value.ownBlock] using h
                  rw [World.size_alloc] at h'
                  intro e2
                  omega
            case measure => simp [slLen]; omega
          · have hql' : ¬ ((ws.length : Int) + q) < x / 2 % 30 := by rw [hn'.out]; omega
            have hnn : (x / 2 % 30).toNat = n := by rw [hn'.out]; rfl
            obtain ⟨hi, hz, hs, hbt⟩ := HT.out
            have hi' := hid hi
            have hz' := hid hz
            have hs' := hid hs
            have hbt' := hid hbt
            have hnews : ∀ jj u, ((cutL ws n).map (Value.int .u64))[jj]? = some u → (wr.alloc (.cells #[] 36)).cell? ((⟨g2, o2, none⟩ : Addr).add jj) = some u := by
              intro jj u hu
              have hjn : jj < n := by
                have := (List.getElem?_eq_some_iff.1 hu).1
                rw [List.length_map, cutL_length] at this
                exact this
              obtain ⟨g', o', cap', hv', _, hgl', _, hcl, _⟩ := hsl.form (by omega)
              cases hv'
              rw [Addr.add_lit]
              have hcc := hcl jj u (by
               rw [← hu, List.getElem?_map, List.getElem?_map]
               congr 1
               unfold cutL
               rcases hq with rfl | hq
               · rw [List.replicate_zero, List.append_nil, List.getElem?_append_left (by simp; omega), List.getElem?_take_of_lt hjn]
               · rw [show n - ws.length = q by omega, List.take_of_length_le (by omega)])
              rw [World.cell?_alloc_some _ _ _ (by rw [hcc]; rfl)]
              exact hcc
            have hn'' := hid hnews
            have hl30 : (cutL ws n).length = n := cutL_length ws n
            have hl' := hid hl30
            have hcap : n ≤ cap := by
              rcases hsl.2 with ⟨e, _⟩ | ⟨g', o', cap', cur, hv', _, _, hc', _⟩
              · cases e
              · cases hv'; omega
            clear hi hz hs hbt hnews hl30
            go_wp2_with (at_builtin; refine wpList_append_own _ rfl (.tmp 65) (.tmp 68) 45 rfl wr.heap.size 36 ti (.int .u64 0) 1 8 Try.underlying45 hi'.out hz'.out hs'.out hbt'.out rfl (by decide) _ 0 [] rfl (World.ownsRow_made wr #[] 0 (Nat.le_refl _) (by simp) rfl) ⟨g2, o2, none⟩ n cap ((cutL ws n).map (Value.int .u64)) rfl (by rw [List.length_map, hl'.out, Nat.mul_one]) hn''.out (one_cells _) (by unfold maxLen; omega) (by omega) (by simp) ?_; intro v' w3 ho3 hg3 hnil3)
            obtain ⟨hz4, hz5⟩ := ho3
            rcases hz5 with ⟨hz6, _⟩ | ⟨g3, cap3, cur3, hv3, hb3, hbk, hc3, hm3, hs3, ht3⟩
            · exact absurd (hnil3.1 hz6).1 (by intro e; cases e)
            · have hv4 : v' = .slice (some ⟨g3, 0, none⟩) (cutL ws n).length cap3 := by rw [hv3, hl'.out, Nat.zero_add]
              have hsl3 : Sl w3 W.heap.size 36 1 (.slice (some ⟨g3, 0, none⟩) (cutL ws n).length cap3) (cutL ws n).length ((cutL ws n).map (Value.int .u64)) := by
                refine ⟨by simp, .inr ⟨g3, 0, cap3, cur3, rfl, by omega, hbk, by rw [hl'.out]; omega, hm3, by omega, ?_⟩⟩
                rw [hl'.out]
                rw [Nat.zero_add, List.nil_append] at ht3
                simpa using ht3
              have hnw : New W w3 := New.kept (hnr.alloc (.cells #[] 36)) (F := fun b => b = wr.heap.size) ⟨hg3.os, hg3.tape, hg3.output, hg3.size, fun i hi hn => hg3.block i hi (fun e => hn (by cases e; rfl))⟩ (fun i hi => by rw [hi]; exact hns)
              have hat3 : At w3 (w0.heap.size + 1) w0.heap.size (one b4 (cutL ws n)) := by
                have h1 := hat.keeps ((Keeps.refl (fun _ => False) wr).alloc (.cells #[] 36)) (fun _ _ h => h)
                refine h1.keeps (F := fun b => b = wr.heap.size) ⟨hg3.os, hg3.tape, hg3.output, hg3.size, fun i hi hn => hg3.block i hi (fun e => hn (by cases e; rfl))⟩ ?_
                have := hat.blk.lt
                have := MapIs.lt hat.mp
                rintro b (rfl | rfl | ⟨x, hx, rfl⟩) e
                · omega
                · omega
                · cases List.mem_singleton.1 hx
                  simp only at e
                  omega
              refine ⟨⟨j + 1, b4, g3, 0, cap3, cutL ws n, by omega, by go_num, ⟨hat3, hv4, hsl3, by omega, hb4W, by rw [hl'.out]; omega⟩, hnw⟩, ?_⟩
              simp [intOf]; omega
      · have hwj : IntKind.u64.wrap (j : Int) = j := by rw [IntKind.wrap_u64]; omega
        obtain ⟨z, hz⟩ : ∃ z, z = IntKind.u64.wrap (y + j) := ⟨_, rfl⟩
        have hz0 : 0 ≤ z ∧ z < 18446744073709551616 := by rw [hz, IntKind.wrap_u64]; omega
        have hzm : Go.bits .and .u64 z 68719476735 = z % 68719476736 := and_mask hz0.1 hz0.2
        by_cases hnl : n < ws.length
        · have hwr := write_yes wr _ _ _ hat 1 z n hz0.1 hz0.2 (by decide) (by decide) g ws rfl hnl
          have hS : writeS (one g ws) 1 n z = one g (ws.set n (z % 68719476736)) := by
            unfold writeS
            show (if n < ws.length then _ else _) = _
            rw [if_pos hnl]
            rfl
          rw [hS, ← hn] at hwr
          rw [hz] at hwr hzm
          have hn' := hid hn
          clear hn hz hS
          have hnl' : x / 2 % 30 < ws.length := by rw [hn'.out]; omega
          go_wp2_with fail
          refine hwr.mono ?_
          rintro e w3 ⟨rfl, hat3, hk3⟩
          have hi0 : 0 ≤ x / 2 % 30 := by omega
          have hnn : (x / 2 % 30).toNat = n := by rw [hn'.out]; rfl
          have hsl3 := hsl.keeps hk3 (fun g' hg' e => by cases hg'; exact hne e.symm)
          obtain ⟨g', o', cap', hv', _, _, _, hcl, hfr⟩ := hsl3.form (by omega)
          cases hv'
          have hcn := hcl n _ (by rw [List.getElem?_map, List.getElem?_eq_getElem hnl]; rfl)
          have hfn := hfr (o2 + n)
          clear hcl hfr
          go_wp2_with fail
          have hk : Keeps (fun b => b = g2) w3 (w3.setCell ⟨g2, o2 + n, none⟩ (.int .u64 (IntKind.u64.wrap (y + j) % 68719476736))) := Keeps.setCell (F := fun b => b = g2) (Keeps.refl _ w3) (.inr rfl) _
          have hst := hsl3.set n hnl (.int .u64 (IntKind.u64.wrap (y + j) % 68719476736))
          have hls : (ws.set n (IntKind.u64.wrap (y + j) % 68719476736)).length = ws.length := by simp
          refine ⟨⟨j + 1, g, g2, o2, cap, ws.set n (IntKind.u64.wrap (y + j) % 68719476736), by omega, by go_num, ⟨At.off hat3 hk (fun _ h => h) hap.1 hap.2 hne, by rw [hls], ?_, hne, hlow, by rw [hls]; exact hlen⟩, (hnr.kept hk3 (by rintro i rfl; exact hlow)).kept hk (fun i hi => by rw [hi]; exact (hsl.lt g2 rfl).1)⟩, ?_⟩
          · rw [hls, List.map_set]
            exact hst
          · simp [intOf]; omega
        · have hE : writeE (one g ws) 1 n = 8 := by
            unfold writeE
            show (if 0 ≤ (n : Int) ∧ (n : Int) < ws.length then (0 : Int) else 8) = 8
            rw [if_neg (by omega)]
          have hwr := write_no wr _ _ _ hat 1 n z (by decide) (by decide) (by rw [hE]; decide)
          rw [hE, ← hn, hz] at hwr
          have hn' := hid hn
          clear hn hz hE
          have hnl' : ¬ x / 2 % 30 < ws.length := by rw [hn'.out]; omega
          go_wp2_with fail
          refine hwr.mono ?_
          rintro e w3 ⟨rfl, rfl⟩
          go_wp2_with fail
          refine ⟨⟨j + 1, g, g2, o2, cap, ws, by omega, by go_num, ⟨hat, rfl, hsl, hne, hlow, hlen⟩, hnr⟩, ?_⟩
          simp [intOf]; omega
    · have hw := words_some wr _ _ _ hat 1 (by decide) (by decide) g ws rfl
      go_wp2_with fail
      refine hw.mono ?_
      rintro e w5 ⟨v5, rfl, ho5, hn5⟩
      have h5 := WordsAt.of_sl (Sl.of_owns ho5)
      have h6 := WordsAt.of_sl (hsl.new_ hn5)
      have hat5 := hat.keeps (hn5.keeps (fun _ => False)) (fun _ _ h => h)
      have hsm := same_true w5 _ _ ws h5 h6 (by omega)
      have hus : ∀ k, Calls Try.prog 12 #[.pointer (some ⟨w0.heap.size + 1, 0, none⟩)] (w5.drewN k) fun e w' => e = .returned (.int .i64 ws.length) ∧ w5.drewN k = w' := fun k => by
        have := used_any (w5.drewN k) _ _ _ (hat5.drewN k)
        rw [one_used] at this
        exact this
      go_wp2_with fail
      refine hsm.mono ?_
      rintro e w6 ⟨rfl, k6, rfl⟩
      go_wp2_with fail
      refine (hus k6).mono ?_
      rintro e w7 ⟨rfl, rfl⟩
      go_wp2_with fail
      go_ret
      exact ⟨rfl, (hnr.step hn5).drewN k6⟩
theorem storeCuts_row {H : Type} {enc : TypeId × Value → H} (W : World) {base : Nat}
    (v0 : Value) (d0 : DataW H) (p0 : List MemPlace) (k0 : Value.okWide Try.prog W .any base 22 v0) (h0 : DataW.Trod enc Try.prog W 0 (fun _ => true) true 22 v0 d0 p0) (l0 : ∀ x ∈ p0, x.block < W.heap.size)
    (v1 : Value) (d1 : DataW H) (p1 : List MemPlace) (k1 : Value.okWide Try.prog W .any base 36 v1) (h1 : DataW.Trod enc Try.prog W 0 (fun _ => true) true 36 v1 d1 p1) (l1 : ∀ x ∈ p1, x.block < W.heap.size)
    : Calls Try.prog 5 #[v0, v1] W fun e W' => e = .returned (.bool true) ∧ Below W.heap.size W W' := by
  obtain ⟨xs, ⟨a, c, rfl, hc⟩, hw, _⟩ := open_sints Try.underlying22 Try.underlying5 (by kernel_rfl) k0 h0
  obtain ⟨y, rfl, rfl, rfl, wy⟩ := open_int Try.underlying36 k1 h1
  have hy := wf_u64 wy
  exact storeCuts_walk a c xs (fun x hx => wf_u8 (hw x hx)) y hy.1 hy.2 W hc
end Go.Proofs.Ytclmgpopejlfdaa.Law
