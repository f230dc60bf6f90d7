/- The contract of the reference's words. -/
import Derived.Test.YtnoahdobgndmnaaObjV
import Derived.Test.YtnoahdobgndmnaaDel
import Derived.Deep.RegionHeld3
namespace Go.Proofs.Ytnoahdobgndmnaa.Obj
open Go Go.RowKit Go.Proofs.Ytnoahdobgndmnaa.Kit Go.Proofs.Ytnoahdobgndmnaa.Str Go.Proofs.Ytnoahdobgndmnaa.Names Go.Proofs.Ytnoahdobgndmnaa.Let
open Go.Proofs.Ytnoahdobgndmnaa.Letters (wv WsAt word_info)
set_option linter.unusedSimpArgs false
set_option linter.unusedVariables false
/-- append of a list's words, inside a region. -/
theorem step_append_ls {P : Program} {α : Type} {f : α → List Value} {ops : Array Oper} {o : Oper} {a : Act} {w : World} {K : Act → World → Prop} {Q : Exit → Act → World → Prop} {E : Prop}
    (hgd : o.guard = none) (s x : Operand) (t e : TypeId) (ho : o.op = .call { callee := .builtin .append, args := #[s, x], argTypes := #[t, t] })
    (base : Nat) (i : TypeInfo) (z : Value) (size bytes : Nat) (ht : P.underlying t = some (.slice e)) (hi : P.info? e = some i) (hz : i.zero = some z)
    (hsize : i.size = size) (hby : i.bytes = bytes) (hzs : z.cells.size = size) (hsz : 0 < size) (hk : ∀ x, (f x).length = size) (h1 : ∀ x, ∀ u ∈ f x, u.oneCell' = true)
    (v : Value) (n : Nat) (cs : List Value) (hs : a.eval s = v) (xv : Value) (xs : List α) (hx : a.eval x = xv)
    (h63 : n + xs.length ≤ maxLen) (hbytes : (n + xs.length) * bytes ≤ 140737488355328) (hown : Sl w base e size v n cs) (hls : LsAt size f w xv xs) (hbase : base ≤ w.heap.size)
    (h : ∀ v' w', Onto w base e size v (n + xs.length) (cs ++ flatOf f xs) v' w' → K (a.put o.dst v') w') :
    if Region.wanted o (yielded ops a.tmps) = true then Oper.wp P o a w K Q else E := by
  obtain ⟨v', w', hr, hon⟩ := run_append_ls (P := P) w base t o.type e i z size bytes ht hi hz hsize hby hzs hsz hk h1 v n cs hown xv xs hls h63 hbytes hbase
  exact step_append_run hgd s x t t ho v xv hs hx hr (h v' w' hon)
theorem own_new {w0 w1 : World} {base : Nat} {e : TypeId} {size n : Nat} {v : Value} {cs : List Value} (h : Sl w1 base e size v n cs) (h0 : New w0 w1) (hb : w0.heap.size ≤ base) {w' : World} {n' : Nat} {cs' : List Value} {v' : Value} (on : Onto w1 base e size v n' cs' v' w') : New w0 w' :=
  on.new h0 fun g hg => Nat.le_trans hb (h.lt g hg).1
theorem on_cell {w : World} {base : Nat} {e : TypeId} {size n : Nat} {v v' : Value} {cs : List Value} {w' : World} (on : Onto w base e size v n cs v' w') {a : Addr} {u : Value} (h : w.cell? a = some u) (hn : ¬ v.ownBlock = some a.block) : w'.cell? a = some u :=
  Keeps.cell (F := fun k => v.ownBlock = some k) ((Keeps.refl _ w).grown on.2.1 fun k hk => .inr hk) h hn
theorem on_sl {w : World} {base : Nat} {e : TypeId} {size n : Nat} {v v' : Value} {cs : List Value} {w' : World} (on : Onto w base e size v n cs v' w') : Sl w' base e size v' n cs := on.1
set_option maxRecDepth 100000 in
set_option maxHeartbeats 8000000 in
theorem refWords_any (w : World) (v : Value) (O : Ob) (h : ObAt w v O) (hf : Fit O) :
    Calls Try.prog 22 #[v] w fun e w' => ∃ v', e = .returned v' ∧ Sl w' w.heap.size 37 1 v' (encO O).length (flatOf uw (encO O)) ∧ New w w' := by
  obtain ⟨ti, hi, hzz⟩ := Option.map_eq_some_iff.1 word_info
  simp only [Prod.mk.injEq] at hzz
  have HT := hid (And.intro hi hzz)
  have HF := hid hf
  obtain ⟨a, b, c, d, rfl, ha, hb, hc, hd⟩ := h
  obtain ⟨a1, k1, ea, _⟩ := id ha
  obtain ⟨a2, k2, eb, _⟩ := id hb
  obtain ⟨a3, k3, ec, hk3, hk3m, _⟩ := id hc
  obtain ⟨a4, k4, ed, hk4, hk4m, _⟩ := id hd
  obtain ⟨m1, hm1⟩ : ∃ m, m = O.text.length := ⟨_, rfl⟩
  obtain ⟨m2, hm2⟩ : ∃ m, m = O.static.length := ⟨_, rfl⟩
  obtain ⟨m3, hm3⟩ : ∃ m, m = O.defs.length := ⟨_, rfl⟩
  obtain ⟨m4, hm4⟩ : ∃ m, m = O.links.length := ⟨_, rfl⟩
  rw [← hm1] at ea
  rw [← hm2] at eb
  rw [← hm3] at ec hk3
  rw [← hm4] at ed hk4
  subst ea eb ec ed
  have l1 : m1 ≤ 512 := by rw [hm1]; exact hf.text
  have l2 : m2 ≤ 64 := by rw [hm2]; exact hf.static
  have l3 : m3 ≤ 32 := by rw [hm3]; exact hf.ndefs
  have l4 : m4 ≤ 32 := by rw [hm4]; exact hf.nlinks
  obtain ⟨B, hB⟩ : ∃ B, B = w.heap.size := ⟨_, rfl⟩
  obtain ⟨w1, hw1⟩ : ∃ w1, w1 = w.alloc (.cells #[.slice a1 m1 k1, .slice a2 m2 k2, .slice a3 m3 k3, .slice a4 m4 k4] 27) := ⟨_, rfl⟩
  have hN1 : New w w1 := by rw [hw1]; exact (New.refl w).alloc _
  have hB1 : Blk w1 B 27 #[.slice a1 m1 k1, .slice a2 m2 k2, .slice a3 m3 k3, .slice a4 m4 k4] := by rw [hw1, hB]; exact Blk.new w _ _
  have hsz : w1.heap.size = B + 1 := by rw [hw1, hB, World.size_alloc]
  have HA := hid (And.intro (ha.new_ hN1) (And.intro (hb.new_ hN1) (And.intro (hc.new_ hN1) (hd.new_ hN1))))
  have HM := hid (And.intro hm1 (And.intro hm2 (And.intro hm3 hm4)))
  have HB := hid (And.intro hB1 (And.intro hN1 (And.intro hsz hB)))
  have e0 : w1.cell? ⟨B, 0, none⟩ = some (.slice a1 m1 k1) := by rw [hB1.cell]; rfl
  have e1 : w1.cell? ⟨B, 1, none⟩ = some (.slice a2 m2 k2) := by rw [hB1.cell]; rfl
  have HS : Hid (∀ X, New w1 X → X.cell? ⟨B, 0, none⟩ = some (.slice a1 m1 k1) ∧ X.cell? ⟨B, 1, none⟩ = some (.slice a2 m2 k2)) := fun X hX => ⟨hX.cellK e0, hX.cellK e1⟩
  have ND : New w1 w1.drew := (New.refl _).drew
  have hnil := Sl.nil w1.drew w1.heap.size 37 1
  have hxa : LsAt 1 uw w1.drew (.slice a1 m1 k1) O.text := HA.out.1.new_ ND
  have HXB := hid (fun X (hX : New w1 X) => HA.out.2.1.new_ hX)
  have q1 : 0 + O.text.length ≤ maxLen := by unfold maxLen; omega
  have q2 : (0 + O.text.length) * 8 ≤ 140737488355328 := by omega
  have q3 : m1 + O.static.length ≤ maxLen := by unfold maxLen; omega
  have q4 : (m1 + O.static.length) * 8 ≤ 140737488355328 := by omega
  have H05 : Hid (0 + O.text.length = m1) := by show _ = _; omega
  have HQ := hid (And.intro q1 (And.intro q2 (And.intro q3 (And.intro q4 (And.intro hnil hxa)))))
  clear ha hb hc hd hm1 hm2 hm3 hm4 hi hzz hf hB1 hN1 e0 e1 hsz q1 q2 q3 q4 hnil hxa
  go_enter Try.func22, Try.ntmps22
  go_upto_region 1 with fail
  rw [← hw1, ← hB]
  clear hw1 hB
  go_region_held3 (fun w' => w'.cell? ⟨B, 0, none⟩ = some (.slice a1 m1 k1) ∧ w'.cell? ⟨B, 1, none⟩ = some (.slice a2 m2 k2)) (first | with_reducible exact HS.out _ ND | with_reducible exact HS.out _ hN5 | with_reducible exact HS.out _ hN6) (first
    | (refine step_append_ls (f := uw) rfl (.const (.slice none 0 0)) (.tmp 7) 22 37 rfl w1.heap.size ti _ 1 8 Try.underlying22 HT.out.1 HT.out.2.1 HT.out.2.2.1 HT.out.2.2.2 rfl (by decide) uw_len uw_one (.slice none 0 0) 0 [] rfl (.slice a1 m1 k1) O.text (by simp [Act.eval, Act.put]) HQ.out.1 HQ.out.2.1 HQ.out.2.2.2.2.1 HQ.out.2.2.2.2.2 ND.size ?_; intro v5 w5 hon5; rw [H05.out] at hon5; have hN5 := own_new HQ.out.2.2.2.2.1 ND (Nat.le_refl _) hon5; obtain ⟨a5, c5, rfl⟩ := Sl.val hon5.1)
    | (refine step_append_ls (f := uw) rfl (.tmp 8) (.tmp 10) 22 37 rfl w1.heap.size ti _ 1 8 Try.underlying22 HT.out.1 HT.out.2.1 HT.out.2.2.1 HT.out.2.2.2 rfl (by decide) uw_len uw_one (.slice a5 m1 c5) m1 _ (by simp [Act.eval, Act.put]) (.slice a2 m2 k2) O.static (by simp [Act.eval, Act.put]) HQ.out.2.2.1 HQ.out.2.2.2.1 hon5.1 (HXB.out _ hN5) hN5.size ?_; intro v6 w6 hon6; have hN6 := own_new hon5.1 hN5 (Nat.le_refl _) hon6))
  have hs0 : Sl w6 w1.heap.size 37 1 v6 (preD O 0).length (flatOf uw (preD O 0)) := by
    have := on_sl hon6
    have e : preD O 0 = O.text ++ O.static := by unfold preD; simp
    rw [e, List.length_append, flatOf_app, ← HM.out.1]
    simpa using this
  have HN := hid (And.intro hN6 hs0)
  clear hon5 hon6 hN5 hN6 hs0 HQ HXB HS ND
  have e0 : w6.cell? ⟨B, 2, none⟩ = some (.slice a3 m3 k3) := by rw [(HB.out.1.new_ HN.out.1).cell]; rfl
  go_wp2_with fail
  clear e0
  go_loopw [3, 4] (fun v i wr => ∃ k : Nat, k ≤ m3 ∧ i = .int .i64 (k : Int) ∧ New w1 wr ∧ Sl wr w1.heap.size 37 1 v (preD O k).length (flatOf uw (preD O k))) (fun _ i _ => m3 - (intOf i).toNat)
  case atStart => exact ⟨0, Nat.zero_le _, rfl, HN.out.1, HN.out.2⟩
  case round =>
    clear HN
    obtain ⟨k, hk, rfl, hnr, hsv⟩ := hrel
    have e2 : wr.cell? ⟨B, 2, none⟩ = some (.slice a3 m3 k3) := by rw [(HB.out.1.new_ hnr).cell]; rfl
    by_cases hkn : k < m3
    · have w2' : IntKind.i64.wrap ((k : Int) + 1) = k + 1 := by rw [IntKind.wrap_i64]; omega
      obtain ⟨bb, oo, x, rfl, hx, _, hcell⟩ := HA.out.2.2.1.get hkn
      obtain ⟨nm, of⟩ := x
      have c0 := hcell 0 _ rfl
      have c1 := hcell 1 _ rfl
      rw [Nat.add_zero] at c0
      have j0 : (0 : Int) ≤ (k : Int) := by omega
      have j1 : (k : Int) < (m3 : Int) := by omega
      obtain ⟨a6, c6, rfl⟩ := hsv.val
      obtain ⟨q1, q2, q3⟩ := HF.out.defs _ (List.mem_of_getElem? hx)
      obtain ⟨z, rfl⟩ := Int.eq_ofNat_of_zero_le q2
      have hnm : nm.length ≤ 32 := (signsB_len q1).2
      have hen := Go.Proofs.Ytnoahdobgndmnaa.Obj.enc_len nm
      have hpre := HF.out.preD_len k
      have hz : z < 512 := by have := HF.out.text; simp only at q3; omega
      have z0 : IntKind.u64.wrap (z : Int) = z := by rw [IntKind.wrap_u64]; omega
      have hnew : preD O (k + 1) = (preD O k ++ enc nm) ++ [z] := by rw [preD_succ hx]; simp
      obtain ⟨n0, hn0⟩ : ∃ n0, n0 = (preD O k).length := ⟨_, rfl⟩
      have hL := fun X => Letters.Letters_any nm (by omega) X
      have u1 : n0 + (enc nm).length ≤ maxLen := by unfold maxLen; omega
      have u2 : (n0 + (enc nm).length) * 8 ≤ 140737488355328 := by omega
      have u3 : n0 + (enc nm).length + 1 ≤ maxLen := by unfold maxLen; omega
      have u4 : (n0 + (enc nm).length + 1) * 8 ≤ 140737488355328 := by omega
      rw [← hn0] at hsv ⊢
      have hlt := fun g hg => (hsv.lt g hg).2
      have HU := hid (And.intro u1 (And.intro u2 (And.intro u3 u4)))
      have HL := hid hL
      have HE : Hid (∀ g, wr.heap.size ≤ g → ¬ (Value.slice a6 n0 c6).ownBlock = some g) := fun g hg e => by have := hlt g e; omega
      have HV := hid (fun X (hX : New wr X) => hsv.new_ hX)
      have HX := hid (And.intro hnr (And.intro hn0 hnew))
      have hB2 := HB.out.1.cell 2
      have HS : Hid (∀ X, New w1 X → X.cell? ⟨B, 2, none⟩ = some (.slice (some ⟨bb, oo, none⟩) m3 k3) ∧ X.cell? ⟨bb, oo + k * 2, none⟩ = some (.string ⟨nm.toArray⟩) ∧ X.cell? ⟨bb, oo + k * 2 + 1, none⟩ = some (.int .i64 (z : Int))) := fun X hX => ⟨hX.cellK hB2, hX.cellK c0, hX.cellK c1⟩
      have HD := hid hnr.drew
      have HZ : Hid ((wr.alloc (.cells #[wv z] 37)).drew.cell? ⟨wr.heap.size, 0, none⟩ = some (wv z)) := by have := (Blk.new wr 37 #[wv z]).cell 0; exact this
      clear hx hnr hsv hcell c0 c1 hlt hL u1 u2 u3 u4 hn0 hnew q1 q2 q3 hen hpre hB2
      go_upto_region 5 with fail
      go_region_held3 (fun w' => w'.cell? ⟨B, 2, none⟩ = some (.slice (some ⟨bb, oo, none⟩) m3 k3) ∧ w'.cell? ⟨bb, oo + k * 2, none⟩ = some (.string ⟨nm.toArray⟩) ∧ w'.cell? ⟨bb, oo + k * 2 + 1, none⟩ = some (.int .i64 (z : Int))) (first | with_reducible exact HS.out _ HD.out | with_reducible exact HS.out _ (New.alloc HX.out.1 _) | with_reducible exact HS.out _ (New.drew (New.alloc HX.out.1 _)) | with_reducible exact HS.out _ hM5 | with_reducible exact HS.out _ (New.alloc hM5 _) | with_reducible exact HS.out _ hM6 | with_reducible exact HS.out _ (New.alloc hM6 _) | with_reducible exact HS.out _ hM7) (first
        | (go_at_call 31; (with_reducible refine (HL.out _).mono ?_); rintro e w5 ⟨x5, rfl, hs5, hn5⟩; have hR5 : New wr w5 := New.step (by first | exact New.drew (New.refl wr) | exact New.drew (New.alloc (New.refl wr) _) | exact New.alloc (New.refl wr) _ | exact New.alloc (New.drew (New.refl wr)) _) hn5; have hM5 := New.step HX.out.1 hR5; have hls5 : LsAt 1 uw w5 x5 (enc nm) := LsAt.of_sl uw_len (by rw [flat_uw]; exact hs5))
        | (refine step_append_ls (f := uw) rfl (.tmp 19) (.tmp 26) 22 37 rfl w1.heap.size ti _ 1 8 Try.underlying22 HT.out.1 HT.out.2.1 HT.out.2.2.1 HT.out.2.2.2 rfl (by decide) uw_len uw_one (.slice a6 n0 c6) n0 _ (by simp [Act.eval, Act.put]) x5 (enc nm) (by simp [Act.eval, Act.put]) HU.out.1 HU.out.2.1 (HV.out _ hR5) hls5 hM5.size ?_; intro v6 w6 hon6; have hM6 := own_new (HV.out _ hR5) hM5 (Nat.le_refl _) hon6; obtain ⟨a7, c7, rfl⟩ := Sl.val hon6.1)
        | (refine step_append_ls (f := uw) rfl (.tmp 19) (.tmp 26) 22 37 rfl w1.heap.size ti _ 1 8 Try.underlying22 HT.out.1 HT.out.2.1 HT.out.2.2.1 HT.out.2.2.2 rfl (by decide) uw_len uw_one (.slice a6 n0 c6) n0 _ (by simp [Act.eval, Act.put]) x5 (enc nm) (by simp [Act.eval, Act.put]) HU.out.1 HU.out.2.1 (HV.out _ (New.alloc hR5 _)) (hls5.new_ (New.alloc (New.refl w5) _)) (New.size (New.alloc hM5 _)) ?_; intro v6 w6 hon6; have hM6 := own_new (HV.out _ (New.alloc hR5 _)) (New.alloc hM5 _) (Nat.le_refl _) hon6; obtain ⟨a7, c7, rfl⟩ := Sl.val hon6.1)
        | (refine step_append_sl rfl (.tmp 27) (.tmp 35) 22 rfl w1.heap.size 37 ti _ 1 8 Try.underlying22 HT.out.1 HT.out.2.1 HT.out.2.2.1 HT.out.2.2.2 rfl (by decide) (.slice a7 (n0 + (enc nm).length) c7) (n0 + (enc nm).length) _ (by simp [Act.eval, Act.put]) (hon6.1.alloc _) ⟨w6.heap.size, 0, none⟩ 1 1 [wv z] (by simp [Act.eval, Act.put]) (by decide) rfl (news_w (by rw [(Blk.new w6 _ _).cell]; rfl)) (one_w z) HU.out.2.2.1 HU.out.2.2.2 (New.size (New.alloc hM6 _)) ?_; intro v8 w8 hs8 hg8 hb8; have hM7 := New.grown (New.alloc hM6 _) hg8 (fun g hg => (hon6.1.lt g hg).1))
        | (refine step_append_sl rfl (.tmp 27) (.tmp 35) 22 rfl w1.heap.size 37 ti _ 1 8 Try.underlying22 HT.out.1 HT.out.2.1 HT.out.2.2.1 HT.out.2.2.2 rfl (by decide) (.slice a7 (n0 + (enc nm).length) c7) (n0 + (enc nm).length) _ (by simp [Act.eval, Act.put]) hon6.1 ⟨w5.heap.size, 0, none⟩ 1 1 [wv z] (by simp [Act.eval, Act.put]) (by decide) rfl (news_w (on_cell hon6 (by rw [(Blk.new w5 _ _).cell]; rfl) (HE.out _ hR5.size))) (one_w z) HU.out.2.2.1 HU.out.2.2.2 hM6.size ?_; intro v8 w8 hs8 hg8 hb8; have hM7 := New.grown hM6 hg8 (fun g hg => (hon6.1.lt g hg).1))
        | (refine step_append_sl rfl (.tmp 27) (.tmp 35) 22 rfl w1.heap.size 37 ti _ 1 8 Try.underlying22 HT.out.1 HT.out.2.1 HT.out.2.2.1 HT.out.2.2.2 rfl (by decide) (.slice a7 (n0 + (enc nm).length) c7) (n0 + (enc nm).length) _ (by simp [Act.eval, Act.put]) hon6.1 ⟨wr.heap.size, 0, none⟩ 1 1 [wv z] (by simp [Act.eval, Act.put]) (by decide) rfl (news_w (on_cell hon6 (hn5.cellK HZ.out) (HE.out _ (Nat.le_refl _)))) (one_w z) HU.out.2.2.1 HU.out.2.2.2 hM6.size ?_; intro v8 w8 hs8 hg8 hb8; have hM7 := New.grown hM6 hg8 (fun g hg => (hon6.1.lt g hg).1)))
      all_goals
        have hs9 : Sl w8 w1.heap.size 37 1 v8 (preD O (k + 1)).length (flatOf uw (preD O (k + 1))) := by
          rw [HX.out.2.2, List.length_append, List.length_append, ← HX.out.2.1, flatOf_app, flatOf_app]
          exact hs8
        have H9 := hid (And.intro hM7 hs9)
        clear hs9 hM7 hs8 hg8 hb8 hon6 hM6 hM5 hR5 hls5 hn5 hs5
        go_wp2_with fail
        exact ⟨⟨k + 1, by omega, by go_num, H9.out.1, H9.out.2⟩, by simp [intOf]; omega⟩
    · have hke : m3 = k := by omega
      subst hke
      have hlt : ¬ (m3 : Int) < (m3 : Int) := by omega
      have hpre : preD O m3 = preL O 0 := by unfold preD preL; rw [HM.out.2.2.1, List.take_length]; simp
      rw [hpre] at hsv
      have e3 : wr.cell? ⟨B, 3, none⟩ = some (.slice a4 m4 k4) := by rw [(HB.out.1.new_ hnr).cell]; rfl
      have HN2 := hid (And.intro hnr hsv)
      clear hnr hsv hpre
      go_wp2_with fail
      clear e2 e3
      go_loopw [3, 5] (fun v i wr => ∃ k : Nat, k ≤ m4 ∧ i = .int .i64 (k : Int) ∧ New w1 wr ∧ Sl wr w1.heap.size 37 1 v (preL O k).length (flatOf uw (preL O k))) (fun _ i _ => m4 - (intOf i).toNat)
      case atStart => exact ⟨0, Nat.zero_le _, rfl, HN2.out.1, HN2.out.2⟩
      case round =>
        clear HN2
        obtain ⟨k, hk, rfl, hnr, hsv⟩ := hrel
        have e2 : wr.cell? ⟨B, 3, none⟩ = some (.slice a4 m4 k4) := by rw [(HB.out.1.new_ hnr).cell]; rfl
        by_cases hkn : k < m4
        · have w2' : IntKind.i64.wrap ((k : Int) + 1) = k + 1 := by rw [IntKind.wrap_i64]; omega
          obtain ⟨bb, oo, x, rfl, hx, _, hcell⟩ := HA.out.2.2.2.get hkn
          obtain ⟨sg, nm, of⟩ := x
          have c0 := hcell 0 _ rfl
          have c1 := hcell 1 _ rfl
          have c2 := hcell 2 _ rfl
          rw [Nat.add_zero] at c0
          have j0 : (0 : Int) ≤ (k : Int) := by omega
          have j1 : (k : Int) < (m4 : Int) := by omega
          obtain ⟨a6, c6, rfl⟩ := hsv.val
          obtain ⟨q0, q1, q2, q3⟩ := HF.out.links _ (List.mem_of_getElem? hx)
          obtain ⟨z, rfl⟩ := Int.eq_ofNat_of_zero_le q2
          have hsg : sg.length ≤ 32 := by
            rcases q0 with e | e
            · simp only at e; rw [e]; simp
            · exact (signsB_len e).2
          have hnm : nm.length ≤ 32 := (signsB_len q1).2
          have hen := Go.Proofs.Ytnoahdobgndmnaa.Obj.enc_len sg
          have hen2 := Go.Proofs.Ytnoahdobgndmnaa.Obj.enc_len nm
          have hpre := HF.out.preL_len k
          have hz : z < 300000 := by simp only at q3; omega
          have z0 : IntKind.u64.wrap (z : Int) = z := by rw [IntKind.wrap_u64]; omega
          have hnew : preL O (k + 1) = (preL O k ++ enc sg ++ enc nm) ++ [z] := by rw [preL_succ hx]; simp
          obtain ⟨n0, hn0⟩ : ∃ n0, n0 = (preL O k).length := ⟨_, rfl⟩
          obtain ⟨n1, hn1⟩ : ∃ n1, n1 = n0 + (enc sg).length := ⟨_, rfl⟩
          obtain ⟨n2, hn2⟩ : ∃ n2, n2 = n1 + (enc nm).length := ⟨_, rfl⟩
          have hL := fun X => Letters.Letters_any sg (by omega) X
          have hL2 := fun X => Letters.Letters_any nm (by omega) X
          have u1 : n0 + (enc sg).length ≤ maxLen := by unfold maxLen; omega
          have u2 : (n0 + (enc sg).length) * 8 ≤ 140737488355328 := by omega
          have u3 : n1 + (enc nm).length ≤ maxLen := by unfold maxLen; omega
          have u4 : (n1 + (enc nm).length) * 8 ≤ 140737488355328 := by omega
          have u5 : n2 + 1 ≤ maxLen := by unfold maxLen; omega
          have u6 : (n2 + 1) * 8 ≤ 140737488355328 := by omega
          rw [← hn0] at hsv ⊢
          have hlt := fun g hg => (hsv.lt g hg).2
          have HU := hid (And.intro u1 (And.intro u2 (And.intro u3 (And.intro u4 (And.intro u5 u6)))))
          have HL := hid hL
          have HL2 := hid hL2
          have HE : Hid (∀ g, wr.heap.size ≤ g → ¬ (Value.slice a6 n0 c6).ownBlock = some g) := fun g hg e => by have := hlt g e; omega
          have HV := hid (fun X (hX : New wr X) => hsv.new_ hX)
          have HX := hid (And.intro hnr (And.intro hn0 (And.intro hn1.symm (And.intro hn2.symm hnew))))
          have hB2 := HB.out.1.cell 3
          have HS : Hid (∀ X, New w1 X → X.cell? ⟨B, 3, none⟩ = some (.slice (some ⟨bb, oo, none⟩) m4 k4) ∧ X.cell? ⟨bb, oo + k * 3, none⟩ = some (.string ⟨sg.toArray⟩) ∧ X.cell? ⟨bb, oo + k * 3 + 1, none⟩ = some (.string ⟨nm.toArray⟩) ∧ X.cell? ⟨bb, oo + k * 3 + 2, none⟩ = some (.int .i64 (z : Int))) := fun X hX => ⟨hX.cellK hB2, hX.cellK c0, hX.cellK c1, hX.cellK c2⟩
          have HD := hid hnr.drew
          have HZ : Hid ((wr.alloc (.cells #[wv z] 37)).drew.cell? ⟨wr.heap.size, 0, none⟩ = some (wv z)) := by have := (Blk.new wr 37 #[wv z]).cell 0; exact this
          clear hx hnr hsv hcell c0 c1 c2 hlt hL hL2 u1 u2 u3 u4 u5 u6 hn0 hn1 hn2 hnew q0 q1 q2 q3 hen hen2 hpre hB2
          go_upto_region 9 with fail
          go_region_held3 (fun w' => w'.cell? ⟨B, 3, none⟩ = some (.slice (some ⟨bb, oo, none⟩) m4 k4) ∧ w'.cell? ⟨bb, oo + k * 3, none⟩ = some (.string ⟨sg.toArray⟩) ∧ w'.cell? ⟨bb, oo + k * 3 + 1, none⟩ = some (.string ⟨nm.toArray⟩) ∧ w'.cell? ⟨bb, oo + k * 3 + 2, none⟩ = some (.int .i64 (z : Int))) (first | with_reducible exact HS.out _ HD.out | with_reducible exact HS.out _ (New.alloc HX.out.1 _) | with_reducible exact HS.out _ (New.drew (New.alloc HX.out.1 _)) | with_reducible exact HS.out _ hM5 | with_reducible exact HS.out _ (New.alloc hM5 _) | with_reducible exact HS.out _ hM6 | with_reducible exact HS.out _ (New.alloc hM6 _) | with_reducible exact HS.out _ hM7 | with_reducible exact HS.out _ (New.alloc hM7 _) | with_reducible exact HS.out _ hM9 | with_reducible exact HS.out _ (New.alloc hM9 _) | with_reducible exact HS.out _ hM8) (first
            | (go_at_call 31; (with_reducible refine (HL.out _).mono ?_); rintro e w5 ⟨x5, rfl, hs5, hn5⟩; have hR5 : New wr w5 := New.step (by first | exact New.drew (New.refl wr) | exact New.drew (New.alloc (New.refl wr) _) | exact New.alloc (New.refl wr) _ | exact New.alloc (New.drew (New.refl wr)) _) hn5; have hM5 := New.step HX.out.1 hR5; have hls5 : LsAt 1 uw w5 x5 (enc sg) := LsAt.of_sl uw_len (by rw [flat_uw]; exact hs5); (try have hzA5 := hn5.cellK HZ.out))
            | (refine step_append_ls (f := uw) rfl (.tmp 44) (.tmp 51) 22 37 rfl w1.heap.size ti _ 1 8 Try.underlying22 HT.out.1 HT.out.2.1 HT.out.2.2.1 HT.out.2.2.2 rfl (by decide) uw_len uw_one (.slice a6 n0 c6) n0 _ (by simp [Act.eval, Act.put]) x5 (enc sg) (by simp [Act.eval, Act.put]) HU.out.1 HU.out.2.1 (HV.out _ hR5) hls5 (New.size hM5) ?_; intro v6 w6 hon6; have hM6 := own_new (HV.out _ hR5) hM5 (Nat.le_refl _) hon6; have ho6 := own_ne hon6.2.2 HE.out; rw [HX.out.2.2.1] at hon6; obtain ⟨a7, c7, rfl⟩ := Sl.val hon6.1; (try have hzA6 := on_cell hon6 hzA5 (HE.out _ (Nat.le_refl _))); (try have hoA := ho6 _ (Nat.le_refl _) (World.block_lt_of_cell? _ _ hzA5)))
            | (refine step_append_ls (f := uw) rfl (.tmp 44) (.tmp 51) 22 37 rfl w1.heap.size ti _ 1 8 Try.underlying22 HT.out.1 HT.out.2.1 HT.out.2.2.1 HT.out.2.2.2 rfl (by decide) uw_len uw_one (.slice a6 n0 c6) n0 _ (by simp [Act.eval, Act.put]) x5 (enc sg) (by simp [Act.eval, Act.put]) HU.out.1 HU.out.2.1 (HV.out _ (New.alloc hR5 _)) (hls5.new_ (New.alloc (New.refl w5) _)) (New.size (New.alloc hM5 _)) ?_; intro v6 w6 hon6; have hM6 := own_new (HV.out _ (New.alloc hR5 _)) (New.alloc hM5 _) (Nat.le_refl _) hon6; have ho6 := own_ne hon6.2.2 HE.out; rw [HX.out.2.2.1] at hon6; obtain ⟨a7, c7, rfl⟩ := Sl.val hon6.1; have hzB6 := on_cell hon6 (show (w5.alloc (.cells #[wv z] 37)).cell? ⟨w5.heap.size, 0, none⟩ = some (wv z) from by rw [(Blk.new w5 _ _).cell]; rfl) (HE.out _ hR5.size); have hoB := ho6 _ hR5.size (by rw [World.size_alloc]; exact Nat.lt_succ_self _))
            | (go_at_call 31; (with_reducible refine (HL2.out w6).mono ?_); rintro e w7 ⟨x7, rfl, hs7, hn7⟩; have hN67 : New w6 w7 := hn7; have hM7 := New.step hM6 hN67; have hls7 : LsAt 1 uw w7 x7 (enc nm) := LsAt.of_sl uw_len (by rw [flat_uw]; exact hs7); have hs67 := Sl.new_ (on_sl hon6) hN67; (try have hzA7 := hN67.cellK hzA6); (try have hzB7 := hN67.cellK hzB6))
            | (go_at_call 31; (with_reducible refine (HL2.out (w6.alloc _)).mono ?_); rintro e w7 ⟨x7, rfl, hs7, hn7⟩; have hN67 : New w6 w7 := (New.step (New.alloc (New.refl w6) _) hn7); have hM7 := New.step hM6 hN67; have hls7 : LsAt 1 uw w7 x7 (enc nm) := LsAt.of_sl uw_len (by rw [flat_uw]; exact hs7); have hs67 := Sl.new_ (on_sl hon6) hN67; (try have hzA7 := hN67.cellK hzA6); (try have hzB7 := hN67.cellK hzB6); have hzC7 := hn7.cellK (show (w6.alloc (.cells #[wv z] 37)).cell? ⟨w6.heap.size, 0, none⟩ = some (wv z) from by rw [(Blk.new w6 _ _).cell]; rfl))
            | (refine step_append_ls (f := uw) rfl (.tmp 52) (.tmp 59) 22 37 rfl w1.heap.size ti _ 1 8 Try.underlying22 HT.out.1 HT.out.2.1 HT.out.2.2.1 HT.out.2.2.2 rfl (by decide) uw_len uw_one (.slice a7 n1 c7) n1 _ (by simp [Act.eval, Act.put]) x7 (enc nm) (by simp [Act.eval, Act.put]) HU.out.2.2.1 HU.out.2.2.2.1 hs67 hls7 (New.size hM7) ?_; intro v9 w9 hon9; have hM9 := own_new hs67 hM7 (Nat.le_refl _) hon9; rw [HX.out.2.2.2.1] at hon9; obtain ⟨a9, c9, rfl⟩ := Sl.val hon9.1; (try have hzA9 := on_cell hon9 hzA7 hoA); (try have hzB9 := on_cell hon9 hzB7 hoB); (try have hzC9 := on_cell hon9 hzC7 (fun e => absurd (hon6.1.lt _ e).2 (Nat.lt_irrefl _))))
            | (refine step_append_ls (f := uw) rfl (.tmp 52) (.tmp 59) 22 37 rfl w1.heap.size ti _ 1 8 Try.underlying22 HT.out.1 HT.out.2.1 HT.out.2.2.1 HT.out.2.2.2 rfl (by decide) uw_len uw_one (.slice a7 n1 c7) n1 _ (by simp [Act.eval, Act.put]) x7 (enc nm) (by simp [Act.eval, Act.put]) HU.out.2.2.1 HU.out.2.2.2.1 (hs67.alloc _) (hls7.new_ (New.alloc (New.refl w7) _)) (New.size (New.alloc hM7 _)) ?_; intro v9 w9 hon9; have hM9 := own_new (hs67.alloc _) (New.alloc hM7 _) (Nat.le_refl _) hon9; rw [HX.out.2.2.2.1] at hon9; obtain ⟨a9, c9, rfl⟩ := Sl.val hon9.1; have hzD9 := on_cell hon9 (show (w7.alloc (.cells #[wv z] 37)).cell? ⟨w7.heap.size, 0, none⟩ = some (wv z) from by rw [(Blk.new w7 _ _).cell]; rfl) (fun e => absurd (hs67.lt _ e).2 (Nat.lt_irrefl _)))
            | (refine step_append_sl rfl (.tmp 60) (.tmp 68) 22 rfl w1.heap.size 37 ti _ 1 8 Try.underlying22 HT.out.1 HT.out.2.1 HT.out.2.2.1 HT.out.2.2.2 rfl (by decide) (.slice a9 n2 c9) n2 _ (by simp [Act.eval, Act.put]) (hon9.1.alloc _) ⟨w9.heap.size, 0, none⟩ 1 1 [wv z] (by simp [Act.eval, Act.put]) (by decide) rfl (news_w (by rw [(Blk.new w9 _ _).cell]; rfl)) (one_w z) HU.out.2.2.2.2.1 HU.out.2.2.2.2.2 (New.size (New.alloc hM9 _)) ?_; intro v8 w8 hs8 hg8 hb8; have hM8 := New.grown (New.alloc hM9 _) hg8 (fun g hg => (hon9.1.lt g hg).1))
            | (refine step_append_sl rfl (.tmp 60) (.tmp 68) 22 rfl w1.heap.size 37 ti _ 1 8 Try.underlying22 HT.out.1 HT.out.2.1 HT.out.2.2.1 HT.out.2.2.2 rfl (by decide) (.slice a9 n2 c9) n2 _ (by simp [Act.eval, Act.put]) hon9.1 ⟨wr.heap.size, 0, none⟩ 1 1 [wv z] (by simp [Act.eval, Act.put]) (by decide) rfl (news_w hzA9) (one_w z) HU.out.2.2.2.2.1 HU.out.2.2.2.2.2 (New.size hM9) ?_; intro v8 w8 hs8 hg8 hb8; have hM8 := New.grown hM9 hg8 (fun g hg => (hon9.1.lt g hg).1))
            | (refine step_append_sl rfl (.tmp 60) (.tmp 68) 22 rfl w1.heap.size 37 ti _ 1 8 Try.underlying22 HT.out.1 HT.out.2.1 HT.out.2.2.1 HT.out.2.2.2 rfl (by decide) (.slice a9 n2 c9) n2 _ (by simp [Act.eval, Act.put]) hon9.1 ⟨w5.heap.size, 0, none⟩ 1 1 [wv z] (by simp [Act.eval, Act.put]) (by decide) rfl (news_w hzB9) (one_w z) HU.out.2.2.2.2.1 HU.out.2.2.2.2.2 (New.size hM9) ?_; intro v8 w8 hs8 hg8 hb8; have hM8 := New.grown hM9 hg8 (fun g hg => (hon9.1.lt g hg).1))
            | (refine step_append_sl rfl (.tmp 60) (.tmp 68) 22 rfl w1.heap.size 37 ti _ 1 8 Try.underlying22 HT.out.1 HT.out.2.1 HT.out.2.2.1 HT.out.2.2.2 rfl (by decide) (.slice a9 n2 c9) n2 _ (by simp [Act.eval, Act.put]) hon9.1 ⟨w6.heap.size, 0, none⟩ 1 1 [wv z] (by simp [Act.eval, Act.put]) (by decide) rfl (news_w hzC9) (one_w z) HU.out.2.2.2.2.1 HU.out.2.2.2.2.2 (New.size hM9) ?_; intro v8 w8 hs8 hg8 hb8; have hM8 := New.grown hM9 hg8 (fun g hg => (hon9.1.lt g hg).1))
            | (refine step_append_sl rfl (.tmp 60) (.tmp 68) 22 rfl w1.heap.size 37 ti _ 1 8 Try.underlying22 HT.out.1 HT.out.2.1 HT.out.2.2.1 HT.out.2.2.2 rfl (by decide) (.slice a9 n2 c9) n2 _ (by simp [Act.eval, Act.put]) hon9.1 ⟨w7.heap.size, 0, none⟩ 1 1 [wv z] (by simp [Act.eval, Act.put]) (by decide) rfl (news_w hzD9) (one_w z) HU.out.2.2.2.2.1 HU.out.2.2.2.2.2 (New.size hM9) ?_; intro v8 w8 hs8 hg8 hb8; have hM8 := New.grown hM9 hg8 (fun g hg => (hon9.1.lt g hg).1)))
          all_goals
            have hs9 : Sl w8 w1.heap.size 37 1 v8 (preL O (k + 1)).length (flatOf uw (preL O (k + 1))) := by
              rw [HX.out.2.2.2.2, List.length_append, List.length_append, List.length_append, ← HX.out.2.1, HX.out.2.2.1, HX.out.2.2.2.1, flatOf_app, flatOf_app, flatOf_app]
              exact hs8
            have H9 := hid (And.intro hM8 hs9)
            clear hs9 hM8 hs8 hg8 hb8 hon9 hM9 hs67 hM7 hls7 hN67 hn7 hs7 hon6 ho6 hM6 hM5 hR5 hls5 hn5 hs5
            go_wp2_with fail
            exact ⟨⟨k + 1, by omega, by go_num, H9.out.1, H9.out.2⟩, by simp [intOf]; omega⟩
        · have hke : k = m4 := by omega
          subst hke
          have hlt : ¬ (k : Int) < (k : Int) := by omega
          have hbw := HB.out.1.new_ hnr
          have e0 : wr.cell? ⟨B, 0, none⟩ = some (.slice a1 m1 k1) := by rw [hbw.cell]; rfl
          have e1 : wr.cell? ⟨B, 1, none⟩ = some (.slice a2 m2 k2) := by rw [hbw.cell]; rfl
          have e3 : wr.cell? ⟨B, 2, none⟩ = some (.slice a3 m3 k3) := by rw [hbw.cell]; rfl
          have hpre := HF.out.preL_len k
          obtain ⟨n0, hn0⟩ : ∃ n0, n0 = (preL O k).length := ⟨_, rfl⟩
          obtain ⟨a6, c6, rfl⟩ := hsv.val
          rw [← hn0] at hsv hpre ⊢
          have u1 : IntKind.u64.wrap (m1 : Int) = m1 := by rw [IntKind.wrap_u64]; omega
          have u2 : IntKind.u64.wrap (m2 : Int) = m2 := by rw [IntKind.wrap_u64]; omega
          have u3 : IntKind.u64.wrap (m3 : Int) = m3 := by rw [IntKind.wrap_u64]; omega
          have u4 : IntKind.u64.wrap (k : Int) = k := by rw [IntKind.wrap_u64]; omega
          have q4 : n0 + 5 ≤ maxLen := by unfold maxLen; omega
          have q5 : (n0 + 5) * 8 ≤ 140737488355328 := by omega
          have hone : ∀ u ∈ flatOf uw [m1, m2, m3, k, magic], u.oneCell' = true := fun u hu => by
            obtain ⟨y, _, hy⟩ := List.mem_flatMap.1 hu
            exact uw_one y u hy
          have HN3 := hid (And.intro hnr (And.intro hsv (And.intro hn0 hone)))
          clear hnr hsv hn0 hone hbw hpre
          go_wp2_with (at_builtin; refine wpList_append_sl _ rfl (.tmp 70) (.tmp 87) 22 rfl w1.heap.size 37 ti _ 1 8 Try.underlying22 HT.out.1 HT.out.2.1 HT.out.2.2.1 HT.out.2.2.2 rfl (by decide) (.slice a6 n0 c6) n0 _ rfl (HN3.out.2.1.alloc _) ⟨wr.heap.size, 0, none⟩ 5 5 (flatOf uw [m1, m2, m3, k, magic]) rfl (by decide) rfl (news_l (Blk.new wr _ _)) HN3.out.2.2.2 q4 q5 (HN3.out.1.alloc _).size ?_; intro v7 w7 hs7 hg7 hb7)
          have hfin : Sl w7 w.heap.size 37 1 v7 (encO O).length (flatOf uw (encO O)) := by
            have e : encO O = preL O k ++ [m1, m2, m3, k, magic] := by
              rw [encO_eq, ← HM.out.2.2.2]
              unfold tl
              rw [← HM.out.1, ← HM.out.2.1, ← HM.out.2.2.1, ← HM.out.2.2.2]
            rw [e, List.length_append, ← HN3.out.2.2.1, flatOf_app]
            exact hs7.mono (by rw [HB.out.2.2.1, HB.out.2.2.2]; omega)
          have hnew : New w w7 := HB.out.2.1.step ((HN3.out.1.alloc _).grown hg7 (fun g hg => (HN3.out.2.1.lt g hg).1))
          have H7 := hid (And.intro hfin hnew)
          clear hfin hnew hs7 hg7 hb7
          go_wp2
          go_ret
          exact ⟨_, rfl, H7.out.1, H7.out.2⟩
end Go.Proofs.Ytnoahdobgndmnaa.Obj
