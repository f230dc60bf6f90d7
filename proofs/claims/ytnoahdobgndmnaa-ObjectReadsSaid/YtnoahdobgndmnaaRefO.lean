/- The contract of the reference's ReadObject. -/
import Derived.Test.YtnoahdobgndmnaaRefR
import Derived.Test.YtnoahdobgndmnaaObjQ
namespace Go.Proofs.Ytnoahdobgndmnaa.Obj
open Go Go.RowKit Go.Maps Go.Proofs.Ytnoahdobgndmnaa.Kit Go.Proofs.Ytnoahdobgndmnaa.Str Go.Proofs.Ytnoahdobgndmnaa.Names Go.Proofs.Ytnoahdobgndmnaa.Let Go.Proofs.Ytnoahdobgndmnaa.Wd
open Go.Proofs.Ytnoahdobgndmnaa.Letters (wv WsAt word_info)
set_option linter.unusedSimpArgs false
set_option linter.unusedVariables false
/-- What ReadObject leaves: as Read. -/
def RefRead (w : World) (ws : List Nat) (e : Ending) (w' : World) : Prop :=
  (Reads ws ∧ ∃ v, e = .returned (.tuple #[v, .int .i64 0]) ∧ ObAt w' v (theO ws) ∧ New w w') ∨ (¬ Reads ws ∧ e = .returned (.tuple #[.agg #[.slice none 0 0, .slice none 0 0, .slice none 0 0, .slice none 0 0], .int .i64 12]) ∧ New w w')
theorem mk_take_succ {ws : List Nat} {k x : Nat} (h : ws[k]? = some x) : mk (ws.take (k + 1)) = mk (ws.take k) ++ [mask x] := by
  unfold mk
  rw [take_snoc h, List.map_append]
  rfl
theorem mk_mk (ws : List Nat) : mk (mk ws) = mk ws := by
  unfold mk
  rw [List.map_map]
  congr 1
  funext x
  show mask (mask x) = mask x
  unfold mask
  omega
theorem reads_mk {ws : List Nat} : Reads (mk ws) ↔ Reads ws := by
  unfold Reads headOk theE theO mm
  rw [mk_mk, mk_len]
theorem theO_mk (ws : List Nat) : theO (mk ws) = theO ws := by
  unfold theO mm
  rw [mk_mk, mk_len]
theorem good_iff {ws : List Nat} : (∃ O, mayB O = true ∧ encO O = mk ws) ↔ Reads ws := by
  constructor
  · rintro ⟨O, hm, he⟩
    have := (enc_reads hm).1
    rw [he] at this
    exact reads_mk.1 this
  · intro h
    exact ⟨theO ws, h.2.2.2, reads_enc h⟩
theorem good_theO {ws : List Nat} {O : Ob} (hm : mayB O = true) (he : encO O = mk ws) : O = theO ws := by
  have := (enc_reads hm).2
  rw [he, theO_mk] at this
  exact this.symm
set_option maxRecDepth 100000 in
set_option maxHeartbeats 8000000 in
theorem refRead_any (w : World) (v : Value) (ws : List Nat) (h : LsAt 1 uw w v ws) (hx : ∀ x ∈ ws, x < 18446744073709551616) (hlen : ws.length ≤ 100000) :
    Calls Try.prog 10 #[v] w (RefRead w ws) := by
  obtain ⟨ti, hi, hzz⟩ := Option.map_eq_some_iff.1 word_info
  simp only [Prod.mk.injEq] at hzz
  have HT := hid (And.intro hi hzz)
  obtain ⟨a, c, hv, hlc, hcm, _⟩ := id h
  subst hv
  have hz := zero_obj
  unfold maxLen at hcm
  obtain ⟨B, hB⟩ : ∃ B, B = w.heap.size := ⟨_, rfl⟩
  obtain ⟨w1, hw1⟩ : ∃ w1, w1 = w.alloc (.cells #[.slice none 0 0, .slice none 0 0, .slice none 0 0, .slice none 0 0] 27) := ⟨_, rfl⟩
  have hN1 : New w w1 := by rw [hw1]; exact (New.refl w).alloc _
  have hB1 : Blk w1 B 27 #[.slice none 0 0, .slice none 0 0, .slice none 0 0, .slice none 0 0] := by rw [hw1, hB]; exact Blk.new w _ _
  obtain ⟨L, hL⟩ : ∃ L, L = ws.length := ⟨_, rfl⟩
  rw [← hL] at hlc hlen h ⊢
  have hw1' := hid hw1
  have hB' := hid hB
  have HN := hid (And.intro hN1 (And.intro hB1 (And.intro (h.new_ hN1) (And.intro hL hx))))
  clear hw1 hB hL h hB1 hN1 hx hi hzz
  go_enter Try.func10, Try.ntmps10
  go_wp2_with fail
  rw [← hw1'.out, ← hB'.out]
  go_loopw [4, 5] (fun v i wr => ∃ k : Nat, k ≤ L ∧ i = .int .i64 (k : Int) ∧ New w1 wr ∧ Sl wr w1.heap.size 37 1 v k (flatOf uw (mk (ws.take k)))) (fun _ i _ => L - (intOf i).toNat)
  case atStart => exact ⟨0, Nat.zero_le _, rfl, New.refl _, by rw [List.take_zero]; exact Sl.nil _ _ _ _⟩
  case round =>
    obtain ⟨k, hk, rfl, hnr, hsv⟩ := hrel
    obtain ⟨a6, c6, rfl⟩ := hsv.val
    by_cases hkn : k < L
    · have w2' : IntKind.i64.wrap ((k : Int) + 1) = k + 1 := by rw [IntKind.wrap_i64]; omega
      obtain ⟨bb, oo, x, rfl, hx, _, hcell⟩ := (HN.out.2.2.1.new_ hnr).get hkn
      have c0 := hcell 0 _ rfl
      rw [Nat.add_zero, Nat.mul_one] at c0
      have j0 : (0 : Int) ≤ (k : Int) := by omega
      have j1 : (k : Int) < (L : Int) := by omega
      have hC := fun X => cut_any x (HN.out.2.2.2.2 x (List.mem_of_getElem? hx)) X
      have HX := hid (And.intro hnr (And.intro hsv (mk_take_succ hx)))
      have p1 : k + 1 ≤ maxLen := by unfold maxLen; omega
      have p2 : (k + 1) * 8 ≤ 140737488355328 := by omega
      generalize mask x = y at *
      clear hnr hsv hcell hx
      go_wp2_with fail
      refine (hC _).mono ?_
      rintro e w' ⟨rfl, rfl⟩
      go_wp2_with (at_builtin; refine wpList_append_sl _ rfl (.tmp 14) (.tmp 20) 22 rfl w1.heap.size 37 ti _ 1 8 Try.underlying22 HT.out.1 HT.out.2.1 HT.out.2.2.1 HT.out.2.2.2 rfl (by decide) (.slice a6 k c6) k _ rfl (HX.out.2.1.alloc _) ⟨wr.heap.size, 0, none⟩ 1 1 [wv y] rfl (by decide) rfl (news_w (by rw [(Blk.new wr _ _).cell]; rfl)) (one_w y) p1 p2 (HX.out.1.alloc _).size ?_; intro v7 w7 hs7 hg7 hb7)
      have hn7 : New w1 w7 := (HX.out.1.alloc _).grown hg7 (fun g hg => (HX.out.2.1.lt g hg).1)
      refine ⟨⟨k + 1, by omega, by go_num, hn7, ?_⟩, by simp [intOf]; omega⟩
      rw [HX.out.2.2, flatOf_app]
      exact hs7
    · have hke : L = k := by omega
      subst hke
      have hlt : ¬ (L : Int) < (L : Int) := by omega
      have htk : ws.take L = ws := by rw [HN.out.2.2.2.1, List.take_length]
      rw [htk] at hsv
      have hml : (mk ws).length = L := by rw [mk_len]; exact HN.out.2.2.2.1.symm
      have hls : LsAt 1 uw wr (.slice a6 L c6) (mk ws) := LsAt.of_sl uw_len (by rw [hml]; exact hsv)
      have hR := qread_any wr _ (mk ws) hls (mk_lo ws) (by rw [hml]; omega)
      have HR := hid hR
      have HX := hid hnr
      clear hR hls hsv hnr htk hml
      go_wp2_with fail
      refine HR.out.mono ?_
      rintro e w5 ⟨x1, n1, y1, x2, n2, y2, x3, n3, y3, x4, n4, y4, ok, rfl, hn5, hok1, hok2⟩
      rw [good_iff] at hok2
      have hB5 := (HN.out.2.1.new_ HX.out).new_ hn5
      have hn15 := HX.out.step hn5
      obtain ⟨b0, b1, b2, b3⟩ := blk4 hB5
      have bf := hB5.frozen
      have hBl : B < w5.heap.size := hB5.lt
      have hBn : ¬ B = w5.heap.size := by omega
      have hBn' : ¬ w5.heap.size = B := by omega
      have HK := hid (And.intro hok1 (And.intro hok2 (And.intro hB5 hn15)))
      clear hok1 hok2 hB5 hn15 hn5
      cases ok with
      | false =>
        obtain ⟨z0, z1, z2, z3⟩ := blk4 ((set4_blk HK.out.2.2.1 (.slice none 0 0) (.slice none 0 0) (.slice none 0 0) (.slice none 0 0)).alloc (.cells #[.slice x1 n1 y1, .slice x2 n2 y2, .slice x3 n3 y3, .slice x4 n4 y4] 27))
        unfold set4 at z0 z1 z2 z3
        have HZ := hid (And.intro z0 (And.intro z1 (And.intro z2 z3)))
        clear z0 z1 z2 z3
        go_wp2_with fail
        refine bodyPost_ret (v := .tuple #[.agg #[.slice none 0 0, .slice none 0 0, .slice none 0 0, .slice none 0 0], .int .i64 12]) (by simp [results, Try.results10, go_sem, HZ.out.1, HZ.out.2.1, HZ.out.2.2.1, HZ.out.2.2.2]) rfl ?_
        exact .inr ⟨(fun h => by have := HK.out.2.1 h; cases this), rfl, ((HN.out.1.step HK.out.2.2.2).kept (set4_keeps w5 B _ _ _ _) (fun i hi => by rw [hi, hB'.out]; exact Nat.le_refl _)).alloc _⟩
      | true =>
        obtain ⟨O, hob, _, hm, he⟩ := HK.out.1 rfl
        have hO := good_theO hm he
        rw [hO] at hob
        have hrd : Reads ws := good_iff.1 ⟨O, hm, he⟩
        have hfin := (ob_off hob HK.out.2.2.1 (set4_keeps _ B (.slice x1 n1 y1) (.slice x2 n2 y2) (.slice x3 n3 y3) (.slice x4 n4 y4))).new_ ((New.refl _).alloc (.cells #[.slice x1 n1 y1, .slice x2 n2 y2, .slice x3 n3 y3, .slice x4 n4 y4] 27))
        obtain ⟨z0, z1, z2, z3⟩ := blk4 ((set4_blk HK.out.2.2.1 (.slice x1 n1 y1) (.slice x2 n2 y2) (.slice x3 n3 y3) (.slice x4 n4 y4)).alloc (.cells #[.slice x1 n1 y1, .slice x2 n2 y2, .slice x3 n3 y3, .slice x4 n4 y4] 27))
        have HF := hid (And.intro hfin hrd)
        clear hob hfin
        unfold set4 at z0 z1 z2 z3
        have HZ := hid (And.intro z0 (And.intro z1 (And.intro z2 z3)))
        clear z0 z1 z2 z3 hm he hO hrd
        go_wp2_with fail
        refine bodyPost_ret (v := .tuple #[.agg #[.slice x1 n1 y1, .slice x2 n2 y2, .slice x3 n3 y3, .slice x4 n4 y4], .int .i64 0]) (by simp [results, Try.results10, go_sem, HZ.out.1, HZ.out.2.1, HZ.out.2.2.1, HZ.out.2.2.2]) rfl ?_
        exact .inl ⟨HF.out.2, _, rfl, HF.out.1, ((HN.out.1.step HK.out.2.2.2).kept (set4_keeps w5 B _ _ _ _) (fun i hi => by rw [hi, hB'.out]; exact Nat.le_refl _)).alloc _⟩
end Go.Proofs.Ytnoahdobgndmnaa.Obj
