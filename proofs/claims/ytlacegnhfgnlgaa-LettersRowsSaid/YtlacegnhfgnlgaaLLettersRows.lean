/- The walk of LettersRows. -/
import Derived.Test.YtlacegnhfgnlgaaLLettersTurn
import Derived.SliceStrings
import Derived.Test.YtlacegnhfgnlgaaSlMore
namespace Go.Proofs.Ytlacegnhfgnlgaa.Law
open Go Go.RowKit Go.ChangeShapes Go.WideShapes Go.Proofs.Ytlacegnhfgnlgaa.Kit Go.Proofs.Ytlacegnhfgnlgaa.Wd Go.Proofs.Ytlacegnhfgnlgaa.Let Go.Proofs.Ytlacegnhfgnlgaa.Letters Go.Proofs.Ytlacegnhfgnlgaa.Same Go.Proofs.Ytlacegnhfgnlgaa.Open
set_option linter.unusedSimpArgs false
set_option linter.unusedVariables false
def encs (L : List (List UInt8)) : List Nat := L.flatMap enc
theorem encs_app (L : List (List UInt8)) (x : List UInt8) : encs (L ++ [x]) = encs L ++ enc x := by unfold encs; rw [List.flatMap_append]; simp
theorem encs_cons (x : List UInt8) (L : List (List UInt8)) : encs (x :: L) = enc x ++ encs L := rfl
theorem take_one {L : List (List UInt8)} {j : Nat} (h : j < L.length) : L.take (j + 1) = L.take j ++ [L.getD j []] := by
  rw [List.take_add_one, List.getD_eq_getElem?_getD, List.getElem?_eq_getElem h]; rfl
theorem drop_one {L : List (List UInt8)} {j : Nat} (h : j < L.length) : L.drop j = L.getD j [] :: L.drop (j + 1) := by
  rw [List.drop_eq_getElem_cons h, List.getD_eq_getElem?_getD, List.getElem?_eq_getElem h]; rfl
theorem encs_len {L : List (List UInt8)} (h : ∀ x ∈ L, x.length ≤ 255) : (encs L).length ≤ 65 * L.length := by
  induction L with
  | nil => exact Nat.zero_le _
  | cons x t ih =>
    have h1 := ih fun y hy => h y (List.mem_cons_of_mem _ hy)
    have h2 := h x List.mem_cons_self
    rw [encs_cons, List.length_append, enc_len, List.length_cons]
    unfold nW
    omega
theorem encs_lt {L : List (List UInt8)} (h : ∀ x ∈ L, x.length ≤ 255) (i : Nat) : (encs L).getD i 0 < 18446744073709551616 := by
  induction L generalizing i with
  | nil => show ([] : List Nat).getD i 0 < _; simp
  | cons x t ih =>
    rw [encs_cons, List.getD_eq_getElem?_getD, List.getElem?_append]
    split
    · rw [← List.getD_eq_getElem?_getD]; exact enc_lt x (h x List.mem_cons_self) i
    · rw [← List.getD_eq_getElem?_getD]; exact ih (fun y hy => h y (List.mem_cons_of_mem _ hy)) _
/-- w[n:] -/
theorem WsAt.cut {w : World} {a : Option Addr} {c m n : Nat} {xs ys : List Nat} (h : WsAt w (.slice a n c) (xs ++ ys)) (hm : m = xs.length) {a' : Option Addr} (ha : m < c → ∀ b o, a = some ⟨b, o, none⟩ → a' = some ⟨b, o + m, none⟩) (hc : n ≤ c) : WsAt w (.slice a' ys.length (c - m)) ys := by
  obtain ⟨a2, c2, e, hcell⟩ := h
  injection e with e1 e2 e3
  subst e1 e3
  refine ⟨_, _, rfl, fun h0 => ?_⟩
  rw [List.length_append] at e2 hcell
  obtain ⟨b, o, e, hb, hx⟩ := hcell (by omega)
  refine ⟨b, o + m, ha (by omega) b o e, hb, fun i hi => ?_⟩
  have := hx (xs.length + i) (by omega)
  rw [Nat.add_assoc, hm, this, List.getD_eq_getElem?_getD, List.getElem?_append_right (by omega), Nat.add_sub_cancel_left, ← List.getD_eq_getElem?_getD]
set_option maxRecDepth 100000 in
set_option maxHeartbeats 4000000 in
theorem lettersRows_walk (a : Option Addr) (n c : Nat) (ls : List (List UInt8)) (w : World) (hn : n = ls.length)
    (hc : 0 < n → ∃ b o, a = some ⟨b, o, none⟩ ∧ b < w.heap.size ∧ ∀ i, i < n → w.cell? ⟨b, o + i, none⟩ = some (st (ls.getD i []))) :
    Calls Try.prog 5 #[.slice a n c] w fun e w' => e = .returned (.bool true) ∧ New w w' := by
  have HN := hid hn
  have HC := hid hc
  clear hc hn
  obtain ⟨ti, hi, hzz⟩ := Option.map_eq_some_iff.1 word_info
  simp only [Prod.mk.injEq] at hzz
  obtain ⟨hz1, hz2, hz3⟩ := hzz
  have HT := hid (And.intro hi (And.intro hz1 (And.intro hz2 hz3)))
  clear hi hz1 hz2 hz3
  go_enter Try.func5, Try.ntmps5
  go_wp2_with fail
  refine (awake_any w).mono ?_
  rintro e w0 ⟨rfl, n0⟩
  go_wp2_with fail
  go_loopw [3, 4] (fun v i wr => ∃ j : Nat, j ≤ n ∧ j ≤ 41 ∧ i = .int .i64 (j : Int) ∧ (∀ x ∈ ls.take j, x.length ≤ 255) ∧ Sl wr w.heap.size 33 1 v (encs (ls.take j)).length ((encs (ls.take j)).map wv) ∧ New w wr) (fun _ i _ => n - (intOf i).toNat)
  case atStart => exact ⟨0, Nat.zero_le _, by omega, rfl, by simp, Sl.nil _ _ _ _, n0⟩
  case round =>
    clear n0
    obtain ⟨j, hj, hj41, rfl, hall, hsl, hnr⟩ := hrel
    have w1 : IntKind.i64.wrap ((j : Int) + 1) = j + 1 := by rw [IntKind.wrap_i64]; omega
    obtain ⟨oa, oc, rfl⟩ := hsl.val
    by_cases hjl : j < n
    · obtain ⟨b, o, rfl, hb, hcell⟩ := HC.out (by omega)
      have hC := hcell j hjl
      have hcj := hnr.cellK hC
      have hjls : j < ls.length := by rw [← HN.out]; exact hjl
      obtain ⟨x, hx⟩ : ∃ x, x = ls.getD j [] := ⟨_, rfl⟩
      rw [← hx] at hcj hC
      have i0 : (0 : Int) ≤ (j : Int) := by omega
      have i1 : (j : Int) < (n : Int) := by omega
      by_cases h40 : 40 < j
      · have h40' : (40 : Int) < (j : Int) := by omega
        clear hcell hx
        go_wp2_with fail
        go_ret
        exact ⟨rfl, hnr⟩
      have h40' : ¬ (40 : Int) < (j : Int) := by omega
      by_cases h255 : 255 < x.length
      · have h255' : (255 : Int) < (x.length : Int) := by omega
        clear hcell hx
        go_wp2_with fail
        go_ret
        exact ⟨rfl, hnr⟩
      have h255' : ¬ (255 : Int) < (x.length : Int) := by omega
      obtain ⟨M, hM⟩ : ∃ M, M = (enc x).length := ⟨_, rfl⟩
      have hMe : M = 1 + nW x.length := by rw [hM, enc_len]
      have hM0 : 0 < M := by omega
      have hM65 : M ≤ 65 := by rw [hMe]; unfold nW; omega
      have w2 : IntKind.i64.wrap ((x.length : Int) + 3) = x.length + 3 := by rw [IntKind.wrap_i64]; omega
      have w3 : ((x.length : Int) + 3).tdiv 4 = ((x.length : Int) + 3) / 4 := by rw [Int.tdiv_eq_ediv_of_nonneg (by omega)]
      have w4 : IntKind.i64.wrap (((x.length : Int) + 3) / 4) = ((x.length : Int) + 3) / 4 := by rw [IntKind.wrap_i64]; omega
      have w5 : IntKind.i64.wrap (1 + ((x.length : Int) + 3) / 4) = (M : Int) := by
        rw [IntKind.wrap_i64, hMe]; unfold nW; omega
      have q := Words_yes x (by omega) wr
      have hel := encs_len hall
      have htl : (ls.take j).length ≤ j := List.length_take_le _ _
      obtain ⟨E, hE⟩ : ∃ E, E = (encs (ls.take j)).length := ⟨_, rfl⟩
      rw [← hE] at hel hsl ⊢
      have Q := hid q
      have R := hid (And.intro hsl (And.intro hnr (And.intro hall (And.intro hM (And.intro hx (And.intro hjls hE))))))
      have HH := hid hC
      clear q hsl hnr hall hM hMe hx hjls hcell hC hE
      go_wp2_with fail
      refine Q.out.mono ?_
      rintro e w2 ⟨v1, rfl, s1, n1⟩
      have y1 := R.out.2.1.step n1
      have hcj1 := y1.cellK HH.out
      have hws := WsAt.of_sl s1
      obtain ⟨a1, c1, rfl, hc1⟩ := hws
      obtain ⟨b1, o1, rfl, hb1, hc1⟩ := hc1 (by rw [← R.out.2.2.2.1]; exact hM0)
      rw [← R.out.2.2.2.1] at hc1 ⊢
      have hN1 := hid (news_at R.out.2.2.2.1 hc1)
      have hsz := R.out.2.1.size
      have hsz2 := n1.size
      have S2 := hid (R.out.1.new_ n1)
      clear s1 hc1
      go_wp2_with (at_builtin; refine wpList_append_sl _ rfl (.tmp 52) (.tmp 53) 22 rfl w.heap.size 33 ti (.int .u64 0) 1 8 Try.underlying22 HT.out.1 HT.out.2.1 HT.out.2.2.1 HT.out.2.2.2 rfl (by decide) (.slice oa E oc) E _ rfl S2.out ⟨b1, o1, none⟩ M c1 ((enc x).map wv) rfl (by omega) (by rw [List.length_map, Nat.mul_one]; exact R.out.2.2.2.1.symm) hN1.out (wv_one _) (by unfold maxLen; omega) (by omega) (by omega) ?_; intro v' w3 hs3 hg3 hb3)
      have hnw : New w w3 := New.grown y1 hg3 (fun k hk => (S2.out.lt k hk).1)
      have htk := take_one (L := ls) (j := j) R.out.2.2.2.2.2.1
      rw [← R.out.2.2.2.2.1] at htk
      refine ⟨⟨j + 1, by omega, by omega, by go_num, ?_, ?_, hnw⟩, ?_⟩
      · intro y hy
        rw [htk, List.mem_append] at hy
        rcases hy with hy | hy
        · exact R.out.2.2.1 y hy
        · rw [List.mem_singleton.1 hy]; omega
      · rw [htk, encs_app, List.length_append, List.map_append, ← R.out.2.2.2.2.2.2, ← R.out.2.2.2.1]
        exact hs3
      · simp [intOf]; omega
    · have ej : j = n := by omega
      have hjn : ¬ (j : Int) < (n : Int) := by omega
      rw [ej, HN.out, List.take_length] at hsl hall
      have hw0 := WsAt.of_sl hsl
      have hcap : (encs ls).length ≤ oc := by
        rcases hsl.2 with ⟨e, h0⟩ | ⟨g', o', cap', cur, e, _, _, h0, _⟩
        · omega
        · injection e with _ _ e3
          omega
      have hE2 := encs_len hall
      have hnls := HN.out
      obtain ⟨E, hE⟩ : ∃ E, E = (encs (ls.take j)).length := ⟨_, rfl⟩
      have eE : (encs (ls.take j)).length = (encs ls).length := by rw [ej, HN.out, List.take_length]
      rw [eE]
      have hn41 : n ≤ 41 := by omega
      have A := hid (And.intro hw0 (And.intro hnr (And.intro hall hcap)))
      clear hsl hall hw0 hcap hnr ej eE hE
      go_wp2_with fail
      go_loopw [3, 7] (fun v i wr => ∃ (j T vc : Nat) (va : Option Addr), j ≤ n ∧ i = .int .i64 (j : Int) ∧ v = .slice va T vc ∧ T ≤ vc ∧ WsAt wr v (encs (ls.drop j)) ∧ New w wr) (fun _ i _ => n - (intOf i).toNat)
      case atStart => exact ⟨0, _, _, _, Nat.zero_le _, rfl, rfl, A.out.2.2.2, A.out.1, A.out.2.1⟩
      case round =>
        obtain ⟨j, T, vc, va, hj, rfl, rfl, hTc, hw, hnr⟩ := hrel
        have w1 : IntKind.i64.wrap ((j : Int) + 1) = j + 1 := by rw [IntKind.wrap_i64]; omega
        by_cases hjl : j < n
        · obtain ⟨b, o, rfl, hb, hcell⟩ := HC.out (by omega)
          have hC := hcell j hjl
          have hjls : j < ls.length := by rw [← HN.out]; exact hjl
          have hdr := drop_one hjls
          have hmem : ls.getD j [] ∈ ls := by rw [List.getD_eq_getElem?_getD, List.getElem?_eq_getElem hjls]; exact List.getElem_mem hjls
          have hx255 := A.out.2.2.1 _ hmem
          obtain ⟨x, hx⟩ : ∃ x, x = ls.getD j [] := ⟨_, rfl⟩
          rw [← hx] at hC hdr hx255
          rw [hdr, encs_cons] at hw
          have hdall : ∀ y ∈ x :: ls.drop (j + 1), y.length ≤ 255 := fun y hy => A.out.2.2.1 y (List.mem_of_mem_drop (by rw [← hdr] at hy; exact hy))
          have hlt := encs_lt hdall
          rw [encs_cons] at hlt
          have hln := encs_len hdall
          rw [encs_cons] at hln
          have hdl : (x :: ls.drop (j + 1)).length ≤ n := by rw [← hdr, List.length_drop]; omega
          have hrd := rdOk_enc x hx255 (encs (ls.drop (j + 1)))
          have hrN : rdN (enc x ++ encs (ls.drop (j + 1))) = x.length := by
            unfold rdN
            rw [show (enc x ++ encs (ls.drop (j + 1))).getD 0 0 = x.length from rfl, Nat.mod_eq_of_lt (by omega)]
          obtain ⟨M, hM⟩ : ∃ M, M = (enc x).length := ⟨_, rfl⟩
          have e9 : readV (enc x ++ encs (ls.drop (j + 1))) = .tuple #[st x, .int .i64 (M : Int), .int .i64 0] := by unfold readV; rw [hrd.2, hrN, hM, enc_len]
          have q := Read_yes wr _ _ hw hlt (by omega) hrd.1
          rw [e9] at q
          have Q := hid q
          have hwc := hw
          obtain ⟨va2, vc2, e, hvc⟩ := hw
          injection e with e1 e2 e3
          subst e1 e3
          obtain ⟨vb, vo, rfl, hvb, _⟩ := hvc (by rw [List.length_append]; have := enc_len x; omega)
          have hMT : M ≤ T := by rw [e2, hM, List.length_append]; omega
          have hTM : T - M = (encs (ls.drop (j + 1))).length := by rw [e2, hM, List.length_append]; omega
          have hM1 : 0 < M := by rw [hM, enc_len]; omega
          have hcut : ∀ a', (M < vc → ∀ b o, some (⟨vb, vo, none⟩ : Addr) = some ⟨b, o, none⟩ → a' = some ⟨b, o + M, none⟩) → WsAt wr (.slice a' (encs (ls.drop (j + 1))).length (vc - M)) (encs (ls.drop (j + 1))) := fun a' ha => Law.WsAt.cut hwc hM ha hTc
          rw [← hTM] at hcut
          have R := hid (And.intro hcut hnr)
          have HH := hid hC
          have i0 : (0 : Int) ≤ (j : Int) := by omega
          have i1 : (j : Int) < (n : Int) := by omega
          have i2 : (0 : Int) ≤ (M : Int) := by omega
          have i3 : (M : Int) ≤ (T : Int) := by omega
          have i4 : (T : Int) ≤ (vc : Int) := by omega
          clear q hcut hwc hvc e2 hTM hC hx hM hdall hlt hln hdl hrd hrN e9 hdr hmem hcell A
          go_wp2_with fail
          refine Q.out.mono ?_
          rintro e w2 ⟨rfl, n2⟩
          have hcj := (R.out.2.step n2).cellK HH.out
          go_wp2_with fail
          refine ⟨⟨j + 1, T - M, vc - M, _, by omega, by go_num, rfl, by omega, ?_, R.out.2.step n2⟩, ?_⟩
          · refine WsAt.new_ (R.out.1 _ fun hlt b o e => ?_) n2
            injection e with e
            injection e with e1 e2
            rw [if_neg (by omega), e1, e2]
          · simp [intOf]; omega
        · have hjn' : ¬ (j : Int) < (n : Int) := by omega
          have ej : j = n := by omega
          have e0 : encs (ls.drop j) = [] := by rw [ej, HN.out, List.drop_length]; rfl
          obtain ⟨va2, vc2, e, _⟩ := hw
          injection e with _ e2 _
          rw [e0] at e2
          have hT0 : T = 0 := e2
          subst hT0
          clear ej e0 e2 A
          go_wp2_with fail
          go_ret
          exact ⟨rfl, hnr⟩
theorem open_strs {H : Type} {enc : TypeId × Value → H} {W : World} {base : Nat} {v : Value} {d : DataW H} {p : List MemPlace} {b0 : Nat} {r : Reach} {sp : Nat → Bool} {held : Bool} (k : Value.okWide Try.prog W r b0 36 v) (h : DataW.Trod enc Try.prog W base sp held 36 v d p) :
    ∃ (a : Option Addr) (n c : Nat) (ls : List (List UInt8)), v = .slice a n c ∧ n = ls.length ∧ (0 < n → ∃ b o, a = some ⟨b, o, none⟩ ∧ b < W.heap.size ∧ ∀ i, i < n → W.cell? ⟨b, o + i, none⟩ = some (st (ls.getD i []))) := by
  obtain ⟨a1, n1, c1, rfl⟩ := okWide_slice' Try.underlying36 k
  obtain ⟨fuel, hf⟩ := h
  rcases open_strings Try.underlying36 Try.underlying9 (by kernel_rfl) hf with ⟨hcs, hx⟩ | ⟨a, len, cap, ss, hcs, _, hl, hm, hz, hx, hcell, hw⟩
  · simp [Value.cells] at hcs
    obtain ⟨rfl, rfl, rfl⟩ := hcs
    exact ⟨none, 0, 0, [], rfl, rfl, fun h => absurd h (by decide)⟩
  · simp [Value.cells] at hcs
    obtain ⟨rfl, rfl, rfl⟩ := hcs
    have hzl : n1 ≤ ss.length := by rw [hz]; split <;> omega
    have hlen : ((ss.take n1).map fun s => s.data.toList).length = n1 := by simp; omega
    refine ⟨some a, n1, c1, (ss.take n1).map fun s => s.data.toList, rfl, hlen.symm, fun h0 => ?_⟩
    obtain ⟨ab, ao, spot⟩ := a
    have hspot : spot = none := by simpa [Addr.add] using World.cell?_spot (hcell 0 (by omega))
    subst hspot
    have h00 : W.cell? ⟨ab, ao, none⟩ = some (.string (ss.getD 0 ByteArray.empty)) := by
      have := hcell 0 (by omega)
      rw [Addr.add_lit] at this
      simpa using this
    refine ⟨ab, ao, rfl, World.block_lt_of_cell? W _ h00, fun i hi => ?_⟩
    have := hcell i (by omega)
    rw [Addr.add_lit] at this
    rw [this]
    show some (Value.string _) = some (Value.string _)
    rw [List.getD_eq_getElem?_getD, List.getD_eq_getElem?_getD, List.getElem?_map, List.getElem?_take_of_lt hi, List.getElem?_eq_getElem (show i < ss.length by omega)]
    rfl
theorem lettersRows_row {H : Type} {enc : TypeId × Value → H} (W : World) {base : Nat}
    (v0 : Value) (d0 : DataW H) (p0 : List MemPlace) (k0 : Value.okWide Try.prog W .any base 36 v0) (h0 : DataW.Trod enc Try.prog W 0 (fun _ => true) true 36 v0 d0 p0) (l0 : ∀ x ∈ p0, x.block < W.heap.size)
    : Calls Try.prog 5 #[v0] W fun e W' => e = .returned (.bool true) ∧ Below W.heap.size W W' := by
  obtain ⟨a, n, c, ls, rfl, hn, hc⟩ := open_strs k0 h0
  exact lettersRows_walk a n c ls W hn hc
end Go.Proofs.Ytlacegnhfgnlgaa.Law
