/- The reference's reader: number, text. -/
import Derived.Test.YtnoahdobgndmnaaObjV
import Derived.Laws.IdiomStrings
import Derived.Laws.Concat
namespace Go.Proofs.Ytnoahdobgndmnaa.Obj
open Go Go.RowKit Go.Maps Go.Proofs.Ytnoahdobgndmnaa.Kit Go.Proofs.Ytnoahdobgndmnaa.Str Go.Proofs.Ytnoahdobgndmnaa.Names Go.Proofs.Ytnoahdobgndmnaa.Let Go.Proofs.Ytnoahdobgndmnaa.Wd
open Go.Proofs.Ytnoahdobgndmnaa.Letters (wv)
set_option linter.unusedSimpArgs false
set_option linter.unusedVariables false
def numQ (ws : List Nat) (at_ : Nat) (bad : Bool) : Nat × Nat × Bool := ((wordQ ws at_ bad).1 % 262144, (wordQ ws at_ bad).2.1, (wordQ ws at_ bad).2.2 || decide (262143 < (wordQ ws at_ bad).1))
theorem wordQ_lo {ws : List Nat} (h : Lo ws) (at_ : Nat) (bad : Bool) : (wordQ ws at_ bad).1 ≤ maskN := by
  unfold wordQ
  split
  · rename_i hc
    show ws.getD at_ 0 ≤ maskN
    rw [List.getD_eq_getElem?_getD, List.getElem?_eq_getElem hc.2]
    exact h _ (List.getElem_mem hc.2)
  · exact Nat.zero_le _
theorem wordQ_at (ws : List Nat) (at_ : Nat) (bad : Bool) (h : at_ ≤ ws.length) : (wordQ ws at_ bad).2.1 ≤ ws.length := by
  unfold wordQ
  split
  · rename_i hc
    show at_ + 1 ≤ ws.length
    omega
  · exact h
theorem QAt.setBad {Bd : Nat} {w : World} {R : Nat} {ws : List Nat} {at_ : Nat} {bad : Bool} (h : QAt Bd w R ws at_ bad) (b2 : Bool) : QAt Bd (w.setCell ⟨R, 2, none⟩ (.bool b2)) R ws at_ b2 :=
  h.put at_ b2 _ (Keeps.setCell (F := fun k => k = R) (Keeps.refl _ _) (.inr rfl) _) (fun v hv => by simpa using hv.set 2 (.bool b2))
set_option maxRecDepth 100000 in
set_option maxHeartbeats 1000000 in
theorem qnumber_any {Bd : Nat} (w : World) (R : Nat) (ws : List Nat) (at_ : Nat) (bad : Bool) (h : QAt Bd w R ws at_ bad) (hlo : Lo ws) (hl : ws.length ≤ 1000000) (ha : at_ ≤ ws.length) :
    Calls Try.prog 29 #[.pointer (some ⟨R, 0, none⟩)] w fun e w' => e = .returned (.int .i64 ((numQ ws at_ bad).1 : Int)) ∧ QAt Bd w' R ws (numQ ws at_ bad).2.1 (numQ ws at_ bad).2.2 ∧ Keeps (fun k => k = R) w w' := by
  have hW := word_any w R ws at_ bad h hl (by omega)
  have hx := wordQ_lo hlo at_ bad
  have hq : numQ ws at_ bad = ((wordQ ws at_ bad).1 % 262144, (wordQ ws at_ bad).2.1, (wordQ ws at_ bad).2.2 || decide (262143 < (wordQ ws at_ bad).1)) := rfl
  rw [hq]
  clear hq
  generalize (wordQ ws at_ bad).1 = x at *
  generalize (wordQ ws at_ bad).2.1 = a2 at *
  generalize (wordQ ws at_ bad).2.2 = b2 at *
  unfold maskN at hx
  have hband : Go.bits .and .u64 (x : Int) 262143 = ((x % 262144 : Nat) : Int) := by
    have := u64_and_nat x 262143 (by omega) (by omega)
    rw [show ((262143 : Nat) : Int) = 262143 from rfl] at this
    rw [this, show (262143 : Nat) = 2 ^ 18 - 1 from rfl, Nat.and_two_pow_sub_one_eq_mod]
  have i1 : IntKind.i64.wrap ((x % 262144 : Nat) : Int) = ((x % 262144 : Nat) : Int) := by rw [IntKind.wrap_i64]; omega
  generalize x % 262144 = y at *
  have HW := hid hW
  clear hW h
  go_enter Try.func29, Try.ntmps29
  go_wp2_with fail
  refine HW.out.mono ?_
  rintro e w2 ⟨rfl, hQ, hk⟩
  obtain ⟨v, hb, hls, hlt⟩ := id hQ
  have d2 : w2.cell? ⟨R, 2, none⟩ = some (.bool b2) := by rw [hb.cell]; rfl
  have f2 := hb.frozen 2
  have hS := fun b => hQ.setBad b
  have hK : ∀ b, Keeps (fun k => k = R) w2 (w2.setCell ⟨R, 2, none⟩ (.bool b)) := fun b => Keeps.setCell (F := fun k => k = R) (Keeps.refl _ _) (.inr rfl) _
  have HF := hid (And.intro hS (And.intro hK hk))
  clear hS hK hk hQ hb hls hlt
  cases b2 with
  | true =>
    go_wp2_with fail
    go_ret
    exact ⟨rfl, HF.out.1 _, HF.out.2.2.trans (HF.out.2.1 _) fun i _ h => h⟩
  | false =>
    by_cases hx2 : 262143 < x
    · have hx3 : (262143 : Int) < (x : Int) := by omega
      have HX := hid hx2
      clear hx2
      go_wp2_with fail
      go_ret
      exact ⟨rfl, by rw [decide_eq_true HX.out]; exact HF.out.1 _, HF.out.2.2.trans (HF.out.2.1 _) fun i _ h => h⟩
    · have hx3 : decide ((262143 : Int) < (x : Int)) = false := by simp; omega
      have HX := hid hx2
      clear hx2
      go_wp2_with fail
      go_ret
      exact ⟨rfl, by rw [decide_eq_false HX.out]; exact HF.out.1 _, HF.out.2.2.trans (HF.out.2.1 _) fun i _ h => h⟩
/-- The text m stands next. -/
def Can (ws : List Nat) (at_ : Nat) (bad : Bool) (m : List UInt8) : Prop := bad = false ∧ m.length ≤ 255 ∧ ∃ more, ws.drop at_ = enc m ++ more
theorem Can.get {ws : List Nat} {at_ : Nat} {bad : Bool} {m : List UInt8} (h : Can ws at_ bad m) {k : Nat} (hk : k < (enc m).length) : ws.getD (at_ + k) 0 = (enc m).getD k 0 ∧ at_ + k < ws.length := by
  obtain ⟨_, _, more, h⟩ := h
  have e : (ws.drop at_)[k]? = (enc m)[k]? := by rw [h, List.getElem?_append_left hk]
  rw [List.getElem?_drop] at e
  refine ⟨by rw [List.getD_eq_getElem?_getD, List.getD_eq_getElem?_getD, e], ?_⟩
  rw [List.getElem?_eq_getElem hk] at e
  exact (List.getElem?_eq_some_iff.1 e).1
theorem Can.num {ws : List Nat} {at_ : Nat} {bad : Bool} {m : List UInt8} (h : Can ws at_ bad m) : numQ ws at_ bad = (m.length, at_ + 1, false) := by
  have hg := h.get (k := 0) (by rw [Go.Proofs.Ytnoahdobgndmnaa.Let.enc_len]; omega)
  rw [enc_zero, Nat.add_zero] at hg
  have hw : wordQ ws at_ bad = (m.length, at_ + 1, false) := by
    unfold wordQ
    rw [if_pos ⟨h.1, hg.2⟩, hg.1]
  have := h.2.1
  unfold numQ
  rw [hw]
  simp only [Bool.false_or]
  rw [Nat.mod_eq_of_lt (by omega), decide_eq_false (by omega)]
theorem Can.word {ws : List Nat} {at_ : Nat} {bad : Bool} {m : List UInt8} (h : Can ws at_ bad m) {j : Nat} (hj : 4 * j < m.length) : wordQ ws (at_ + 1 + j) false = (wd m j, at_ + 1 + (j + 1), false) := by
  have hn : j < nW m.length := by unfold nW; omega
  have hg := h.get (k := j + 1) (by rw [Go.Proofs.Ytnoahdobgndmnaa.Let.enc_len]; omega)
  rw [enc_succ m hn] at hg
  have e : at_ + 1 + j = at_ + (j + 1) := by omega
  unfold wordQ
  rw [if_pos ⟨rfl, by rw [e]; exact hg.2⟩, e, hg.1]
  exact Prod.ext rfl (Prod.ext (by show at_ + (j + 1) + 1 = at_ + 1 + (j + 1); omega) rfl)
/-- A byte of a word, as the reference takes it. -/
def byQ (x k : Nat) : UInt8 := UInt8.ofNat (x / 2 ^ (27 - 9 * k))
theorem byQ_wd (m : List UInt8) (j k : Nat) (hk : k < 4) (h : 4 * j + k < m.length) : m.take (4 * j + k) ++ [byQ (wd m j) k] = m.take (4 * j + k + 1) := by
  have hb : byQ (wd m j) k = m[4 * j + k] := by
    apply UInt8.toNat_inj.1
    have h0 := byN_lt m (4 * j)
    have h1 := byN_lt m (4 * j + 1)
    have h2 := byN_lt m (4 * j + 2)
    have h3 := byN_lt m (4 * j + 3)
    have e : m[4 * j + k].toNat = byN m (4 * j + k) := by
      unfold byN
      rw [List.getD_eq_getElem?_getD, List.getElem?_eq_getElem h]
      rfl
    rw [e]
    unfold byQ wd
    rw [UInt8.toNat_ofNat']
    rcases (show k = 0 ∨ k = 1 ∨ k = 2 ∨ k = 3 by omega) with rfl | rfl | rfl | rfl
    · show (_ / 134217728) % 256 = byN m (4 * j); omega
    · show (_ / 262144) % 256 = _; omega
    · show (_ / 512) % 256 = _; omega
    · show (_ / 1) % 256 = _; rw [Nat.div_one]; omega
  rw [hb, List.take_succ_eq_append_getElem h]
theorem one_str (w : World) (b : UInt8) : (convert 52 9 (.slice (some ⟨w.heap.size, 0, none⟩) 1 1)).run Try.prog (w.alloc (.cells #[.int .u8 (b.toNat : Int)] 5)) = .ok (st [b]) (w.alloc (.cells #[.int .u8 (b.toNat : Int)] 5)) :=
  run_convert_bytes_back (P := Try.prog) (w.alloc (.cells #[.int .u8 (b.toNat : Int)] 5)) 52 9 5 ⟨w.heap.size, 0, none⟩ 1 [b] Try.underlying52 Try.underlying5 Try.underlying9 (fun q hq => by
    have hq0 : q = 0 := by have : [b].length = 1 := rfl; omega
    subst hq0
    rw [Addr.add_lit, Nat.zero_add, (Blk.new w 5 #[.int .u8 (b.toNat : Int)]).cell]
    rfl)
theorem add_str (l : List UInt8) (b : UInt8) (hl : l.length ≤ 300) (w : World) : (binOp .add 9 (st l) (st [b])).run Try.prog w = .ok (st (l ++ [b])) w := by
  have := run_string_add_lists (P := Try.prog) w l [b] (by omega) (by simp)
  simp only [binOp, this]
/-- What text leaves. -/
def TextQ (Bd : Nat) (w : World) (R : Nat) (ws : List Nat) (at_ : Nat) (bad : Bool) (e : Ending) (w' : World) : Prop :=
  ∃ (l : List UInt8) (a2 : Nat) (b2 : Bool), e = .returned (st l) ∧ l.length ≤ 255 ∧ a2 ≤ ws.length ∧ QAt Bd w' R ws a2 b2 ∧ Keeps (fun k => k = R) w w' ∧ ∀ m, Can ws at_ bad m → l = m ∧ a2 = at_ + (enc m).length ∧ b2 = false
set_option maxRecDepth 100000 in
set_option maxHeartbeats 4000000 in
theorem qtext_any {Bd : Nat} (w : World) (R : Nat) (ws : List Nat) (at_ : Nat) (bad : Bool) (h : QAt Bd w R ws at_ bad) (hlo : Lo ws) (hl : ws.length ≤ 1000000) (ha : at_ ≤ ws.length) :
    Calls Try.prog 28 #[.pointer (some ⟨R, 0, none⟩)] w (TextQ Bd w R ws at_ bad) := by
  have hN := qnumber_any w R ws at_ bad h hlo hl ha
  have hC := fun m (hm : Can ws at_ bad m) => hm.num
  have ha2 : (numQ ws at_ bad).2.1 ≤ ws.length := wordQ_at ws at_ bad ha
  generalize numQ ws at_ bad = q at *
  obtain ⟨n, a1, b1⟩ := q
  simp only at hN ha2
  have HN := hid hN
  have HC := hid (And.intro hC (And.intro hlo ha2))
  clear hN hC hlo ha2 h
  by_cases h255 : 255 < n
  · have h255' : (255 : Int) < (n : Int) := by omega
    have hno : Hid (∀ m, ¬ Can ws at_ bad m) := fun m hm => by
      have h1 := HC.out.1 m hm
      have h2 := hm.2.1
      injection h1 with h1 _
      omega
    clear h255
    go_enter Try.func28, Try.ntmps28
    go_wp2_with fail
    refine HN.out.mono ?_
    rintro e w2 ⟨rfl, hQ, hk⟩
    obtain ⟨v, hb, hls, hlt⟩ := id hQ
    have f2 := hb.frozen 2
    have d2 : w2.cell? ⟨R, 2, none⟩ = some (.bool b1) := by rw [hb.cell]; rfl
    have HF := hid (And.intro (hQ.setBad true) (And.intro (Keeps.setCell (F := fun k => k = R) (Keeps.refl _ w2) (p := ⟨R, 2, none⟩) (.inr rfl) (.bool true)) hk))
    clear hQ hb hls hlt hk
    go_wp2_with fail
    go_ret
    exact ⟨[], a1, true, rfl, Nat.zero_le _, HC.out.2.2, HF.out.1, HF.out.2.2.trans HF.out.2.1 fun i _ h => h, fun m hm => absurd hm (hno.out m)⟩
  · have h255' : ¬ (255 : Int) < (n : Int) := by omega
    have hn : n ≤ 255 := by omega
    clear h255
    go_enter Try.func28, Try.ntmps28
    go_wp2_with fail
    refine HN.out.mono ?_
    rintro e w2 ⟨rfl, hQ, hk⟩
    have H2 := hid (And.intro hQ hk)
    clear hQ hk
    go_wp2_with fail
    go_loopw [4, 5, 6, 7] (fun s i x k wr => ∃ (j a : Nat) (b : Bool) (l : List UInt8), i = .int .i64 ((4 * j : Nat) : Int) ∧ 4 * j ≤ n + 3 ∧ s = st l ∧ l.length = min (4 * j) n ∧ QAt Bd wr R ws a b ∧ a ≤ ws.length ∧ Keeps (fun k => k = R) w wr ∧ ∀ m, Can ws at_ bad m → l = m.take (4 * j) ∧ a = at_ + 1 + j ∧ b = false) (fun _ i _ _ _ => n + 3 - (intOf i).toNat)
    case atStart =>
      refine ⟨0, a1, b1, [], rfl, by omega, rfl, by simp, H2.out.1, HC.out.2.2, H2.out.2, fun m hm => ?_⟩
      have h1 := HC.out.1 m hm
      injection h1 with h1 h2
      injection h2 with h2 h3
      exact ⟨by simp, h2, h3⟩
    case round =>
      clear H2
      obtain ⟨j, a, b, l, rfl, hj, rfl, hll, hQ, ha3, hk, hcan⟩ := hrel
      obtain ⟨J, hJ⟩ : ∃ J, J = 4 * j := ⟨_, rfl⟩
      rw [← hJ] at hj hll hcan ⊢
      by_cases hjn : J < n
      · have hjn' : (J : Int) < (n : Int) := by omega
        have i0 : IntKind.i64.wrap ((J : Int) + 4) = ((J + 4 : Nat) : Int) := by rw [IntKind.wrap_i64]; omega
        have hW := word_any wr R ws a b hQ hl (by omega)
        have hxl := wordQ_lo HC.out.2.1 a b
        have hca : ∀ m, Can ws at_ bad m → (wordQ ws a b).1 = wd m j ∧ (wordQ ws a b).2.1 = at_ + 1 + (j + 1) ∧ (wordQ ws a b).2.2 = false := fun m hm => by
          obtain ⟨_, h2, h3⟩ := hcan m hm
          have h4 := HC.out.1 m hm
          injection h4 with h4 _
          rw [h2, h3, hm.word (j := j) (by omega)]
          exact ⟨rfl, rfl, rfl⟩
        have ha4 := wordQ_at ws a b ha3
        generalize wordQ ws a b = q at *
        obtain ⟨x, a4, b4⟩ := q
        simp only at hW hxl hca ha4
        unfold maskN at hxl
        have HW := hid hW
        have HR := hid (And.intro hcan (And.intro hca (And.intro hk (And.intro ha4 hJ))))
        clear hW hcan hca hk ha4 hJ hQ ha3
        go_wp2_with fail
        refine HW.out.mono ?_
        rintro e w3 ⟨rfl, hQ3, hk3⟩
        have H3 := hid (And.intro hQ3 hk3)
        clear hQ3 hk3 HW
        go_wp2_with fail
        go_loopw [4, 7] (fun s k wr2 => ∃ (q : Nat) (l2 : List UInt8), q ≤ 4 ∧ k = .int .i64 (q : Int) ∧ s = st l2 ∧ l2.length = min (J + q) n ∧ QAt Bd wr2 R ws a4 b4 ∧ Keeps (fun k => k = R) w wr2 ∧ ∀ m, Can ws at_ bad m → l2 = m.take (J + q)) (fun _ k _ => 4 - (intOf k).toNat)
        case atStart => exact ⟨0, l, by omega, rfl, rfl, hll, H3.out.1, HR.out.2.2.1.trans H3.out.2 fun i _ h => h, fun m hm => (HR.out.1 m hm).1⟩
        case round =>
          clear H3
          obtain ⟨q, l2, hq, rfl, rfl, hl2, hQ4, hk4, hcan2⟩ := hrel
          have hnr := Keeps.size hk4
          have HK := hid (And.intro hQ4 (And.intro hk4 hcan2))
          clear hQ4 hk4 hcan2
          rcases (show q = 0 ∨ q = 1 ∨ q = 2 ∨ q = 3 ∨ q = 4 by omega) with rfl | rfl | rfl | rfl | rfl
          · have e1 : IntKind.i64.wrap ((J : Int)) = (J : Int) := by rw [IntKind.wrap_i64]; omega
            obtain ⟨B, hB⟩ : ∃ B : UInt8, B = byQ x 0 := ⟨_, rfl⟩
            by_cases hin : J + 0 < n
            · have hin' : (J : Int) < (n : Int) := by omega
              have hBv : (x : Int) / 134217728 % 256 = (B.toNat : Int) := by
                rw [hB]
                unfold byQ
                rw [UInt8.toNat_ofNat', show 2 ^ (27 - 9 * 0) = 134217728 from rfl]
                omega
              have hcv := fun W => one_str W B
              have had := fun W => add_str l2 B (by omega) W
              have hlb : ¬ 9223372036854775807 < l2.length + 1 := by omega
              have hlen : Hid ((l2 ++ [B]).length = min (J + (0 + 1)) n) := by show _ = _; rw [List.length_append, hl2, List.length_singleton]; omega
              have hcn : Hid (∀ m, Can ws at_ bad m → l2 ++ [B] = m.take (J + (0 + 1))) := fun m hm => by
                have h4 := HC.out.1 m hm
                injection h4 with h4 _
                rw [HK.out.2.2 m hm, hB, (HR.out.2.1 m hm).1, HR.out.2.2.2.2]
                exact byQ_wd m j 0 (by omega) (by have := HR.out.2.2.2.2; omega)
              clear hB hin hl2
              go_wp2_with fail
              exact ⟨⟨0 + 1, l2 ++ [B], by omega, by go_num, rfl, hlen.out, QAt.keeps HK.out.1 ((New.refl wr).alloc _ |>.keeps (fun _ => False)) (fun _ _ h => h), HK.out.2.1.trans ((New.refl wr).alloc _ |>.keeps (fun _ => False)) (fun _ _ h => h.elim), hcn.out⟩, by simp [intOf]⟩
            · exact absurd hjn hin
          · have e1 : IntKind.i64.wrap ((J : Int) + 1) = (J : Int) + 1 := by rw [IntKind.wrap_i64]; omega
            obtain ⟨B, hB⟩ : ∃ B : UInt8, B = byQ x 1 := ⟨_, rfl⟩
            by_cases hin : J + 1 < n
            · have hin' : (J : Int) + 1 < (n : Int) := by omega
              have hBv : (x : Int) / 262144 % 256 = (B.toNat : Int) := by
                rw [hB]
                unfold byQ
                rw [UInt8.toNat_ofNat', show 2 ^ (27 - 9 * 1) = 262144 from rfl]
                omega
              have hcv := fun W => one_str W B
              have had := fun W => add_str l2 B (by omega) W
              have hlb : ¬ 9223372036854775807 < l2.length + 1 := by omega
              have hlen : Hid ((l2 ++ [B]).length = min (J + (1 + 1)) n) := by show _ = _; rw [List.length_append, hl2, List.length_singleton]; omega
              have hcn : Hid (∀ m, Can ws at_ bad m → l2 ++ [B] = m.take (J + (1 + 1))) := fun m hm => by
                have h4 := HC.out.1 m hm
                injection h4 with h4 _
                rw [HK.out.2.2 m hm, hB, (HR.out.2.1 m hm).1, HR.out.2.2.2.2]
                exact byQ_wd m j 1 (by omega) (by have := HR.out.2.2.2.2; omega)
              clear hB hin hl2
              go_wp2_with fail
              exact ⟨⟨1 + 1, l2 ++ [B], by omega, by go_num, rfl, hlen.out, QAt.keeps HK.out.1 ((New.refl wr).alloc _ |>.keeps (fun _ => False)) (fun _ _ h => h), HK.out.2.1.trans ((New.refl wr).alloc _ |>.keeps (fun _ => False)) (fun _ _ h => h.elim), hcn.out⟩, by simp [intOf]⟩
            · have hin' : ¬ (J : Int) + 1 < (n : Int) := by omega
              have hlen : Hid (l2.length = min (J + (1 + 1)) n) := by show _ = _; rw [hl2]; omega
              have hcn : Hid (∀ m, Can ws at_ bad m → l2 = m.take (J + (1 + 1))) := fun m hm => by
                have h4 := HC.out.1 m hm
                injection h4 with h4 _
                rw [HK.out.2.2 m hm, List.take_of_length_le (by omega), List.take_of_length_le (by omega)]
              clear hB hin hl2
              go_wp2_with fail
              exact ⟨⟨1 + 1, l2, by omega, by go_num, rfl, hlen.out, HK.out.1, HK.out.2.1, hcn.out⟩, by simp [intOf]⟩
          · have e1 : IntKind.i64.wrap ((J : Int) + 2) = (J : Int) + 2 := by rw [IntKind.wrap_i64]; omega
            obtain ⟨B, hB⟩ : ∃ B : UInt8, B = byQ x 2 := ⟨_, rfl⟩
            by_cases hin : J + 2 < n
            · have hin' : (J : Int) + 2 < (n : Int) := by omega
              have hBv : (x : Int) / 512 % 256 = (B.toNat : Int) := by
                rw [hB]
                unfold byQ
                rw [UInt8.toNat_ofNat', show 2 ^ (27 - 9 * 2) = 512 from rfl]
                omega
              have hcv := fun W => one_str W B
              have had := fun W => add_str l2 B (by omega) W
              have hlb : ¬ 9223372036854775807 < l2.length + 1 := by omega
              have hlen : Hid ((l2 ++ [B]).length = min (J + (2 + 1)) n) := by show _ = _; rw [List.length_append, hl2, List.length_singleton]; omega
              have hcn : Hid (∀ m, Can ws at_ bad m → l2 ++ [B] = m.take (J + (2 + 1))) := fun m hm => by
                have h4 := HC.out.1 m hm
                injection h4 with h4 _
                rw [HK.out.2.2 m hm, hB, (HR.out.2.1 m hm).1, HR.out.2.2.2.2]
                exact byQ_wd m j 2 (by omega) (by have := HR.out.2.2.2.2; omega)
              clear hB hin hl2
              go_wp2_with fail
              exact ⟨⟨2 + 1, l2 ++ [B], by omega, by go_num, rfl, hlen.out, QAt.keeps HK.out.1 ((New.refl wr).alloc _ |>.keeps (fun _ => False)) (fun _ _ h => h), HK.out.2.1.trans ((New.refl wr).alloc _ |>.keeps (fun _ => False)) (fun _ _ h => h.elim), hcn.out⟩, by simp [intOf]⟩
            · have hin' : ¬ (J : Int) + 2 < (n : Int) := by omega
              have hlen : Hid (l2.length = min (J + (2 + 1)) n) := by show _ = _; rw [hl2]; omega
              have hcn : Hid (∀ m, Can ws at_ bad m → l2 = m.take (J + (2 + 1))) := fun m hm => by
                have h4 := HC.out.1 m hm
                injection h4 with h4 _
                rw [HK.out.2.2 m hm, List.take_of_length_le (by omega), List.take_of_length_le (by omega)]
              clear hB hin hl2
              go_wp2_with fail
              exact ⟨⟨2 + 1, l2, by omega, by go_num, rfl, hlen.out, HK.out.1, HK.out.2.1, hcn.out⟩, by simp [intOf]⟩
          · have e1 : IntKind.i64.wrap ((J : Int) + 3) = (J : Int) + 3 := by rw [IntKind.wrap_i64]; omega
            obtain ⟨B, hB⟩ : ∃ B : UInt8, B = byQ x 3 := ⟨_, rfl⟩
            by_cases hin : J + 3 < n
            · have hin' : (J : Int) + 3 < (n : Int) := by omega
              have hBv : (x : Int) % 256 = (B.toNat : Int) := by
                rw [hB]
                unfold byQ
                rw [UInt8.toNat_ofNat', show 2 ^ (27 - 9 * 3) = 1 from rfl]
                omega
              have hcv := fun W => one_str W B
              have had := fun W => add_str l2 B (by omega) W
              have hlb : ¬ 9223372036854775807 < l2.length + 1 := by omega
              have hlen : Hid ((l2 ++ [B]).length = min (J + (3 + 1)) n) := by show _ = _; rw [List.length_append, hl2, List.length_singleton]; omega
              have hcn : Hid (∀ m, Can ws at_ bad m → l2 ++ [B] = m.take (J + (3 + 1))) := fun m hm => by
                have h4 := HC.out.1 m hm
                injection h4 with h4 _
                rw [HK.out.2.2 m hm, hB, (HR.out.2.1 m hm).1, HR.out.2.2.2.2]
                exact byQ_wd m j 3 (by omega) (by have := HR.out.2.2.2.2; omega)
              clear hB hin hl2
              go_wp2_with fail
              exact ⟨⟨3 + 1, l2 ++ [B], by omega, by go_num, rfl, hlen.out, QAt.keeps HK.out.1 ((New.refl wr).alloc _ |>.keeps (fun _ => False)) (fun _ _ h => h), HK.out.2.1.trans ((New.refl wr).alloc _ |>.keeps (fun _ => False)) (fun _ _ h => h.elim), hcn.out⟩, by simp [intOf]⟩
            · have hin' : ¬ (J : Int) + 3 < (n : Int) := by omega
              have hlen : Hid (l2.length = min (J + (3 + 1)) n) := by show _ = _; rw [hl2]; omega
              have hcn : Hid (∀ m, Can ws at_ bad m → l2 = m.take (J + (3 + 1))) := fun m hm => by
                have h4 := HC.out.1 m hm
                injection h4 with h4 _
                rw [HK.out.2.2 m hm, List.take_of_length_le (by omega), List.take_of_length_le (by omega)]
              clear hB hin hl2
              go_wp2_with fail
              exact ⟨⟨3 + 1, l2, by omega, by go_num, rfl, hlen.out, HK.out.1, HK.out.2.1, hcn.out⟩, by simp [intOf]⟩
          · have hll2 : Hid (l2.length = min (J + 4) n) := hl2
            clear hl2
            go_wp2_with fail
            refine ⟨⟨j + 1, a4, b4, l2, by rw [HR.out.2.2.2.2]; congr 1, by have := HR.out.2.2.2.2; omega, rfl, by rw [hll2.out, HR.out.2.2.2.2]; congr 1, HK.out.1, HR.out.2.2.2.1, HK.out.2.1, fun m hm => ⟨by rw [HK.out.2.2 m hm, HR.out.2.2.2.2]; congr 1, (HR.out.2.1 m hm).2⟩⟩, by simp [intOf]; omega⟩
      · have hjn' : ¬ (J : Int) < (n : Int) := by omega
        have HF := hid (show TextQ Bd w R ws at_ bad (.returned (st l)) wr from ⟨l, a, b, rfl, by omega, ha3, hQ, hk, fun m hm => by
          obtain ⟨h1, h2, h3⟩ := hcan m hm
          have h4 := HC.out.1 m hm
          injection h4 with h4 _
          refine ⟨by rw [h1, List.take_of_length_le (by omega)], ?_, h3⟩
          rw [h2, Go.Proofs.Ytnoahdobgndmnaa.Let.enc_len]
          unfold nW
          omega⟩)
        clear hcan hk hQ ha3 hll
        go_wp2_with fail
        go_ret
        exact HF.out
end Go.Proofs.Ytnoahdobgndmnaa.Obj
