/- The reader: its plain model; the contracts of take, number, text. -/
import Derived.Test.YtnoahdobgndmnaaObjH
import Derived.Test.YtnoahdobgndmnaaLetRead
namespace Go.Proofs.Ytnoahdobgndmnaa.Obj
open Go Go.RowKit Go.Maps Go.Proofs.Ytnoahdobgndmnaa.Kit Go.Proofs.Ytnoahdobgndmnaa.Str Go.Proofs.Ytnoahdobgndmnaa.Names Go.Proofs.Ytnoahdobgndmnaa.Let
open Go.Proofs.Ytnoahdobgndmnaa.Letters (wv WsAt word_info)
set_option linter.unusedSimpArgs false
set_option linter.unusedVariables false
abbrev Rd := List Nat × Bool
def takeR (s : Rd) (n : Nat) : List Nat × Rd := if s.2 = false ∧ n ≤ s.1.length then (s.1.take n, s.1.drop n, false) else ([], s.1, true)
def numR (s : Rd) : Nat × Rd := ((takeR s 1).1.headD 0, (takeR s 1).2)
noncomputable instance (ws : List Nat) : Decidable (RdOk ws) := Classical.propDecidable _
noncomputable def textR (s : Rd) : List UInt8 × Rd := if s.2 = false ∧ RdOk s.1 then (rdL s.1, s.1.drop (1 + nW (rdN s.1)), false) else ([], s.1, true)
/-- The reader in its block. -/
def RAt (w : World) (R : Nat) (s : Rd) : Prop :=
  ∃ b o c, Blk w R 62 #[.slice (some ⟨b, o, none⟩) s.1.length c, .bool s.2] ∧ s.1.length ≤ c ∧ c ≤ maxLen ∧ b < R ∧ (∀ i x, s.1[i]? = some x → w.cell? ⟨b, o + i, none⟩ = some (wv x))
section
variable {w w' : World} {R : Nat} {s : Rd}
theorem RAt.new_ (h : RAt w R s) (n : New w w') : RAt w' R s := by
  obtain ⟨b, o, c, h1, h2, h3, h45, h6⟩ := h
  exact ⟨b, o, c, h1.new_ n, h2, h3, h45, fun i x hx => n.cellK (h6 i x hx)⟩
theorem RAt.keeps (h : RAt w R s) {F : Nat → Prop} (n : Keeps F w w') (hF : ∀ k, k ≤ R → ¬ F k) : RAt w' R s := by
  obtain ⟨b, o, c, h1, h2, h3, h45, h6⟩ := h
  exact ⟨b, o, c, h1.keeps n (hF R (Nat.le_refl _)), h2, h3, h45, fun i x hx => n.cell (h6 i x hx) (hF b (Nat.le_of_lt h45))⟩
theorem RAt.lt (h : RAt w R s) : R < w.heap.size := by
  obtain ⟨b, o, c, h1, _⟩ := h
  exact h1.lt
end
/-- What a step of the reader leaves: the reader's block alone is written. -/
def RStep (w : World) (R : Nat) (s' : Rd) (w' : World) : Prop := RAt w' R s' ∧ Keeps (fun k => k = R) w w'
theorem take_no {w : World} {R : Nat} {s : Rd} {n : Nat} (h : RAt w R s) (hn : ¬ (s.2 = false ∧ n ≤ s.1.length)) : RStep w R (takeR s n).2 (w.setCell ⟨R, 1, none⟩ (.bool true)) := by
  obtain ⟨b, o, c, h1, h2, h3, h45, h6⟩ := h
  have h4 : b ≠ R := Nat.ne_of_lt h45
  have h5 : b < w.heap.size := Nat.lt_trans h45 h1.lt
  unfold takeR
  rw [if_neg hn]
  have hk : Keeps (fun k => k = R) w (w.setCell ⟨R, 1, none⟩ (.bool true)) := Keeps.setCell (F := fun k => k = R) (Keeps.refl _ _) (.inr rfl) _
  refine ⟨⟨b, o, c, by simpa using h1.set 1 (.bool true), h2, h3, h45, fun i x hx => hk.cell (h6 i x hx) h4⟩, hk⟩
set_option maxRecDepth 100000 in
set_option maxHeartbeats 4000000 in
theorem take_any (w : World) (R : Nat) (s : Rd) (n : Nat) (h : RAt w R s) (hl : s.1.length ≤ 1000000) (hn : n ≤ 1000000) :
    Calls Try.prog 25 #[.pointer (some ⟨R, 0, none⟩), .int .i64 (n : Int)] w fun e w' => ∃ v, e = .returned v ∧ LsAt 1 uw w' v (takeR s n).1 ∧ (∀ g, v.ownBlock = some g → w.heap.size ≤ g ∧ g < w'.heap.size) ∧ RStep w R (takeR s n).2 w' := by
  have H := hid h
  obtain ⟨b, o, c, h1, h2, h3, h45, h6⟩ := h
  have h4 : b ≠ R := Nat.ne_of_lt h45
  have h5 : b < w.heap.size := Nat.lt_trans h45 h1.lt
  obtain ⟨ws, bad⟩ := s
  obtain ⟨L, hL⟩ : ∃ L, L = ws.length := ⟨_, rfl⟩
  simp only at h1 h2 hl
  rw [← hL] at h1 h2 hl
  have d0 : w.cell? ⟨R, 0, none⟩ = some (.slice (some ⟨b, o, none⟩) L c) := by rw [h1.cell]; rfl
  have d1 : w.cell? ⟨R, 1, none⟩ = some (.bool bad) := by rw [h1.cell]; rfl
  have f1 : w.frozen? ⟨R, 1, none⟩ = false := h1.frozen 1
  unfold maxLen at h3
  cases bad with
  | true =>
    have hno := take_no (n := n) H.out (by simp)
    have htk : (takeR (ws, true) n).1 = [] := by simp [takeR]
    have HF := hid (And.intro htk hno)
    clear hno htk h1 h2 h4 h45 h5 h6 hL
    go_enter Try.func25, Try.ntmps25
    go_wp2
    go_ret
    exact ⟨_, rfl, by rw [HF.out.1]; exact LsAt.nil, (fun g hg => by have h : (none : Option Nat) = some g := hg; cases h), HF.out.2⟩
  | false =>
    by_cases hnl : n ≤ L
    · have i0 : ¬ (L : Int) < (n : Int) := by omega
      have i1 : (0 : Int) ≤ (n : Int) := by omega
      have i2 : (n : Int) ≤ (c : Int) := by omega
      have i3 : (n : Int) ≤ (L : Int) := by omega
      have i4 : (L : Int) ≤ (c : Int) := by omega
      have htk : takeR (ws, false) n = (ws.take n, ws.drop n, false) := by unfold takeR; rw [if_pos ⟨rfl, by rw [← hL]; exact hnl⟩]
      have hlt : (ws.take n).length = n := by rw [List.length_take]; omega
      have hld : (ws.drop n).length = L - n := by rw [List.length_drop]; omega
      have hls : LsAt 1 uw w (.slice (some ⟨b, o, none⟩) n c) (ws.take n) := by
        refine ⟨_, c, by rw [hlt], by omega, by unfold maxLen; omega, fun h0 => ⟨b, o, rfl, h5, fun i x hx j u hu => ?_⟩⟩
        have hi : i < n := by rw [← hlt]; exact (List.getElem?_eq_some_iff.1 hx).1
        rw [List.getElem?_take_of_lt hi] at hx
        match j, hu with
        | 0, hu =>
          have : u = wv x := by simpa [uw] using hu.symm
          rw [Nat.mul_one, Nat.add_zero, this]
          exact h6 i x hx
      have hC := clone_any _ _ w hls (by omega)
      rw [hlt] at hC
      have HC := hid hC
      have HX := hid (And.intro h1 (And.intro h45 (And.intro h5 (And.intro h6 (And.intro htk (And.intro hlt hld))))))
      have HL := hid hL
      have HR := hid h1.lt
      clear h1 h4 h45 h5 h6 hC hls htk hlt hld hL
      go_enter Try.func25, Try.ntmps25
      go_wp2_with fail
      refine HC.out.mono ?_
      rintro e w2 ⟨v, rfl, hs, hn2⟩
      have e0 := hn2.cellK d0
      have hb2 := HX.out.1.new_ hn2
      have f0 : w2.frozen? ⟨R, 0, none⟩ = false := hb2.frozen 0
      have HS := hid (And.intro hs (And.intro hn2 hb2))
      clear hs hn2 hb2
      have fin : ∀ (a' : Addr) (c' : Nat), (a' = ⟨b, o + n, none⟩ ∧ L - n ≤ c' ∧ c' ≤ maxLen ∨ L - n = 0 ∧ a' = ⟨b, o, none⟩ ∧ c' = 0) →
          LsAt 1 uw (w2.setCell ⟨R, 0, none⟩ (.slice (some a') (L - n) c')) v (takeR (ws, false) n).1 ∧ (∀ g, v.ownBlock = some g → w.heap.size ≤ g ∧ g < (w2.setCell ⟨R, 0, none⟩ (.slice (some a') (L - n) c')).heap.size) ∧ RStep w R (takeR (ws, false) n).2 (w2.setCell ⟨R, 0, none⟩ (.slice (some a') (L - n) c')) := by
        intro a' c' ha
        obtain ⟨hs, hn2, hb2⟩ := HS.out
        obtain ⟨_, h45, h5, h6, htk, hlt, hld⟩ := HX.out
        have h4 : b ≠ R := Nat.ne_of_lt h45
        have hk2 : Keeps (fun k => k = R) w2 (w2.setCell ⟨R, 0, none⟩ (.slice (some a') (L - n) c')) := Keeps.setCell (F := fun k => k = R) (Keeps.refl _ _) (.inr rfl) _
        have hne : ∀ g, v.ownBlock = some g → w.heap.size ≤ g ∧ g < (w2.setCell ⟨R, 0, none⟩ (.slice (some a') (L - n) c')).heap.size := fun g hg => by rw [size_setCell]; exact hs.lt g hg
        rw [htk]
        have hls2 : LsAt 1 uw w2 v (ws.take n) := LsAt.of_sl uw_len (by rw [hlt]; exact hs)
        refine ⟨hls2.keeps hk2 (fun g hg e => ?_), hne, ⟨?_, ((hn2.keeps _).trans hk2 fun i _ h => h)⟩⟩
        · have := (hne g hg).1
          have := HR.out
          omega
        · have hb3 : Blk (w2.setCell ⟨R, 0, none⟩ (.slice (some a') (L - n) c')) R 62 #[.slice (some a') (L - n) c', .bool false] := by simpa using hb2.set 0 _
          rcases ha with ⟨rfl, hc1, hc2⟩ | ⟨h0, rfl, rfl⟩
          · refine ⟨b, o + n, c', by rw [show ((ws.drop n, false) : Rd).1.length = L - n from hld]; exact hb3, by rw [show ((ws.drop n, false) : Rd).1.length = L - n from hld]; exact hc1, hc2, h45, fun i x hx => ?_⟩
            have hx' : ws[n + i]? = some x := by rw [← List.getElem?_drop]; exact hx
            have := h6 (n + i) x hx'
            rw [← Nat.add_assoc] at this
            exact hk2.cell (hn2.cellK this) h4
          · refine ⟨b, o, 0, by rw [show ((ws.drop n, false) : Rd).1.length = L - n from hld]; exact hb3, by rw [show ((ws.drop n, false) : Rd).1.length = L - n from hld]; omega, Nat.zero_le _, h45, fun i x hx => ?_⟩
            have := (List.getElem?_eq_some_iff.1 hx).1
            rw [show ((ws.drop n, false) : Rd).1.length = L - n from hld] at this
            omega
      have FIN := hid fin
      clear fin
      by_cases hcn : c = n
      · have hz : L - n = 0 := by omega
        have hq := FIN.out ⟨b, o, none⟩ 0 (.inr ⟨hz, rfl, rfl⟩)
        rw [hz] at hq
        have HQ := hid hq
        clear hq hz
        subst hcn
        go_wp2
        go_ret
        exact ⟨_, rfl, HQ.out⟩
      · have hq := FIN.out ⟨b, o + n, none⟩ (c - n) (.inl ⟨rfl, by omega, by unfold maxLen; omega⟩)
        have HQ := hid hq
        clear hq
        go_wp2
        go_ret
        exact ⟨_, rfl, HQ.out⟩
    · have i0 : (L : Int) < (n : Int) := by omega
      have hno := take_no (n := n) H.out (by simp only [not_and]; intro _; rw [← hL]; exact hnl)
      have htk : (takeR (ws, false) n).1 = [] := by unfold takeR; rw [if_neg (by simp only [not_and]; intro _; rw [← hL]; exact hnl)]
      have HF := hid (And.intro htk hno)
      clear hno htk h1 h2 h4 h45 h5 h6 hL hnl
      go_enter Try.func25, Try.ntmps25
      go_wp2
      go_ret
      exact ⟨_, rfl, by rw [HF.out.1]; exact LsAt.nil, (fun g hg => by have h : (none : Option Nat) = some g := hg; cases h), HF.out.2⟩
theorem cut_step {w w2 : World} {R b o c L n : Nat} {ws : List Nat} (hL : L = ws.length) (hb2 : Blk w2 R 62 #[.slice (some ⟨b, o, none⟩) L c, .bool false]) (h45 : b < R) (h6 : ∀ i x, ws[i]? = some x → w.cell? ⟨b, o + i, none⟩ = some (wv x)) (hn2 : New w w2)
    (a' : Addr) (c' : Nat) (ha : a' = ⟨b, o + n, none⟩ ∧ L - n ≤ c' ∧ c' ≤ maxLen ∨ L - n = 0 ∧ a' = ⟨b, o, none⟩ ∧ c' = 0) : RStep w R (ws.drop n, false) (w2.setCell ⟨R, 0, none⟩ (.slice (some a') (L - n) c')) := by
  have h4 : b ≠ R := Nat.ne_of_lt h45
  have hld : (ws.drop n).length = L - n := by rw [List.length_drop, hL]
  have hk2 : Keeps (fun k => k = R) w2 (w2.setCell ⟨R, 0, none⟩ (.slice (some a') (L - n) c')) := Keeps.setCell (F := fun k => k = R) (Keeps.refl _ _) (.inr rfl) _
  refine ⟨?_, ((hn2.keeps _).trans hk2 fun i _ h => h)⟩
  have hb3 : Blk (w2.setCell ⟨R, 0, none⟩ (.slice (some a') (L - n) c')) R 62 #[.slice (some a') (L - n) c', .bool false] := by simpa using hb2.set 0 _
  rcases ha with ⟨rfl, hc1, hc2⟩ | ⟨h0, rfl, rfl⟩
  · refine ⟨b, o + n, c', by rw [show ((ws.drop n, false) : Rd).1.length = L - n from hld]; exact hb3, by rw [show ((ws.drop n, false) : Rd).1.length = L - n from hld]; exact hc1, hc2, h45, fun i x hx => ?_⟩
    have hx' : ws[n + i]? = some x := by rw [← List.getElem?_drop]; exact hx
    have := h6 (n + i) x hx'
    rw [← Nat.add_assoc] at this
    exact hk2.cell (hn2.cellK this) h4
  · refine ⟨b, o, 0, by rw [show ((ws.drop n, false) : Rd).1.length = L - n from hld]; exact hb3, by rw [show ((ws.drop n, false) : Rd).1.length = L - n from hld]; omega, Nat.zero_le _, h45, fun i x hx => ?_⟩
    have := (List.getElem?_eq_some_iff.1 hx).1
    rw [show ((ws.drop n, false) : Rd).1.length = L - n from hld] at this
    omega
/-- Every word fits. -/
def Lo (ws : List Nat) : Prop := ∀ x ∈ ws, x ≤ maskN
theorem take_mem {s : Rd} {n : Nat} {x : Nat} (hx : x ∈ (takeR s n).1) : x ∈ s.1 := by
  unfold takeR at hx
  split at hx
  · exact List.mem_of_mem_take hx
  · cases hx
set_option maxRecDepth 100000 in
set_option maxHeartbeats 4000000 in
theorem number_any (w : World) (R : Nat) (s : Rd) (h : RAt w R s) (hl : s.1.length ≤ 1000000) (hlo : Lo s.1) :
    Calls Try.prog 27 #[.pointer (some ⟨R, 0, none⟩)] w fun e w' => e = .returned (.int .i64 ((numR s).1 : Int)) ∧ RStep w R (numR s).2 w' := by
  have hT := take_any w R s 1 h hl (by omega)
  have HT := hid hT
  have HL := hid hlo
  clear hT hlo h hl
  go_enter Try.func27, Try.ntmps27
  go_wp2_with fail
  refine HT.out.mono ?_
  rintro e w2 ⟨v, rfl, hls, hne, hst⟩
  obtain ⟨l, hl⟩ : ∃ l, l = (takeR s 1).1 := ⟨_, rfl⟩
  rw [← hl] at hls
  obtain ⟨a, c, rfl, hlc, hcm, hcell⟩ := hls
  have hlen : l.length ≤ 1 := by
    rw [hl]
    unfold takeR
    split
    · rw [List.length_take]; omega
    · simp
  cases hl2 : l with
  | nil =>
    subst hl2
    have hz : (numR s).1 = 0 := by unfold numR; rw [← hl]; rfl
    have HF := hid (And.intro hz hst)
    clear hst hne hlc hcell hl hz hlen
    go_wp2
    go_ret
    exact ⟨by rw [HF.out.1]; rfl, HF.out.2⟩
  | cons x r =>
    subst hl2
    obtain rfl : r = [] := by
      simp only [List.length_cons] at hlen
      exact List.eq_nil_of_length_eq_zero (by omega)
    obtain ⟨b, o, rfl, hb, hc⟩ := hcell (by simp)
    have c0 : w2.cell? ⟨b, o, none⟩ = some (.int .u64 (x : Int)) := hc 0 x rfl 0 _ rfl
    have hx : (numR s).1 = x := by unfold numR; rw [← hl]; rfl
    have hxm : x ≤ maskN := HL.out x (take_mem (n := 1) (by rw [← hl]; simp))
    unfold maskN at hxm
    have i0 : IntKind.i64.wrap (x : Int) = x := by rw [IntKind.wrap_i64]; omega
    have HF := hid (And.intro hx hst)
    clear hst hne hlc hcell hl hx hlen hc
    go_wp2
    go_ret
    exact ⟨by rw [HF.out.1]; rfl, HF.out.2⟩
theorem text_no {w w2 : World} {R : Nat} {s : Rd} (h : RAt w R s) (hn : ¬ (s.2 = false ∧ RdOk s.1)) (hw : New w w2) : RStep w R (textR s).2 (w2.setCell ⟨R, 1, none⟩ (.bool true)) := by
  obtain ⟨b, o, c, h1, h2, h3, h45, h6⟩ := h.new_ hw
  have h4 : b ≠ R := Nat.ne_of_lt h45
  unfold textR
  rw [if_neg hn]
  have hk : Keeps (fun k => k = R) w2 (w2.setCell ⟨R, 1, none⟩ (.bool true)) := Keeps.setCell (F := fun k => k = R) (Keeps.refl _ _) (.inr rfl) _
  refine ⟨⟨b, o, c, by simpa using h1.set 1 (.bool true), h2, h3, h45, fun i x hx => hk.cell (h6 i x hx) h4⟩, ((hw.keeps _).trans hk fun i _ h => h)⟩
set_option maxRecDepth 100000 in
set_option maxHeartbeats 4000000 in
theorem rtext_any (w : World) (R : Nat) (s : Rd) (h : RAt w R s) (hl : s.1.length ≤ 1000000) (hlo : Lo s.1) :
    Calls Try.prog 26 #[.pointer (some ⟨R, 0, none⟩)] w fun e w' => e = .returned (st (textR s).1) ∧ RStep w R (textR s).2 w' := by
  have H := hid h
  obtain ⟨b, o, c, h1, h2, h3, h45, h6⟩ := h
  have h4 : b ≠ R := Nat.ne_of_lt h45
  have h5 : b < w.heap.size := Nat.lt_trans h45 h1.lt
  obtain ⟨ws, bad⟩ := s
  obtain ⟨L, hL⟩ : ∃ L, L = ws.length := ⟨_, rfl⟩
  simp only at h1 h2 hl
  have hws : WsAt w (.slice (some ⟨b, o, none⟩) ws.length c) ws := ⟨_, c, rfl, fun h0 => ⟨b, o, rfl, h5, fun i hi => by
    have := h6 i _ (List.getElem?_eq_getElem hi)
    rw [this, List.getD_eq_getElem?_getD, List.getElem?_eq_getElem hi]
    rfl⟩⟩
  have hbnd : ∀ i, ws.getD i 0 < 18446744073709551616 := fun i => by
    rw [List.getD_eq_getElem?_getD]
    cases hx : ws[i]? with
    | none => decide
    | some x =>
      have := hlo x (List.mem_of_getElem? hx)
      unfold maskN at this
      show x < _
      omega
  rw [← hL] at h1 h2 hl
  have d0 : w.cell? ⟨R, 0, none⟩ = some (.slice (some ⟨b, o, none⟩) L c) := by rw [h1.cell]; rfl
  have d1 : w.cell? ⟨R, 1, none⟩ = some (.bool bad) := by rw [h1.cell]; rfl
  unfold maxLen at h3
  by_cases hok : bad = false ∧ RdOk ws
  · obtain ⟨rfl, hrd⟩ := hok
    obtain ⟨n, hn⟩ : ∃ n, n = 1 + nW (rdN ws) := ⟨_, rfl⟩
    have hnL : n ≤ L := by rw [hn, hL]; exact hrd.2.2.1
    have htx : textR (ws, false) = (rdL ws, ws.drop n, false) := by unfold textR; rw [if_pos ⟨rfl, hrd⟩, hn]
    have hR := Letters.Read_yes w _ ws hws hbnd (by rw [← hL]; exact hl) hrd
    unfold Letters.readV at hR
    rw [← hn, ← hL] at hR
    have HR := hid hR
    have HX := hid (And.intro h1 (And.intro h45 (And.intro h5 (And.intro h6 (And.intro hL htx)))))
    have i1 : (0 : Int) ≤ (n : Int) := by omega
    have i3 : (n : Int) ≤ (L : Int) := by omega
    have i4 : (L : Int) ≤ (c : Int) := by omega
    clear h1 h4 h45 h5 h6 hR hws hbnd hn hrd hL htx H
    go_enter Try.func26, Try.ntmps26
    go_wp2_with fail
    refine HR.out.mono ?_
    rintro e w2 ⟨rfl, hn2⟩
    have e0 := hn2.cellK d0
    have e1 := hn2.cellK d1
    have hb2 := HX.out.1.new_ hn2
    have f0 : w2.frozen? ⟨R, 0, none⟩ = false := hb2.frozen 0
    have FIN := hid (fun a' c' => cut_step (w := w) (n := n) HX.out.2.2.2.2.1 hb2 HX.out.2.1 HX.out.2.2.2.1 hn2 a' c')
    clear hn2 hb2
    by_cases hcn : c = n
    · have hz : L - n = 0 := by omega
      have hq := FIN.out ⟨b, o, none⟩ 0 (.inr ⟨hz, rfl, rfl⟩)
      rw [hz] at hq
      have HQ := hid hq
      clear hq hz
      subst hcn
      go_wp2
      go_ret
      rw [HX.out.2.2.2.2.2]
      exact ⟨rfl, HQ.out⟩
    · have hq := FIN.out ⟨b, o + n, none⟩ (c - n) (.inl ⟨rfl, by omega, by unfold maxLen; omega⟩)
      have HQ := hid hq
      clear hq
      go_wp2
      go_ret
      rw [HX.out.2.2.2.2.2]
      exact ⟨rfl, HQ.out⟩
  · have htx : (textR (ws, bad)).1 = [] := by unfold textR; rw [if_neg hok]
    have HN := hid (fun w2 (hw : New w w2) => text_no H.out hok hw)
    have HX := hid (And.intro h1 htx)
    by_cases hrd : RdOk ws
    · have hb : bad = true := by
        cases bad
        · exact absurd ⟨rfl, hrd⟩ hok
        · rfl
      subst hb
      have hR := Letters.Read_yes w _ ws hws hbnd (by rw [← hL]; exact hl) hrd
      unfold Letters.readV at hR
      rw [← hL] at hR
      have HR := hid hR
      clear h1 h4 h45 h5 h6 hR hws hbnd hrd hL htx H hok
      go_enter Try.func26, Try.ntmps26
      go_wp2_with fail
      refine HR.out.mono ?_
      rintro e w2 ⟨rfl, hn2⟩
      have e1 := hn2.cellK d1
      have f1 : w2.frozen? ⟨R, 1, none⟩ = false := (HX.out.1.new_ hn2).frozen 1
      have HF := hid (HN.out w2 hn2)
      clear hn2
      go_wp2
      go_ret
      exact ⟨by rw [HX.out.2]; rfl, HF.out⟩
    · have hR := Letters.Read_no w _ ws hws hbnd (by rw [← hL]; exact hl) hrd
      unfold Letters.noV at hR
      rw [← hL] at hR
      have HR := hid hR
      clear h1 h4 h45 h5 h6 hR hws hbnd hrd hL htx H hok
      go_enter Try.func26, Try.ntmps26
      go_wp2_with fail
      refine HR.out.mono ?_
      rintro e w2 ⟨rfl, hn2⟩
      have e1 := hn2.cellK d1
      have f1 : w2.frozen? ⟨R, 1, none⟩ = false := (HX.out.1.new_ hn2).frozen 1
      have HF := hid (HN.out w2 hn2)
      clear hn2
      cases bad <;>
      · go_wp2
        go_ret
        exact ⟨by rw [HX.out.2]; rfl, HF.out⟩
end Go.Proofs.Ytnoahdobgndmnaa.Obj
