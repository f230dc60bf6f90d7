/- What Read gives has the words that it was read from: plain. -/
import Derived.Test.YtnoahdobgndmnaaObjO
namespace Go.Proofs.Ytnoahdobgndmnaa.Obj
open Go Go.RowKit Go.Maps Go.Proofs.Ytnoahdobgndmnaa.Kit Go.Proofs.Ytnoahdobgndmnaa.Str Go.Proofs.Ytnoahdobgndmnaa.Names Go.Proofs.Ytnoahdobgndmnaa.Let Go.Proofs.Ytnoahdobgndmnaa.Wd
open Go.Proofs.Ytnoahdobgndmnaa.Letters (wv WsAt word_info)
set_option linter.unusedSimpArgs false
set_option linter.unusedVariables false
theorem takeR_app {s : Rd} {n : Nat} (h : (takeR s n).2.2 = false) : s.2 = false ∧ s.1 = (takeR s n).1 ++ (takeR s n).2.1 ∧ (takeR s n).1.length = n := by
  unfold takeR at h ⊢
  by_cases hc : s.2 = false ∧ n ≤ s.1.length
  · rw [if_pos hc] at h ⊢
    refine ⟨hc.1, (List.take_append_drop n s.1).symm, ?_⟩
    show (s.1.take n).length = n
    rw [List.length_take]
    omega
  · rw [if_neg hc] at h
    cases h
theorem numR_app {s : Rd} (h : (numR s).2.2 = false) : s.2 = false ∧ s.1 = [(numR s).1] ++ (numR s).2.1 := by
  obtain ⟨h1, h2, h3⟩ := takeR_app (n := 1) h
  refine ⟨h1, ?_⟩
  have : (takeR s 1).1 = [(numR s).1] := by
    unfold numR
    obtain ⟨x, hx⟩ := List.length_eq_one_iff.1 h3
    rw [hx]
    rfl
  rw [← this]
  exact h2
theorem textR_app {s : Rd} (hlo : Lo s.1) (h : (textR s).2.2 = false) : s.2 = false ∧ s.1 = enc (textR s).1 ++ (textR s).2.1 := by
  unfold textR at h ⊢
  by_cases hc : s.2 = false ∧ RdOk s.1
  · rw [if_pos hc] at h ⊢
    refine ⟨hc.1, ?_⟩
    have hok := hc.2
    have hg : ∀ i, i < s.1.length → s.1.getD i 0 % 68719476736 = s.1.getD i 0 := fun i hi => by
      have := hlo (s.1.getD i 0) (by rw [List.getD_eq_getElem?_getD, List.getElem?_eq_getElem hi]; exact List.getElem_mem hi)
      unfold maskN at this
      omega
    have e : enc (rdL s.1) = s.1.take (1 + nW (rdN s.1)) := by
      apply List.ext_getElem?
      intro i
      by_cases hi : i < 1 + nW (rdN s.1)
      · rw [List.getElem?_take_of_lt hi]
        have hil : i < s.1.length := by have := hok.2.2.1; omega
        cases i with
        | zero =>
          have h0 := hg 0 hil
          have : s.1[0]? = some (s.1.getD 0 0) := by rw [List.getD_eq_getElem?_getD, List.getElem?_eq_getElem hil]; rfl
          rw [this]
          show some (rdL s.1).length = _
          rw [rdL_len]
          unfold rdN
          rw [h0]
        | succ k =>
          have hk : k < nW (rdN s.1) := by omega
          have hkl : k < nW (rdL s.1).length := by rw [rdL_len]; exact hk
          have h0 := hg (1 + k) (by omega)
          have h1 := rdL_wd hok hk
          rw [h0] at h1
          have : s.1[k + 1]? = some (s.1.getD (1 + k) 0) := by rw [Nat.add_comm 1 k, List.getD_eq_getElem?_getD, List.getElem?_eq_getElem hil]; rfl
          rw [this, ← h1]
          unfold enc
          rw [List.getElem?_cons_succ, List.getElem?_map, List.getElem?_range hkl]
          rfl
      · rw [List.getElem?_eq_none (by rw [Go.Proofs.Ytnoahdobgndmnaa.Let.enc_len, rdL_len]; omega), List.getElem?_eq_none (by rw [List.length_take]; omega)]
    show s.1 = enc (rdL s.1) ++ s.1.drop (1 + nW (rdN s.1))
    rw [e, List.take_append_drop]
  · rw [if_neg hc] at h
    cases h
theorem defsR_app : ∀ (k : Nat) {s : Rd}, Lo s.1 → (defsR k s).2.2 = false → s.2 = false ∧ s.1 = (defsR k s).1.flatMap encD ++ (defsR k s).2.1
  | 0, s, _, h => ⟨h, rfl⟩
  | k + 1, s, hlo, h => by
    rw [defsR] at h ⊢
    simp only at h ⊢
    obtain ⟨h1, h2⟩ := numR_app h
    obtain ⟨h3, h4⟩ := textR_app (hlo.suf (defsR_suf k s)) h1
    obtain ⟨h5, h6⟩ := defsR_app k hlo h3
    refine ⟨h5, ?_⟩
    rw [List.flatMap_append, List.append_assoc]
    refine h6.trans ?_
    congr 1
    refine h4.trans ?_
    rw [List.flatMap_cons, List.flatMap_nil, List.append_nil]
    unfold encD
    rw [List.append_assoc]
    congr 1
theorem linksR_app : ∀ (k : Nat) {s : Rd}, Lo s.1 → (linksR k s).2.2 = false → s.2 = false ∧ s.1 = (linksR k s).1.flatMap encL ++ (linksR k s).2.1
  | 0, s, _, h => ⟨h, rfl⟩
  | k + 1, s, hlo, h => by
    rw [linksR] at h ⊢
    simp only at h ⊢
    obtain ⟨h1, h2⟩ := numR_app h
    have l1 := hlo.suf (linksR_suf k s)
    obtain ⟨h3, h4⟩ := textR_app (l1.suf (textR_suf _)) h1
    obtain ⟨h7, h8⟩ := textR_app l1 h3
    obtain ⟨h5, h6⟩ := linksR_app k hlo h7
    refine ⟨h5, ?_⟩
    rw [List.flatMap_append, List.append_assoc]
    refine h6.trans ?_
    congr 1
    refine h8.trans ?_
    rw [List.flatMap_cons, List.flatMap_nil, List.append_nil]
    unfold encL
    rw [List.append_assoc, List.append_assoc]
    congr 1
    refine h4.trans ?_
    congr 1
theorem mk_len (ws : List Nat) : (mk ws).length = ws.length := by unfold mk; rw [List.length_map]
theorem drop_five {ws : List Nat} (h : 5 ≤ ws.length) : (mk ws).drop (ws.length - 5) = [mm ws 0, mm ws 1, mm ws 2, mm ws 3, mm ws 4] := by
  have hl := mk_len ws
  apply List.ext_getElem?
  intro i
  rw [List.getElem?_drop]
  by_cases hi : i < 5
  · have hlt : ws.length - 5 + i < (mk ws).length := by omega
    have : (mk ws)[ws.length - 5 + i]? = some (mm ws i) := by
      unfold mm
      rw [List.getD_eq_getElem?_getD, List.getElem?_eq_getElem hlt]
      rfl
    rw [this]
    rcases (show i = 0 ∨ i = 1 ∨ i = 2 ∨ i = 3 ∨ i = 4 by omega) with rfl | rfl | rfl | rfl | rfl <;> rfl
  · rw [List.getElem?_eq_none (by omega), List.getElem?_eq_none (by simp; omega)]
/-- What was read has these words. -/
theorem reads_enc {ws : List Nat} (h : Reads ws) : encO (theO ws) = mk ws := by
  obtain ⟨⟨h5, h10, hm, _⟩, hb, hn, hmay⟩ := h
  have hlo : Lo ((mk ws).take (ws.length - 5)) := fun x hx => mk_lo ws x (List.mem_of_mem_take hx)
  unfold theE readE at hb hn
  have hloD := (hlo.suf (takeR_suf (((mk ws).take (ws.length - 5), false) : Rd) (mm ws 0)))
  have hloS := hloD.suf (takeR_suf _ (mm ws 1))
  have hloL := hloS.suf (defsR_suf (mm ws 2) _)
  obtain ⟨a1, a2⟩ := linksR_app (mm ws 3) hloL hb
  obtain ⟨b1, b2⟩ := defsR_app (mm ws 2) hloS a1
  obtain ⟨c1, c2, c3⟩ := takeR_app b1
  obtain ⟨d1, d2, d3⟩ := takeR_app c1
  rw [hn, List.append_nil] at a2
  have hall : (mk ws).take (ws.length - 5) = (theO ws).text ++ ((theO ws).static ++ ((theO ws).defs.flatMap encD ++ (theO ws).links.flatMap encL)) := by
    unfold theO readO
    simp only
    rw [← a2, ← b2, ← c2]
    exact d2
  have htl : tl (theO ws) = [mm ws 0, mm ws 1, mm ws 2, mm ws 3, mm ws 4] := by
    unfold tl
    rw [hm]
    unfold theO readO
    simp only
    rw [d3, c3, defsR_len, linksR_len]
  unfold encO
  rw [htl, ← drop_five h5]
  simp only [List.append_assoc]
  have := List.take_append_drop (ws.length - 5) (mk ws)
  rw [hall] at this
  simp only [List.append_assoc] at this
  exact this
theorem mk_id {ws : List Nat} (h : Lo ws) : mk ws = ws := by
  unfold mk
  have : ws.map mask = ws.map id := List.map_congr_left fun x hx => by
    have := h x hx
    unfold maskN at this
    unfold mask
    show _ = x
    omega
  rw [this, List.map_id]
/-- An object's words fit. -/
theorem enc_lo {O : Ob} (h : Fit O) : Lo (encO O) := by
  intro x hx
  unfold encO at hx
  have hw : ∀ l, wholeB l = true → ∀ x ∈ l, x ≤ maskN := fun l hl x hx => by
    unfold wholeB at hl
    exact of_decide_eq_true (List.all_eq_true.1 hl x hx)
  have he : ∀ l : List UInt8, l.length ≤ 255 → ∀ x ∈ enc l, x ≤ maskN := fun l hl x hx => by
    unfold enc at hx
    rcases List.mem_cons.1 hx with rfl | hx
    · unfold maskN; omega
    · obtain ⟨k, _, rfl⟩ := List.mem_map.1 hx
      have := wd_lt l k
      unfold maskN
      omega
  have t1 := h.text
  have t2 := h.static
  have t3 := h.ndefs
  have t4 := h.nlinks
  rcases List.mem_append.1 hx with hx | hx
  · rcases List.mem_append.1 hx with hx | hx
    · rcases List.mem_append.1 hx with hx | hx
      · rcases List.mem_append.1 hx with hx | hx
        · exact hw _ h.wtext x hx
        · exact hw _ h.wstatic x hx
      · obtain ⟨d, hd, hx⟩ := List.mem_flatMap.1 hx
        unfold encD at hx
        rcases List.mem_append.1 hx with hx | hx
        · exact he _ (h.defs_ok d hd).1 x hx
        · have := h.defs d hd
          rw [List.mem_singleton.1 hx]
          unfold maskN
          omega
    · obtain ⟨d, hd, hx⟩ := List.mem_flatMap.1 hx
      unfold encL at hx
      rcases List.mem_append.1 hx with hx | hx
      · rcases List.mem_append.1 hx with hx | hx
        · exact he _ (h.links_ok d hd).1 x hx
        · exact he _ (h.links_ok d hd).2.1 x hx
      · have := h.links d hd
        rw [List.mem_singleton.1 hx]
        unfold maskN
        omega
  · unfold tl magic at hx
    simp only [List.mem_cons, List.not_mem_nil, or_false] at hx
    unfold maskN
    omega
end Go.Proofs.Ytnoahdobgndmnaa.Obj
