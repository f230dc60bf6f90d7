/- An object's words are read as the object: plain. -/
import Derived.Test.YtnoahdobgndmnaaObjP
namespace Go.Proofs.Ytnoahdobgndmnaa.Obj
open Go Go.RowKit Go.Maps Go.Proofs.Ytnoahdobgndmnaa.Kit Go.Proofs.Ytnoahdobgndmnaa.Str Go.Proofs.Ytnoahdobgndmnaa.Names Go.Proofs.Ytnoahdobgndmnaa.Let Go.Proofs.Ytnoahdobgndmnaa.Wd
set_option linter.unusedSimpArgs false
set_option linter.unusedVariables false
theorem takeR_enc (l r : List Nat) : takeR (l ++ r, false) l.length = (l, r, false) := by
  unfold takeR
  rw [if_pos ⟨rfl, by simp⟩]
  simp
theorem numR_enc (x : Nat) (r : List Nat) : numR (x :: r, false) = (x, r, false) := by
  have := takeR_enc [x] r
  unfold numR
  rw [show takeR (x :: r, false) 1 = ([x], r, false) from this]
  rfl
theorem textR_enc {l : List UInt8} (hl : l.length ≤ 255) (r : List Nat) : textR (enc l ++ r, false) = (l, r, false) := by
  obtain ⟨h1, h2⟩ := rdOk_enc l hl r
  have h3 : rdN (enc l ++ r) = l.length := by rw [← rdL_len, h2]
  unfold textR
  rw [if_pos ⟨rfl, h1⟩]
  show (rdL (enc l ++ r), (enc l ++ r).drop (1 + nW (rdN (enc l ++ r))), false) = _
  rw [h2, h3, ← Go.Proofs.Ytnoahdobgndmnaa.Let.enc_len, List.drop_left' rfl]
theorem defsR_enc {ds : List Df} (hd : ∀ d ∈ ds, d.1.length ≤ 255 ∧ 0 ≤ d.2) (r : List Nat) : ∀ k, k ≤ ds.length → defsR k (ds.flatMap encD ++ r, false) = (ds.take k, (ds.drop k).flatMap encD ++ r, false)
  | 0, _ => by simp [defsR]
  | k + 1, hk => by
    have hk' : k < ds.length := by omega
    have hx : ds[k]? = some ds[k] := List.getElem?_eq_getElem hk'
    have hm := hd _ (List.getElem_mem hk')
    have h1 := defsR_enc hd r k (by omega)
    have h2 : textR ((ds.drop k).flatMap encD ++ r, false) = (ds[k].1, ds[k].2.toNat :: ((ds.drop (k + 1)).flatMap encD ++ r), false) := by
      rw [List.drop_eq_getElem_cons hk', List.flatMap_cons]
      unfold encD
      rw [List.append_assoc, List.append_assoc]
      exact textR_enc hm.1 _
    have h3 := numR_enc ds[k].2.toNat ((ds.drop (k + 1)).flatMap encD ++ r)
    rw [defsR_succ h1 h2 h3, take_snoc hx]
    congr 3
    exact Prod.ext rfl (by show ((ds[k].2.toNat : Nat) : Int) = ds[k].2; omega)
theorem linksR_enc {ds : List Lk} (hd : ∀ d ∈ ds, d.1.length ≤ 255 ∧ d.2.1.length ≤ 255 ∧ 0 ≤ d.2.2) (r : List Nat) : ∀ k, k ≤ ds.length → linksR k (ds.flatMap encL ++ r, false) = (ds.take k, (ds.drop k).flatMap encL ++ r, false)
  | 0, _ => by simp [linksR]
  | k + 1, hk => by
    have hk' : k < ds.length := by omega
    have hx : ds[k]? = some ds[k] := List.getElem?_eq_getElem hk'
    have hm := hd _ (List.getElem_mem hk')
    have h1 := linksR_enc hd r k (by omega)
    have h2 : textR ((ds.drop k).flatMap encL ++ r, false) = (ds[k].1, enc ds[k].2.1 ++ (ds[k].2.2.toNat :: ((ds.drop (k + 1)).flatMap encL ++ r)), false) := by
      rw [List.drop_eq_getElem_cons hk', List.flatMap_cons]
      unfold encL
      rw [List.append_assoc, List.append_assoc, List.append_assoc]
      exact textR_enc hm.1 _
    have h4 := textR_enc hm.2.1 (ds[k].2.2.toNat :: ((ds.drop (k + 1)).flatMap encL ++ r))
    have h3 := numR_enc ds[k].2.2.toNat ((ds.drop (k + 1)).flatMap encL ++ r)
    rw [linksR_succ h1 h2 h4 h3, take_snoc hx]
    congr 3
    exact Prod.ext rfl (Prod.ext rfl (by show ((ds[k].2.2.toNat : Nat) : Int) = ds[k].2.2; omega))
theorem enc_reads {O : Ob} (h : mayB O = true) : Reads (encO O) ∧ theO (encO O) = O := by
  have hm := h
  unfold mayB at hm
  rw [Bool.and_eq_true, decide_eq_true_eq] at hm
  have hf := (fits_iff O).1 hm.1
  have hid : mk (encO O) = encO O := mk_id (enc_lo hf)
  obtain ⟨P, hP⟩ : ∃ P, P = O.text ++ (O.static ++ (O.defs.flatMap encD ++ (O.links.flatMap encL ++ []))) := ⟨_, rfl⟩
  have he : encO O = P ++ tl O := by rw [hP]; unfold encO; simp only [List.append_assoc, List.append_nil, List.nil_append]
  have hl : (encO O).length = P.length + 5 := by rw [he, List.length_append]; rfl
  have h5 : 5 ≤ (encO O).length := by omega
  have hd := drop_five h5
  have hdrop : (encO O).drop P.length = tl O := by rw [he, List.drop_left' rfl]
  rw [hid, hl, Nat.add_sub_cancel, hdrop] at hd
  unfold tl at hd
  simp only [List.cons.injEq, and_true] at hd
  obtain ⟨d0, d1, d2, d3, d4⟩ := hd
  have ht : (mk (encO O)).take ((encO O).length - 5) = P := by rw [hid, hl, Nat.add_sub_cancel, he, List.take_left' rfl]
  have e1 : takeR (P, false) O.text.length = (O.text, O.static ++ (O.defs.flatMap encD ++ (O.links.flatMap encL ++ [])), false) := by rw [hP]; exact takeR_enc _ _
  have e2 := takeR_enc O.static (O.defs.flatMap encD ++ (O.links.flatMap encL ++ []))
  have e3 := defsR_enc hf.defs_ok (O.links.flatMap encL ++ []) O.defs.length (Nat.le_refl _)
  have e4 := linksR_enc hf.links_ok [] O.links.length (Nat.le_refl _)
  rw [List.take_length, List.drop_length, List.flatMap_nil, List.nil_append] at e3 e4
  have hO : theO (encO O) = O := by
    unfold theO
    rw [ht, ← d0, ← d1, ← d2, ← d3]
    unfold readO
    simp only
    rw [e1, e2, e3, e4]
  have hE : theE (encO O) = ([], false) := by
    unfold theE
    rw [ht, ← d0, ← d1, ← d2, ← d3]
    unfold readE
    rw [e1, e2, e3, e4]
  have t1 := hf.text
  have t2 := hf.static
  have t3 := hf.ndefs
  have t4 := hf.nlinks
  exact ⟨⟨⟨h5, hm.2, d4.symm, by omega, by omega, by omega, by omega⟩, by rw [hE], by rw [hE], by rw [hO]; exact h⟩, hO⟩
end Go.Proofs.Ytnoahdobgndmnaa.Obj
