/- The reference's reader: plain laws about what it reads. -/
import Derived.Test.YtnoahdobgndmnaaRefM
import Derived.Test.YtnoahdobgndmnaaObjW
namespace Go.Proofs.Ytnoahdobgndmnaa.Obj
open Go Go.RowKit Go.Maps Go.Proofs.Ytnoahdobgndmnaa.Kit Go.Proofs.Ytnoahdobgndmnaa.Str Go.Proofs.Ytnoahdobgndmnaa.Names Go.Proofs.Ytnoahdobgndmnaa.Let Go.Proofs.Ytnoahdobgndmnaa.Wd
open Go.Proofs.Ytnoahdobgndmnaa.Letters (wv)
set_option linter.unusedSimpArgs false
set_option linter.unusedVariables false
def bodyO (O : Ob) : List Nat := O.text ++ (O.static ++ (O.defs.flatMap encD ++ O.links.flatMap encL))
theorem encO_body (O : Ob) : encO O = bodyO O ++ tl O := by unfold encO bodyO; simp only [List.append_assoc]
/-- What stands at the end of an object's words. -/
theorem hd_of {O : Ob} {ws : List Nat} (h : encO O = ws) : ws.length = (bodyO O).length + 5 ∧ (∀ i, ws[(bodyO O).length + i]? = (tl O)[i]?) ∧ ws.take (bodyO O).length = bodyO O := by
  rw [encO_body] at h
  subst h
  refine ⟨by rw [List.length_append]; rfl, fun i => by rw [List.getElem?_append_right (by omega), Nat.add_sub_cancel_left], by rw [List.take_left']; rfl⟩
theorem hd_tl {O : Ob} {ws : List Nat} (h : encO O = ws) : 5 ≤ ws.length ∧ ws[ws.length - 1]? = some magic ∧ ws[ws.length - 5]? = some O.text.length ∧ ws[ws.length - 5 + 1]? = some O.static.length ∧ ws[ws.length - 5 + 2]? = some O.defs.length ∧ ws[ws.length - 5 + 3]? = some O.links.length ∧ ws.take (ws.length - 5) = bodyO O ∧ O.text.length + O.static.length + 5 ≤ ws.length := by
  obtain ⟨h1, h2, h3⟩ := hd_of h
  have e : ws.length - 5 = (bodyO O).length := by omega
  have hb : O.text.length + O.static.length ≤ (bodyO O).length := by unfold bodyO; simp only [List.length_append]; omega
  refine ⟨by omega, ?_, ?_, ?_, ?_, ?_, by rw [e]; exact h3, by omega⟩
  · rw [show ws.length - 1 = (bodyO O).length + 4 by omega, h2]; rfl
  · rw [e]; have := h2 0; rw [Nat.add_zero] at this; rw [this]; rfl
  · rw [e, h2]; rfl
  · rw [e, h2]; rfl
  · rw [e, h2]; rfl
/-- A number that stands next. -/
theorem numQ_next {ws : List Nat} {at_ x : Nat} {more : List Nat} (h : ws.drop at_ = x :: more) (hx : x ≤ 262143) : numQ ws at_ false = (x, at_ + 1, false) := by
  have e : ws[at_]? = some x := by
    have : (ws.drop at_)[0]? = some x := by rw [h]; rfl
    rw [List.getElem?_drop, Nat.add_zero] at this
    exact this
  have hl := (List.getElem?_eq_some_iff.1 e).1
  have hw : wordQ ws at_ false = (x, at_ + 1, false) := by
    unfold wordQ
    rw [if_pos ⟨rfl, hl⟩, List.getD_eq_getElem?_getD, e]
    rfl
  unfold numQ
  rw [hw]
  simp only [Bool.false_or]
  rw [Nat.mod_eq_of_lt (by omega), decide_eq_false (by omega)]
theorem drop_more {ws a b : List Nat} {at_ : Nat} (h : ws.drop at_ = a ++ b) : ws.drop (at_ + a.length) = b := by
  rw [← List.drop_drop, h, List.drop_left']
  rfl
/-- Where the reader stands behind k definitions. -/
def posD (O : Ob) (k : Nat) : Nat := O.text.length + O.static.length + ((O.defs.take k).flatMap encD).length
def posL (O : Ob) (k : Nat) : Nat := O.text.length + O.static.length + (O.defs.flatMap encD).length + ((O.links.take k).flatMap encL).length
theorem posD_drop {O : Ob} {k : Nat} (h : k ≤ O.defs.length) : (bodyO O).drop (posD O k) = (O.defs.drop k).flatMap encD ++ O.links.flatMap encL := by
  have e : bodyO O = (O.text ++ O.static ++ (O.defs.take k).flatMap encD) ++ ((O.defs.drop k).flatMap encD ++ O.links.flatMap encL) := by
    unfold bodyO
    conv => lhs; rw [← List.take_append_drop k O.defs]
    rw [List.flatMap_append]
    simp only [List.append_assoc]
  rw [e, List.drop_left']
  unfold posD
  simp only [List.length_append]
theorem posL_drop {O : Ob} {k : Nat} : (bodyO O).drop (posL O k) = (O.links.drop k).flatMap encL := by
  have e : bodyO O = (O.text ++ O.static ++ O.defs.flatMap encD ++ (O.links.take k).flatMap encL) ++ (O.links.drop k).flatMap encL := by
    unfold bodyO
    conv => lhs; rw [← List.take_append_drop k O.links]
    rw [List.flatMap_append]
    simp only [List.append_assoc]
  rw [e, List.drop_left']
  unfold posL
  simp only [List.length_append]
theorem posD_end (O : Ob) : posD O O.defs.length = posL O 0 := by unfold posD posL; rw [List.take_length]; simp
theorem posL_end (O : Ob) : posL O O.links.length = (bodyO O).length := by unfold posL bodyO; rw [List.take_length]; simp only [List.length_append]; omega
theorem posD_succ {O : Ob} {k : Nat} {d : Df} (h : O.defs[k]? = some d) : posD O (k + 1) = posD O k + (enc d.1).length + 1 := by
  unfold posD
  rw [take_snoc h, List.flatMap_append]
  simp only [List.length_append, List.flatMap_cons, List.flatMap_nil, List.append_nil, encD, List.length_singleton]
  omega
theorem posL_succ {O : Ob} {k : Nat} {x : Lk} (h : O.links[k]? = some x) : posL O (k + 1) = posL O k + (enc x.1).length + (enc x.2.1).length + 1 := by
  unfold posL
  rw [take_snoc h, List.flatMap_append]
  simp only [List.length_append, List.flatMap_cons, List.flatMap_nil, List.append_nil, encL, List.length_singleton]
  omega
theorem drop_cons {α : Type} {l : List α} {k : Nat} {x : α} (h : l[k]? = some x) : l.drop k = x :: l.drop (k + 1) := by
  obtain ⟨hk, rfl⟩ := List.getElem?_eq_some_iff.1 h
  exact List.drop_eq_getElem_cons hk
/-- What the reader has read of an object's definitions. -/
def DefsOk (ws5 : List Nat) (O : Ob) (k : Nat) (ds : List Df) (at_ : Nat) (bad : Bool) : Prop := ds = O.defs.take k ∧ at_ = posD O k ∧ bad = false
def LinksOk (ws5 : List Nat) (O : Ob) (k : Nat) (ls : List Lk) (at_ : Nat) (bad : Bool) : Prop := ls = O.links.take k ∧ at_ = posL O k ∧ bad = false
theorem defs_can {O : Ob} (hf : Fit O) {k : Nat} {d : Df} (hd : O.defs[k]? = some d) {at_ : Nat} {bad : Bool} (ha : at_ = posD O k) (hb : bad = false) :
    Can (bodyO O) at_ bad d.1 ∧ numQ (bodyO O) (at_ + (enc d.1).length) false = (d.2.toNat, posD O (k + 1), false) ∧ d = (d.1, (d.2.toNat : Int)) := by
  have hlt := (List.getElem?_eq_some_iff.1 hd).1
  obtain ⟨h1, h2, h3⟩ := hf.defs d (List.mem_of_getElem? hd)
  have hl := (signsB_len h1).2
  have ht := hf.text
  have hdr := posD_drop (O := O) (k := k) (Nat.le_of_lt hlt)
  rw [drop_cons hd, List.flatMap_cons] at hdr
  have e1 : (bodyO O).drop at_ = enc d.1 ++ (d.2.toNat :: ((O.defs.drop (k + 1)).flatMap encD ++ O.links.flatMap encL)) := by
    rw [ha, hdr]
    unfold encD
    simp only [List.append_assoc, List.cons_append, List.nil_append]
  refine ⟨⟨hb, by omega, _, e1⟩, ?_, ?_⟩
  · have := numQ_next (drop_more e1) (by omega)
    rw [this, posD_succ hd, ha]
  · exact Prod.ext rfl (by show d.2 = (d.2.toNat : Int); omega)
theorem links_can {O : Ob} (hf : Fit O) {k : Nat} {x : Lk} (hd : O.links[k]? = some x) {at_ : Nat} {bad : Bool} (ha : at_ = posL O k) (hb : bad = false) :
    Can (bodyO O) at_ bad x.1 ∧ Can (bodyO O) (at_ + (enc x.1).length) false x.2.1 ∧ numQ (bodyO O) (at_ + (enc x.1).length + (enc x.2.1).length) false = (x.2.2.toNat, posL O (k + 1), false) ∧ x = (x.1, x.2.1, (x.2.2.toNat : Int)) := by
  obtain ⟨h0, h1, h2, h3⟩ := hf.links x (List.mem_of_getElem? hd)
  have hl := (signsB_len h1).2
  have hl0 : x.1.length ≤ 32 := by
    rcases h0 with e | e
    · rw [e]; simp
    · exact (signsB_len e).2
  have hdr := posL_drop (O := O) (k := k)
  rw [drop_cons hd, List.flatMap_cons] at hdr
  have e1 : (bodyO O).drop at_ = enc x.1 ++ (enc x.2.1 ++ (x.2.2.toNat :: ((O.links.drop (k + 1)).flatMap encL))) := by
    rw [ha, hdr]
    unfold encL
    simp only [List.append_assoc, List.cons_append, List.nil_append]
  have e2 := drop_more e1
  refine ⟨⟨hb, by omega, _, e1⟩, ⟨rfl, by omega, _, e2⟩, ?_, ?_⟩
  · have := numQ_next (drop_more e2) (by omega)
    rw [this, posL_succ hd, ha]
  · exact Prod.ext rfl (Prod.ext rfl (by show x.2.2 = (x.2.2.toNat : Int); omega))
/-- What read leaves. -/
def QPost (w : World) (ws : List Nat) (e : Ending) (w' : World) : Prop :=
  ∃ (x1 : Option Addr) (n1 y1 : Nat) (x2 : Option Addr) (n2 y2 : Nat) (x3 : Option Addr) (n3 y3 : Nat) (x4 : Option Addr) (n4 y4 : Nat) (ok : Bool),
    e = .returned (.tuple #[.agg #[.slice x1 n1 y1, .slice x2 n2 y2, .slice x3 n3 y3, .slice x4 n4 y4], .bool ok]) ∧ New w w' ∧
    (ok = true → ∃ O, ObAt w' (.agg #[.slice x1 n1 y1, .slice x2 n2 y2, .slice x3 n3 y3, .slice x4 n4 y4]) O ∧ Lens O ∧ mayB O = true ∧ encO O = ws) ∧
    ((∃ O, mayB O = true ∧ encO O = ws) → ok = true)
end Go.Proofs.Ytnoahdobgndmnaa.Obj
