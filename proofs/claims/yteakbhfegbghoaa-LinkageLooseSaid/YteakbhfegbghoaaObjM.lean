/- The contracts of object.text, made. -/
import Derived.Test.YteakbhfegbghoaaObjC
namespace Go.Proofs.Yteakbhfegbghoaa.Obj
open Go Go.RowKit Go.Proofs.Yteakbhfegbghoaa.Kit Go.Proofs.Yteakbhfegbghoaa.Str Go.Proofs.Yteakbhfegbghoaa.Names Go.Proofs.Yteakbhfegbghoaa.Let
open Go.Proofs.Yteakbhfegbghoaa.Letters (wv WsAt word_info)
set_option linter.unusedSimpArgs false
set_option linter.unusedVariables false
theorem Keeps.onto {w w1 w' : World} {base size : Nat} {e : TypeId} {v v' : Value} {n : Nat} {cs : List Value} (h : Onto w1 base e size v n cs v' w') (hk : New w w1) : Keeps (fun k => v.ownBlock = some k) w w' := (hk.keeps _).grown h.2.1 fun k hk => .inr hk
/-- What text(v, l) leaves. -/
def Txt (w : World) (base : Nat) (v : Value) (ws : List Nat) (en : Ending) (w' : World) : Prop :=
  ∃ v', en = .returned v' ∧ Sl w' base 52 1 v' ws.length (flatOf uw ws) ∧ Keeps (fun k => v.ownBlock = some k) w w' ∧ (v'.ownBlock = v.ownBlock ∨ ∃ g, v'.ownBlock = some g ∧ w.heap.size ≤ g)
theorem enc_len (l : List UInt8) : (enc l).length ≤ 1 + l.length := by
  have : (enc l).length = 1 + nW l.length := by unfold enc; simp [Nat.add_comm]
  rw [this]
  unfold nW
  omega
set_option maxRecDepth 100000 in
set_option maxHeartbeats 1000000 in
theorem text_any (w : World) (base : Nat) (v : Value) (ws : List Nat) (hs : Sl w base 52 1 v ws.length (flatOf uw ws)) (hbase : base ≤ w.heap.size) (hl : ws.length ≤ 1000000) (l : List UInt8) (hl2 : l.length ≤ 255) :
    Calls Try.prog 67 #[v, st l] w (Txt w base v (ws ++ enc l)) := by
  obtain ⟨ti, hi, hzz⟩ := Option.map_eq_some_iff.1 word_info
  simp only [Prod.mk.injEq] at hzz
  have hel := enc_len l
  have hW := Letters.Words_yes l hl2 w
  have HS := hid (And.intro hs (And.intro hi hzz))
  have HW := hid hW
  clear hs hi hzz hW
  go_enter Try.func67, Try.ntmps67
  go_wp2_with fail
  refine HW.out.mono ?_
  rintro e w1 ⟨x, rfl, hx, hn⟩
  have hx' : LsAt 1 uw w1 x (enc l) := LsAt.of_sl uw_len (by rw [flat_uw]; exact hx)
  obtain ⟨v', w3, hr, hon⟩ := run_append_ls (P := Try.prog) w1 base 25 25 52 ti _ 1 8 Try.underlying25 HS.out.2.1 HS.out.2.2.1 HS.out.2.2.2.1 HS.out.2.2.2.2 rfl (by decide) uw_len uw_one v _ _ (HS.out.1.new_ hn) _ (enc l) hx' (by unfold maxLen; omega) (by omega) (Nat.le_trans hbase hn.size)
  have HF := hid (show Txt w base v (ws ++ enc l) (.returned v') w3 from ⟨v', rfl, by rw [List.length_append, flatOf_app]; exact hon.1, Keeps.onto hon hn, hon.2.2.imp id fun ⟨g, e, hg⟩ => ⟨g, e, Nat.le_trans hn.size hg⟩⟩)
  clear hon hx hx' hn
  go_wp2_with (at_builtin; refine Lib.wpList_append_run _ rfl _ _ _ _ rfl _ _ rfl rfl _ _ hr ?_)
  go_wp2
  go_ret
  exact HF.out
def preD (O : Ob) (k : Nat) : List Nat := O.text ++ O.static ++ (O.defs.take k).flatMap encD
def preL (O : Ob) (k : Nat) : List Nat := O.text ++ O.static ++ O.defs.flatMap encD ++ (O.links.take k).flatMap encL
theorem sum_le {α : Type} {f : α → List Nat} {c : Nat} : ∀ {l : List α}, (∀ x ∈ l, (f x).length ≤ c) → (l.flatMap f).length ≤ l.length * c
  | [], _ => by simp
  | x :: r, h => by
    have h1 := h x (List.mem_cons_self ..)
    have h2 := sum_le (l := r) (fun y hy => h y (List.mem_cons_of_mem _ hy))
    rw [List.flatMap_cons, List.length_append, List.length_cons, Nat.add_mul, Nat.one_mul]
    omega
structure Fit (O : Ob) : Prop where
  text : O.text.length ≤ 512
  static : O.static.length ≤ 64
  wtext : wholeB O.text = true
  wstatic : wholeB O.static = true
  ndefs : O.defs.length ≤ 32
  nodup : (O.defs.map (·.1)).Nodup
  defs : ∀ d ∈ O.defs, signsB d.1 32 = true ∧ 0 ≤ d.2 ∧ d.2 < (O.text.length : Int)
  nlinks : O.links.length ≤ 32
  links : ∀ x ∈ O.links, (x.1 = [] ∨ signsB x.1 32 = true) ∧ signsB x.2.1 32 = true ∧ 0 ≤ x.2.2 ∧ x.2.2 ≤ 262143
theorem fits_iff (O : Ob) : fitsB O = true ↔ Fit O := by
  unfold fitsB defsB linksB
  simp only [Bool.and_eq_true, decide_eq_true_eq, List.all_eq_true]
  constructor
  · rintro ⟨h1, h2, h3, h4, ⟨h5, h6, h7⟩, h8, h9⟩
    refine ⟨h1, h2, h3, h4, h7, h6, fun d hd => ?_, h9, fun x hx => ?_⟩
    · have := h5 d hd
      simpa [defB] using this
    · have := h8 x hx
      simpa [linkB] using this
  · rintro ⟨h1, h2, h3, h4, h7, h6, h5, h9, h8⟩
    refine ⟨h1, h2, h3, h4, ⟨fun d hd => ?_, h6, h7⟩, fun x hx => ?_, h9⟩
    · have := h5 d hd
      simpa [defB] using this
    · have := h8 x hx
      simpa [linkB] using this
theorem Fit.encD_len {O : Ob} (h : Fit O) {d : Df} (hd : d ∈ O.defs) : (encD d).length ≤ 34 := by
  have := (signsB_len (h.defs d hd).1).2
  have := enc_len d.1
  unfold encD
  simp
  omega
theorem Fit.encL_len {O : Ob} (h : Fit O) {x : Lk} (hx : x ∈ O.links) : (encL x).length ≤ 67 := by
  have h1 : x.1.length ≤ 32 := by
    rcases (h.links x hx).1 with e | e
    · rw [e]; simp
    · exact (signsB_len e).2
  have := (signsB_len (h.links x hx).2.1).2
  have := enc_len x.1
  have := enc_len x.2.1
  unfold encL
  simp
  omega
theorem Fit.preD_len {O : Ob} (h : Fit O) (k : Nat) : (preD O k).length ≤ 2000 := by
  have := sum_le (f := encD) (c := 34) (l := O.defs.take k) (fun x hx => h.encD_len (List.mem_of_mem_take hx))
  have h1 := h.text
  have h2 := h.static
  have h3 := h.ndefs
  have h4 : (O.defs.take k).length ≤ 32 := by rw [List.length_take]; omega
  have h5 : (O.defs.take k).length * 34 ≤ 32 * 34 := Nat.mul_le_mul_right _ h4
  unfold preD
  rw [List.length_append, List.length_append]
  omega
theorem Fit.preL_len {O : Ob} (h : Fit O) (k : Nat) : (preL O k).length ≤ 5000 := by
  have := sum_le (f := encD) (c := 34) (l := O.defs) (fun x hx => h.encD_len hx)
  have := sum_le (f := encL) (c := 67) (l := O.links.take k) (fun x hx => h.encL_len (List.mem_of_mem_take hx))
  have h1 := h.text
  have h2 := h.static
  have h3 := h.ndefs
  have h3' := h.nlinks
  have h4 : (O.links.take k).length ≤ 32 := by rw [List.length_take]; omega
  have h5 : (O.links.take k).length * 67 ≤ 32 * 67 := Nat.mul_le_mul_right _ h4
  have h6 : O.defs.length * 34 ≤ 32 * 34 := Nat.mul_le_mul_right _ h3
  unfold preL
  rw [List.length_append, List.length_append, List.length_append]
  omega
theorem take_snoc {α : Type} {l : List α} {k : Nat} {x : α} (h : l[k]? = some x) : l.take (k + 1) = l.take k ++ [x] := by
  rw [List.take_add_one, h]; rfl
theorem preD_succ {O : Ob} {k : Nat} {d : Df} (h : O.defs[k]? = some d) : preD O (k + 1) = preD O k ++ enc d.1 ++ [d.2.toNat] := by
  unfold preD
  rw [take_snoc h, List.flatMap_append]
  simp [encD]
theorem preL_succ {O : Ob} {k : Nat} {x : Lk} (h : O.links[k]? = some x) : preL O (k + 1) = preL O k ++ enc x.1 ++ enc x.2.1 ++ [x.2.2.toNat] := by
  unfold preL
  rw [take_snoc h, List.flatMap_append]
  simp [encL]
theorem own_ne {v5 v : Value} {w : World} {D : Nat} (h : v5.ownBlock = v.ownBlock ∨ ∃ g, v5.ownBlock = some g ∧ w.heap.size ≤ g) (hv : ∀ g, D ≤ g → ¬ v.ownBlock = some g) : ∀ g, D ≤ g → g < w.heap.size → ¬ v5.ownBlock = some g := by
  intro g hg hlt e
  rcases h with h | ⟨g', h, hg'⟩
  · exact hv g hg (by rw [← h, e])
  · rw [h] at e; cases e; omega
theorem news_w {w : World} {g : Nat} {x : Nat} (h : w.cell? ⟨g, 0, none⟩ = some (wv x)) : ∀ j u, [wv x][j]? = some u → w.cell? ((⟨g, 0, none⟩ : Addr).add j) = some u := by
  intro j u hu
  rw [Addr.add_lit, Nat.zero_add]
  match j, hu with
  | 0, hu => rw [h]; exact hu
theorem one_w (x : Nat) : ∀ u ∈ [wv x], u.oneCell' = true := by intro u hu; rw [List.mem_singleton.1 hu]; rfl
end Go.Proofs.Yteakbhfegbghoaa.Obj
