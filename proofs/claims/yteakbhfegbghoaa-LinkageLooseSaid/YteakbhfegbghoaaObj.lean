/- Objects as plain data; their words; the contracts of slices.Clone, of whole. -/
import Derived.Test.YteakbhfegbghoaaProg
import Derived.Test.YteakbhfegbghoaaAppL
import Derived.Test.YteakbhfegbghoaaStr
import Derived.Test.YteakbhfegbghoaaNames
import Derived.Test.YteakbhfegbghoaaLetters
import Derived.Lib.AppendZeros
import Derived.Laws.IdiomCopy
import Derived.Lib.SliceRun
namespace Go.Proofs.Yteakbhfegbghoaa.Obj
open Go Go.RowKit Go.Proofs.Yteakbhfegbghoaa.Kit Go.Proofs.Yteakbhfegbghoaa.Str Go.Proofs.Yteakbhfegbghoaa.Names Go.Proofs.Yteakbhfegbghoaa.Let
open Go.Proofs.Yteakbhfegbghoaa.Letters (wv WsAt word_info)
open Go.Proofs.Yteakbhfegbghoaa.Same (WordsAt)
set_option linter.unusedSimpArgs false
set_option linter.unusedVariables false
abbrev Df := List UInt8 × Int
abbrev Lk := List UInt8 × List UInt8 × Int
structure Ob where
  text : List Nat
  static : List Nat
  defs : List Df
  links : List Lk
def uw (x : Nat) : List Value := [wv x]
def ud (d : Df) : List Value := [st d.1, .int .i64 d.2]
def ul (x : Lk) : List Value := [st x.1, st x.2.1, .int .i64 x.2.2]
theorem uw_len (x : Nat) : (uw x).length = 1 := rfl
theorem ud_len (x : Df) : (ud x).length = 2 := rfl
theorem ul_len (x : Lk) : (ul x).length = 3 := rfl
theorem uw_one (x : Nat) : ∀ u ∈ uw x, u.oneCell' = true := by intro u hu; rw [List.mem_singleton.1 hu]; rfl
theorem ud_one (x : Df) : ∀ u ∈ ud x, u.oneCell' = true := by
  intro u hu
  simp only [ud, List.mem_cons, List.not_mem_nil, or_false] at hu
  rcases hu with rfl | rfl <;> rfl
theorem ul_one (x : Lk) : ∀ u ∈ ul x, u.oneCell' = true := by
  intro u hu
  simp only [ul, List.mem_cons, List.not_mem_nil, or_false] at hu
  rcases hu with rfl | rfl | rfl <;> rfl
theorem flat_uw (l : List Nat) : flatOf uw l = l.map wv := by
  induction l with
  | nil => rfl
  | cons x r ih => rw [flatOf_cons, ih]; rfl
/-- An object behind the value of a struct of four slices. -/
def ObAt (w : World) (v : Value) (O : Ob) : Prop :=
  ∃ a b c d, v = .agg #[a, b, c, d] ∧ LsAt 1 uw w a O.text ∧ LsAt 1 uw w b O.static ∧ LsAt 2 ud w c O.defs ∧ LsAt 3 ul w d O.links
theorem ObAt.new_ {w w' : World} {v : Value} {O : Ob} (h : ObAt w v O) (n : New w w') : ObAt w' v O := by
  obtain ⟨a, b, c, d, e, h1, h2, h3, h4⟩ := h
  exact ⟨a, b, c, d, e, h1.new_ n, h2.new_ n, h3.new_ n, h4.new_ n⟩
theorem LsAt.ws {w : World} {v : Value} {l : List Nat} (h : LsAt 1 uw w v l) : WsAt w v l := by
  obtain ⟨a, c, rfl, h1, h2, h3⟩ := h
  refine ⟨a, c, rfl, fun h0 => ?_⟩
  obtain ⟨b, o, e, hb, hc⟩ := h3 h0
  refine ⟨b, o, e, hb, fun i hi => ?_⟩
  have := hc i _ (List.getElem?_eq_getElem hi) 0 _ rfl
  rw [Nat.mul_one, Nat.add_zero] at this
  rw [this, List.getD_eq_getElem?_getD, List.getElem?_eq_getElem hi]
  rfl
def encD (d : Df) : List Nat := enc d.1 ++ [d.2.toNat]
def encL (x : Lk) : List Nat := enc x.1 ++ enc x.2.1 ++ [x.2.2.toNat]
def magic : Nat := 45812815077
def tl (O : Ob) : List Nat := [O.text.length, O.static.length, O.defs.length, O.links.length, magic]
def encO (O : Ob) : List Nat := O.text ++ O.static ++ O.defs.flatMap encD ++ O.links.flatMap encL ++ tl O
def maskN : Nat := 68719476735
def wholeB (l : List Nat) : Bool := l.all fun x => decide (x ≤ maskN)
def defB (n : Nat) (d : Df) : Bool := signsB d.1 32 && (decide (0 ≤ d.2) && decide (d.2 < (n : Int)))
def defsB (n : Nat) (ds : List Df) : Bool := ds.all (defB n) && (decide ((ds.map (·.1)).Nodup) && decide (ds.length ≤ 32))
def linkB (x : Lk) : Bool := (decide (x.1 = []) || signsB x.1 32) && (signsB x.2.1 32 && (decide (0 ≤ x.2.2) && decide (x.2.2 ≤ 262143)))
def linksB (ls : List Lk) : Bool := ls.all linkB && decide (ls.length ≤ 32)
def fitsB (O : Ob) : Bool := decide (O.text.length ≤ 512) && (decide (O.static.length ≤ 64) && (wholeB O.text && (wholeB O.static && (defsB O.text.length O.defs && linksB O.links))))
def mayB (O : Ob) : Bool := fitsB O && decide ((encO O).length ≤ 1024)
theorem whole1_any (x : Nat) (w : World) : Calls Try.prog 76 #[wv x] w fun e w' => e = .returned (.bool (decide (maskN < x))) ∧ w' = w := by
  by_cases h : maskN < x
  · rw [decide_eq_true h]
    unfold maskN at h
    have h' : (68719476735 : Int) < (x : Int) := by omega
    clear h
    go_enter Try.func76, Try.ntmps76
    go_wp2
    go_ret
    exact ⟨rfl, rfl⟩
  · rw [decide_eq_false h]
    unfold maskN at h
    have h' : ¬ (68719476735 : Int) < (x : Int) := by omega
    clear h
    go_enter Try.func76, Try.ntmps76
    go_wp2
    go_ret
    exact ⟨rfl, rfl⟩
set_option maxRecDepth 100000 in
set_option maxHeartbeats 4000000 in
theorem index_any (v : Value) (l : List Nat) (w : World) (h : LsAt 1 uw w v l) (hl : l.length ≤ 1000000) :
    Calls Try.prog 82 #[v, .func (.func 76) #[] #[]] w fun e w' => (∃ i : Int, e = .returned (.int .i64 i) ∧ decide (0 ≤ i) = !wholeB l) ∧ New w w' := by
  obtain ⟨a, c, hv, hlc, hcm, _⟩ := id h
  subst hv
  unfold maxLen at hcm
  obtain ⟨n, hn⟩ : ∃ n, n = l.length := ⟨_, rfl⟩
  rw [← hn] at hlc hl h ⊢
  have H := hid (And.intro h hn)
  clear h hn
  go_enter Try.func82, Try.ntmps82
  go_wp2_with fail
  go_loopw [8] (fun i wr => ∃ k : Nat, k ≤ n ∧ i = .int .i64 (k : Int) ∧ (∀ j x, j < k → l[j]? = some x → x ≤ maskN) ∧ New w wr) (fun i _ => n - (intOf i).toNat)
  case atStart => exact ⟨0, Nat.zero_le _, rfl, fun j x hj => absurd hj (by omega), New.refl _⟩
  case round =>
    obtain ⟨k, hk, rfl, hall, hnr⟩ := hrel
    by_cases hkn : k < n
    · have w2 : IntKind.i64.wrap ((k : Int) + 1) = k + 1 := by rw [IntKind.wrap_i64]; omega
      obtain ⟨b, o, x, rfl, hx, _, hcell⟩ := (H.out.1.new_ hnr).get hkn
      have c0 := hcell 0 _ rfl
      rw [Nat.add_zero, Nat.mul_one] at c0
      have j0 : (0 : Int) ≤ (k : Int) := by omega
      have j1 : (k : Int) < (n : Int) := by omega
      have HX := hid (And.intro hx (And.intro hall hnr))
      clear hx hall hnr hcell
      by_cases hm : maskN < x
      · have hC := fun X => whole1_any x X
        rw [decide_eq_true hm] at hC
        have hw : wholeB l = false := by
          unfold wholeB
          rw [List.all_eq_false]
          exact ⟨x, List.mem_of_getElem? HX.out.1, by simp; omega⟩
        have HW := hid hw
        clear hw hm
        go_wp2_with fail
        refine (hC _).mono ?_
        rintro e w' ⟨rfl, rfl⟩
        go_wp2_with fail
        go_ret
        exact ⟨⟨_, rfl, by simp [HW.out]⟩, HX.out.2.2⟩
      · have hC := fun X => whole1_any x X
        rw [decide_eq_false hm] at hC
        have hall' : ∀ j y, j < k + 1 → l[j]? = some y → y ≤ maskN := fun j y hj hy => by
          by_cases e : j = k
          · subst e; rw [HX.out.1] at hy; rw [← Option.some.inj hy]; omega
          · exact HX.out.2.1 j y (by omega) hy
        have HA := hid hall'
        clear hall' hm
        go_wp2_with fail
        refine (hC _).mono ?_
        rintro e w' ⟨rfl, rfl⟩
        go_wp2_with fail
        exact ⟨⟨k + 1, by omega, by go_num, HA.out, HX.out.2.2⟩, by simp [intOf]; omega⟩
    · have hke : k = n := by omega
      subst hke
      have hlt : ¬ (k : Int) < (k : Int) := by omega
      have hw : wholeB l = true := by
        unfold wholeB
        rw [List.all_eq_true]
        intro x hx
        obtain ⟨j, hj⟩ := List.getElem?_of_mem hx
        exact decide_eq_true (hall j x (by rw [H.out.2]; exact (List.getElem?_eq_some_iff.1 hj).1) hj)
      have HW := hid hw
      have HX := hid hnr
      clear hw hall hnr
      go_wp2_with fail
      go_ret
      exact ⟨⟨_, rfl, by simp [HW.out]⟩, HX.out⟩
theorem contains_any (v : Value) (l : List Nat) (w : World) (h : LsAt 1 uw w v l) (hl : l.length ≤ 1000000) :
    Calls Try.prog 75 #[v, .func (.func 76) #[] #[]] w fun e w' => e = .returned (.bool (!wholeB l)) ∧ New w w' := by
  have hC := hid (index_any v l w h hl)
  go_enter Try.func75, Try.ntmps75
  go_wp2_with fail
  refine hC.out.mono ?_
  rintro e w1 ⟨⟨i, rfl, hi⟩, hn⟩
  have HI := hid hi
  clear hi
  go_wp2
  go_ret
  exact ⟨by rw [← HI.out]; rfl, hn⟩
theorem whole_any (v : Value) (l : List Nat) (w : World) (h : LsAt 1 uw w v l) (hl : l.length ≤ 1000000) :
    Calls Try.prog 63 #[v] w fun e w' => e = .returned (.bool (wholeB l)) ∧ New w w' := by
  have hC := hid (contains_any v l w h hl)
  go_enter Try.func63, Try.ntmps63
  go_wp2_with fail
  refine hC.out.mono ?_
  rintro e w1 ⟨rfl, hn⟩
  go_wp2
  go_ret
  exact ⟨by simp, hn⟩
end Go.Proofs.Yteakbhfegbghoaa.Obj
