/- Areas as lists of bases and words: the contracts without block numbers; area's law awake. -/
import Derived.Test.YteakbhfegbghoaaAreaT
namespace Go.Proofs.Yteakbhfegbghoaa.Area
open Go Go.RowKit Go.Proofs.Yteakbhfegbghoaa.Kit
set_option linter.unusedSimpArgs false
set_option linter.unusedVariables false
abbrev Ms := List (Nat × List Int)
def ab (rs : List Room) : Ms := rs.map fun r => (r.1, r.2.2)
/-- Where n words fit behind b: place and base. -/
def fitG (n : Int) : Nat → Ms → Nat × Nat
  | b, [] => (0, b)
  | b, r :: ms => if (r.1 : Int) - b < n then ((fitG n (r.1 + r.2.length) ms).1 + 1, (fitG n (r.1 + r.2.length) ms).2) else (0, b)
def endFrom (b : Nat) (rs : List Room) : Nat → Nat
  | 0 => b
  | k + 1 => match rs[k]? with | some r => r.1 + r.2.2.length | none => 0
theorem endFrom_zero (rs : List Room) (k : Nat) : endFrom 0 rs k = endOf rs k := by cases k <;> rfl
theorem endFrom_cons (b : Nat) (r : Room) (rs : List Room) (k : Nat) : endFrom b (r :: rs) (k + 1) = endFrom (r.1 + r.2.2.length) rs k := by cases k <;> simp [endFrom]
theorem fitG_eq (n : Int) : ∀ (rs : List Room) (b k : Nat), k ≤ rs.length → (∀ (j : Nat) (r : Room), j < k → rs[j]? = some r → (r.1 : Int) - endFrom b rs j < n) → (∀ r : Room, rs[k]? = some r → n ≤ (r.1 : Int) - endFrom b rs k) → fitG n b (ab rs) = (k, endFrom b rs k)
  | [], b, k, hk, _, _ => by
    have : k = 0 := by simpa using hk
    subst this
    rfl
  | r :: rs, b, 0, _, _, h2 => by
    have := h2 r rfl
    have h : ¬ (r.1 : Int) - (b : Int) < n := by simpa [endFrom] using this
    simp [ab, fitG, if_neg h, endFrom]
  | r :: rs, b, k + 1, hk, h1, h2 => by
    have h0 := h1 0 r (by omega) rfl
    have h : (r.1 : Int) - (b : Int) < n := by simpa [endFrom] using h0
    have ih := fitG_eq n rs (r.1 + r.2.2.length) k (by simpa using hk) (fun j x hj hx => by have := h1 (j + 1) x (by omega) (by simpa using hx); rw [endFrom_cons] at this; exact this) (fun x hx => by have := h2 x (by simpa using hx); rw [endFrom_cons] at this; exact this)
    rw [endFrom_cons]
    show fitG n b ((r.1, r.2.2) :: ab rs) = _
    simp only [fitG, if_pos h, ih]
theorem Fit.eq {rs : List Room} {n : Int} {k : Nat} (h : Fit rs n k) : fitG n 0 (ab rs) = (k, endOf rs k) := by
  rw [← endFrom_zero]
  exact fitG_eq n rs 0 k h.1 (fun j r hj hr => by rw [endFrom_zero]; exact h.2.1 j r hj hr) (fun r hr => by rw [endFrom_zero]; exact h.2.2 r hr)
def takeE (N : Nat) (ms : Ms) (n : Int) : Int := if n < 1 then 1 else if (N : Int) - (fitG n 0 ms).2 < n then 7 else 0
def takeB (N : Nat) (ms : Ms) (n : Int) : Int := if takeE N ms n = 0 then ((fitG n 0 ms).2 : Int) else 0
def takeM (N : Nat) (ms : Ms) (n : Int) : Ms := if takeE N ms n = 0 then ms.take (fitG n 0 ms).1 ++ ((fitG n 0 ms).2, List.replicate n.toNat 0) :: ms.drop (fitG n 0 ms).1 else ms
def findM (ms : Ms) (b : Int) : Option (Nat × List Int) := ms.find? fun r => (r.1 : Int) == b
def giveM (ms : Ms) (b : Int) : Ms := ms.filter fun r => !((r.1 : Int) == b)
def sizeM (ms : Ms) (b : Int) : Nat := match findM ms b with | none => 0 | some r => r.2.length
def inM (r : Nat × List Int) (off : Int) : Bool := decide (0 ≤ off ∧ off < (r.2.length : Int))
def readEM (ms : Ms) (b off : Int) : Int := match findM ms b with | none => 4 | some r => if inM r off then 0 else 8
def readWM (ms : Ms) (b off : Int) : Int := match findM ms b with | none => 0 | some r => if inM r off then r.2.getD off.toNat 0 else 0
def writeM (ms : Ms) (b off x : Int) : Ms := ms.map fun r => if (r.1 : Int) = b ∧ inM r off = true then (r.1, r.2.set off.toNat x) else r
def usedM (ms : Ms) : Nat := (ms.map fun r => r.2.length).sum
theorem look_ab (rs : List Room) (b : Int) : findM (ab rs) b = (look rs b).map fun r => (r.1, r.2.2) := by
  unfold findM look ab
  rw [List.find?_map]
  rfl
theorem ab_filter (rs : List Room) (b : Int) : ab (rs.filter fun r => !((r.1 : Int) == b)) = giveM (ab rs) b := by
  unfold ab giveM
  rw [List.filter_map]
  rfl
theorem sizeR_ab (rs : List Room) (b : Int) : sizeR rs b = sizeM (ab rs) b := by unfold sizeR sizeM; rw [look_ab]; cases look rs b <;> rfl
theorem readE_ab (rs : List Room) (b off : Int) : readE rs b off = readEM (ab rs) b off := by unfold readE readEM; rw [look_ab]; cases look rs b <;> rfl
theorem readW_ab (rs : List Room) (b off : Int) : readW rs b off = readWM (ab rs) b off := by unfold readW readWM; rw [look_ab]; cases look rs b <;> rfl
theorem writeR_ab (rs : List Room) (b off x : Int) : ab (writeR rs b off x) = writeM (ab rs) b off x := by
  unfold ab writeR writeM
  rw [List.map_map, List.map_map]
  apply List.map_congr_left
  intro r _
  simp only [Function.comp]
  by_cases h : (r.1 : Int) = b ∧ inR r off = true
  · rw [if_pos h, if_pos (show (r.1 : Int) = b ∧ inM (r.1, r.2.2) off = true from h)]
  · rw [if_neg h, if_neg (show ¬ ((r.1 : Int) = b ∧ inM (r.1, r.2.2) off = true) from h)]
theorem usedR_ab (rs : List Room) : usedR rs = usedM (ab rs) := by unfold usedR usedM ab; rw [List.map_map]; rfl
theorem ab_insL (rs : List Room) (k : Nat) (x : Room) : ab (insL rs k x) = (ab rs).take k ++ (x.1, x.2.2) :: (ab rs).drop k := by
  unfold ab insL
  rw [List.map_append, List.map_cons, List.map_take, List.map_drop]
/-- An area at block A: its words, its rooms; all its memory are the blocks of S. -/
def OwnA (w : World) (A N : Nat) (S : Nat → Prop) (ms : Ms) : Prop := ∃ rs, Own w A N S rs ∧ ab rs = ms
theorem OwnA.keeps {w w' : World} {A N : Nat} {S : Nat → Prop} {ms : Ms} (h : OwnA w A N S ms) {F : Nat → Prop} (hk : Keeps F w w') (hF : ∀ k, S k → ¬ F k) : OwnA w' A N S ms := by
  obtain ⟨rs, h1, h2⟩ := h
  exact ⟨rs, h1.keeps hk hF, h2⟩
theorem OwnA.new_ {w w' : World} {A N : Nat} {S : Nat → Prop} {ms : Ms} (h : OwnA w A N S ms) (hk : New w w') : OwnA w' A N S ms := by
  obtain ⟨rs, h1, h2⟩ := h
  exact ⟨rs, h1.new_ hk, h2⟩
theorem OwnA.lt {w : World} {A N : Nat} {S : Nat → Prop} {ms : Ms} (h : OwnA w A N S ms) {k : Nat} (hk : S k) : k < w.heap.size := by
  obtain ⟨rs, h1, h2⟩ := h
  exact h1.lt hk
/-- The area has changed: its memory and new blocks alone may differ. -/
def Turned (w w' : World) (A N : Nat) (S : Nat → Prop) (ms : Ms) : Prop := ∃ S' : Nat → Prop, OwnA w' A N S' ms ∧ Keeps S w w' ∧ ∀ k, S' k → S k ∨ w.heap.size ≤ k
theorem Turned.new_ {w w' : World} {A N : Nat} {S : Nat → Prop} {ms : Ms} (h : OwnA w A N S ms) (hn : New w w') : Turned w w' A N S ms := ⟨S, h.new_ hn, hn.keeps _, fun _ h => .inl h⟩
theorem takeA (w : World) (A N : Nat) (S : Nat → Prop) (ms : Ms) (h : OwnA w A N S ms) (hN : N ≤ 100000) (n : Int) :
    Calls Try.prog 33 #[.pointer (some ⟨A, 0, none⟩), .int .i64 n] w fun e w' => e = .returned (.tuple #[.int .i64 (takeB N ms n), .int .i64 (takeE N ms n)]) ∧ Turned w w' A N S (takeM N ms n) := by
  have hA := h
  obtain ⟨rs, h, rfl⟩ := h
  refine (take_any w A N S rs h hN n).mono ?_
  rintro e w' (⟨hn, rfl, hnw⟩ | ⟨hn, k, hf, ⟨hr, rfl, hnw⟩ | ⟨hr, rfl, g, S', ho, hk, hs⟩⟩)
  · have e1 : takeE N (ab rs) n = 1 := by unfold takeE; rw [if_pos hn]
    refine ⟨by unfold takeB; rw [e1]; rfl, ?_⟩
    unfold takeM
    rw [e1, if_neg (by decide)]
    exact Turned.new_ hA hnw
  · have e1 : takeE N (ab rs) n = 7 := by unfold takeE; rw [if_neg (by omega), hf.eq, if_pos hr]
    refine ⟨by unfold takeB; rw [e1]; rfl, ?_⟩
    unfold takeM
    rw [e1, if_neg (by decide)]
    exact Turned.new_ hA hnw
  · have e1 : takeE N (ab rs) n = 0 := by unfold takeE; rw [if_neg (by omega), hf.eq, if_neg (by simp only; omega)]
    refine ⟨by unfold takeB; rw [e1, if_pos rfl, hf.eq], ?_⟩
    unfold takeM
    rw [e1, if_pos rfl, hf.eq]
    exact ⟨S', ⟨_, ho, ab_insL _ _ _⟩, hk, hs⟩
theorem giveA (w : World) (A N : Nat) (S : Nat → Prop) (ms : Ms) (h : OwnA w A N S ms) (hN : N ≤ 100000) (b : Int) :
    Calls Try.prog 36 #[.pointer (some ⟨A, 0, none⟩), .int .i64 b] w fun e w' => e = .returned (.bool (findM ms b).isSome) ∧ Turned w w' A N S (giveM ms b) := by
  obtain ⟨rs, h, rfl⟩ := h
  refine (give_any w A N S rs h hN b).mono ?_
  rintro e w' ⟨rfl, S', ho, hk, hs⟩
  refine ⟨by rw [look_ab]; cases look rs b <;> rfl, S', ⟨_, ho, ab_filter _ _⟩, hk, hs⟩
theorem usedA (w : World) (A N : Nat) (S : Nat → Prop) (ms : Ms) (h : OwnA w A N S ms) (hN : N ≤ 100000) :
    Calls Try.prog 37 #[.pointer (some ⟨A, 0, none⟩)] w fun e w' => e = .returned (.int .i64 (usedM ms : Int)) ∧ New w w' := by
  obtain ⟨rs, h, rfl⟩ := h
  rw [← usedR_ab]
  exact used_any w A N S rs h hN
theorem readA (w : World) (A N : Nat) (S : Nat → Prop) (ms : Ms) (h : OwnA w A N S ms) (hN : N ≤ 100000) (b off : Int) :
    Calls Try.prog 42 #[.pointer (some ⟨A, 0, none⟩), .int .i64 b, .int .i64 off] w fun e w' => e = .returned (.tuple #[.int .u64 (readWM ms b off), .int .i64 (readEM ms b off)]) ∧ New w w' := by
  obtain ⟨rs, h, rfl⟩ := h
  rw [← readE_ab, ← readW_ab]
  exact read_any w A N S rs h hN b off
theorem writeA (w : World) (A N : Nat) (S : Nat → Prop) (ms : Ms) (h : OwnA w A N S ms) (hN : N ≤ 100000) (b off x : Int) :
    Calls Try.prog 45 #[.pointer (some ⟨A, 0, none⟩), .int .i64 b, .int .i64 off, .int .u64 x] w fun e w' => e = .returned (.int .i64 (readEM ms b off)) ∧ OwnA w' A N S (writeM ms b off (cutW x)) ∧ Keeps S w w' := by
  obtain ⟨rs, h, rfl⟩ := h
  rw [← readE_ab, ← writeR_ab]
  exact (write_any w A N S rs h hN b off x).mono fun e w' h => ⟨h.1, ⟨_, h.2.1, rfl⟩, h.2.2⟩
theorem newA (n : Int) (w : World) :
    Calls Try.prog 30 #[.int .i64 n] w fun e w' => e = .returned (.pointer (some ⟨w.heap.size, 0, none⟩)) ∧ OwnA w' w.heap.size n.toNat (fun k => k = w.heap.size) [] ∧ New w w' :=
  (new_any n w).mono fun e w' h => ⟨h.1, ⟨[], h.2.1, rfl⟩, h.2.2⟩
/-- All that the area has, has come up since w0. -/
def Since (w0 w : World) (A N : Nat) (ms : Ms) : Prop := ∃ S : Nat → Prop, OwnA w A N S ms ∧ New w0 w ∧ ∀ k, S k → w0.heap.size ≤ k
theorem Since.new_ {w0 w w' : World} {A N : Nat} {ms : Ms} (h : Since w0 w A N ms) (hn : New w w') : Since w0 w' A N ms := by
  obtain ⟨S, h1, h2, h3⟩ := h
  exact ⟨S, h1.new_ hn, h2.step hn, h3⟩
theorem Since.turn {w0 w w' : World} {A N : Nat} {S : Nat → Prop} {ms : Ms} (h2 : New w0 w) (h3 : ∀ k, S k → w0.heap.size ≤ k) (h : Turned w w' A N S ms) : Since w0 w' A N ms := by
  obtain ⟨S', q1, q2, q3⟩ := h
  refine ⟨S', q1, h2.kept q2 h3, fun k hk => ?_⟩
  rcases q3 k hk with h | h
  · exact h3 k h
  · exact Nat.le_trans h2.size h
theorem Since.new {w0 w : World} {A N : Nat} {ms : Ms} (h : Since w0 w A N ms) : New w0 w := by obtain ⟨S, h1, h2, h3⟩ := h; exact h2
section
variable {w0 : World} {A N : Nat} {ms : Ms}
theorem takeS (w : World) (h : Since w0 w A N ms) (hN : N ≤ 100000) (n : Int) :
    Calls Try.prog 33 #[.pointer (some ⟨A, 0, none⟩), .int .i64 n] w fun e w' => e = .returned (.tuple #[.int .i64 (takeB N ms n), .int .i64 (takeE N ms n)]) ∧ Since w0 w' A N (takeM N ms n) := by
  obtain ⟨S, h1, h2, h3⟩ := h
  exact (takeA w A N S ms h1 hN n).mono fun e w' h => ⟨h.1, Since.turn h2 h3 h.2⟩
theorem giveS (w : World) (h : Since w0 w A N ms) (hN : N ≤ 100000) (b : Int) :
    Calls Try.prog 36 #[.pointer (some ⟨A, 0, none⟩), .int .i64 b] w fun e w' => e = .returned (.bool (findM ms b).isSome) ∧ Since w0 w' A N (giveM ms b) := by
  obtain ⟨S, h1, h2, h3⟩ := h
  exact (giveA w A N S ms h1 hN b).mono fun e w' h => ⟨h.1, Since.turn h2 h3 h.2⟩
theorem usedS (w : World) (h : Since w0 w A N ms) (hN : N ≤ 100000) :
    Calls Try.prog 37 #[.pointer (some ⟨A, 0, none⟩)] w fun e w' => e = .returned (.int .i64 (usedM ms : Int)) ∧ New w w' := by
  obtain ⟨S, h1, h2, h3⟩ := h
  exact usedA w A N S ms h1 hN
theorem readS (w : World) (h : Since w0 w A N ms) (hN : N ≤ 100000) (b off : Int) :
    Calls Try.prog 42 #[.pointer (some ⟨A, 0, none⟩), .int .i64 b, .int .i64 off] w fun e w' => e = .returned (.tuple #[.int .u64 (readWM ms b off), .int .i64 (readEM ms b off)]) ∧ Since w0 w' A N ms := by
  have hs := h
  obtain ⟨S, h1, h2, h3⟩ := h
  exact (readA w A N S ms h1 hN b off).mono fun e w' h => ⟨h.1, hs.new_ h.2⟩
theorem writeS (w : World) (h : Since w0 w A N ms) (hN : N ≤ 100000) (b off x : Int) :
    Calls Try.prog 45 #[.pointer (some ⟨A, 0, none⟩), .int .i64 b, .int .i64 off, .int .u64 x] w fun e w' => e = .returned (.int .i64 (readEM ms b off)) ∧ Since w0 w' A N (writeM ms b off (cutW x)) := by
  obtain ⟨S, h1, h2, h3⟩ := h
  exact (writeA w A N S ms h1 hN b off x).mono fun e w' h => ⟨h.1, S, h.2.1, h2.kept h.2.2 h3, h3⟩
end
theorem newS (n : Int) (w : World) :
    Calls Try.prog 30 #[.int .i64 n] w fun e w' => e = .returned (.pointer (some ⟨w.heap.size, 0, none⟩)) ∧ Since w w' w.heap.size n.toNat [] :=
  (newA n w).mono fun e w' h => ⟨h.1, _, h.2.1, h.2.2, fun k hk => by rw [hk]; exact Nat.le_refl _⟩
end Go.Proofs.Yteakbhfegbghoaa.Area
