/- The walk of AreaKnown. -/
import Derived.Test.YtapefbmbaofbbaaAreaLaw
import Derived.Test.YtapefbmbaofbbaaOpenG
namespace Go.Proofs.Ytapefbmbaofbbaa.Law
open Go Go.RowKit Go.ChangeShapes Go.WideShapes Go.Proofs.Ytapefbmbaofbbaa.Kit Go.Proofs.Ytapefbmbaofbbaa.Area
set_option linter.unusedSimpArgs false
set_option linter.unusedVariables false
theorem c9 : cutW 9 = 9 := by unfold cutW; decide
/-- An area, and an empty one of no words beside it. -/
def Pair (w0 w : World) (A N : Nat) (ms : Ms) (Z : Nat) : Prop := ∃ S : Nat → Prop, OwnA w A N S ms ∧ New w0 w ∧ (∀ k, S k → w0.heap.size ≤ k) ∧ OwnA w Z 0 (fun k => k = Z) [] ∧ ¬ S Z ∧ w0.heap.size ≤ Z
section
variable {w0 : World} {A N Z : Nat} {ms ms' : Ms}
theorem Pair.turn {w w' : World} {S : Nat → Prop} (h1 : New w0 w) (h2 : ∀ k, S k → w0.heap.size ≤ k) (h3 : OwnA w Z 0 (fun k => k = Z) []) (h4 : ¬ S Z) (h5 : w0.heap.size ≤ Z) (h : Turned w w' A N S ms') : Pair w0 w' A N ms' Z := by
  obtain ⟨S', q1, q2, q3⟩ := h
  refine ⟨S', q1, h1.kept q2 h2, fun k hk => ?_, h3.keeps q2 (fun k hk => by rw [hk]; exact h4), fun hz => ?_, h5⟩
  · rcases q3 k hk with h | h
    · exact h2 k h
    · exact Nat.le_trans h1.size h
  · rcases q3 Z hz with h | h
    · exact h4 h
    · have := h3.lt (k := Z) rfl; omega
theorem Pair.new_ {w w' : World} (h : Pair w0 w A N ms Z) (hn : New w w') : Pair w0 w' A N ms Z := by
  obtain ⟨S, h1, h2, h3, h4, h5, h6⟩ := h
  exact ⟨S, h1.new_ hn, h2.step hn, h3, h4.new_ hn, h5, h6⟩
theorem takeP {n b e : Int} (h : tk N ms n b e ms') (w : World) (hs : Pair w0 w A N ms Z) (hN : N ≤ 100000) :
    Calls Try.prog 9 #[.pointer (some ⟨A, 0, none⟩), .int .i64 n] w fun x w' => x = .returned (.tuple #[.int .i64 b, .int .i64 e]) ∧ Pair w0 w' A N ms' Z := by
  obtain ⟨S, h1, h2, h3, h4, h5, h6⟩ := hs
  rw [← h.1, ← h.2.1, ← h.2.2]
  exact (takeA w A N S ms h1 hN n).mono fun e w' h => ⟨h.1, Pair.turn h2 h3 h4 h5 h6 h.2⟩
theorem giveP {b : Int} {ok : Bool} (h : (findM ms b).isSome = ok ∧ giveM ms b = ms') (w : World) (hs : Pair w0 w A N ms Z) (hN : N ≤ 100000) :
    Calls Try.prog 10 #[.pointer (some ⟨A, 0, none⟩), .int .i64 b] w fun x w' => x = .returned (.bool ok) ∧ Pair w0 w' A N ms' Z := by
  obtain ⟨S, h1, h2, h3, h4, h5, h6⟩ := hs
  rw [← h.1, ← h.2]
  exact (giveA w A N S ms h1 hN b).mono fun e w' h => ⟨h.1, Pair.turn h2 h3 h4 h5 h6 h.2⟩
theorem usedP {n : Nat} (h : usedM ms = n) (w : World) (hs : Pair w0 w A N ms Z) (hN : N ≤ 100000) :
    Calls Try.prog 12 #[.pointer (some ⟨A, 0, none⟩)] w fun x w' => x = .returned (.int .i64 (n : Int)) ∧ Pair w0 w' A N ms Z := by
  have hs' := hs
  obtain ⟨S, h1, h2, h3, h4, h5, h6⟩ := hs
  rw [← h]
  exact (usedA w A N S ms h1 hN).mono fun e w' h => ⟨h.1, hs'.new_ h.2⟩
theorem readP {b off v e : Int} (h : readWM ms b off = v ∧ readEM ms b off = e) (w : World) (hs : Pair w0 w A N ms Z) (hN : N ≤ 100000) :
    Calls Try.prog 14 #[.pointer (some ⟨A, 0, none⟩), .int .i64 b, .int .i64 off] w fun x w' => x = .returned (.tuple #[.int .u64 v, .int .i64 e]) ∧ Pair w0 w' A N ms Z := by
  have hs' := hs
  obtain ⟨S, h1, h2, h3, h4, h5, h6⟩ := hs
  rw [← h.1, ← h.2]
  exact (readA w A N S ms h1 hN b off).mono fun e w' h => ⟨h.1, hs'.new_ h.2⟩
theorem writeP {b off x e : Int} (h : readEM ms b off = e ∧ writeM ms b off (cutW x) = ms') (w : World) (hs : Pair w0 w A N ms Z) (hN : N ≤ 100000) :
    Calls Try.prog 13 #[.pointer (some ⟨A, 0, none⟩), .int .i64 b, .int .i64 off, .int .u64 x] w fun y w' => y = .returned (.int .i64 e) ∧ Pair w0 w' A N ms' Z := by
  obtain ⟨S, h1, h2, h3, h4, h5, h6⟩ := hs
  rw [← h.1, ← h.2]
  exact (writeA w A N S ms h1 hN b off x).mono fun e w' h => ⟨h.1, Pair.turn h2 h3 h4 h5 h6 ⟨S, h.2.1, h.2.2, fun _ h => .inl h⟩⟩
/-- The empty one gives nothing. -/
theorem takeZ (w : World) (hs : Pair w0 w A N ms Z) :
    Calls Try.prog 9 #[.pointer (some ⟨Z, 0, none⟩), .int .i64 1] w fun x w' => x = .returned (.tuple #[.int .i64 0, .int .i64 7]) ∧ Pair w0 w' A N ms Z := by
  obtain ⟨S, h1, h2, h3, h4, h5, h6⟩ := hs
  obtain ⟨rs, h, hr⟩ := h4
  have hr0 : rs = [] := by simpa [ab] using hr
  subst hr0
  refine (take_any w Z 0 _ [] h (by decide) 1).mono ?_
  have hP : ∀ w', New w w' → Pair w0 w' A N ms Z := fun w' hn => Pair.new_ ⟨S, h1, h2, h3, ⟨[], h, rfl⟩, h5, h6⟩ hn
  rintro e w' (⟨hn, _, _⟩ | ⟨hn, k, hf, ⟨hr, rfl, hnw⟩ | ⟨hr, _, _⟩⟩)
  · exact absurd hn (by decide)
  · exact ⟨rfl, hP w' hnw⟩
  · have : k = 0 := by have := hf.1; simpa using this
    subst this
    exact absurd hr (by decide)
end
set_option maxRecDepth 100000 in
set_option maxHeartbeats 8000000 in
theorem areaKnown_walk (w : World) : Calls Try.prog 5 #[] w fun e w' => e = .returned (.bool true) ∧ New w w' := by
  go_enter Try.func5, Try.ntmps5
  go_wp2_with fail
  refine (awake_any w).mono ?_
  rintro e w0 ⟨rfl, n0⟩
  have HN := hid n0
  clear n0
  go_wp2_with fail
  refine (newA 6 w0).mono ?_
  rintro e w1 ⟨rfl, o1, n1⟩
  obtain ⟨A, hA⟩ : ∃ A, A = w0.heap.size := ⟨_, rfl⟩
  rw [← hA] at o1 ⊢
  have HA := hid hA
  clear hA
  go_wp2_with fail
  refine (newA (-1) w1).mono ?_
  rintro e w2 ⟨rfl, o2, n2⟩
  have s2 : Pair w0 w2 A 6 [] w1.heap.size := ⟨_, o1.new_ n2, n1.step n2, fun k hk => by rw [hk, HA.out]; exact Nat.le_refl _, o2, fun e => absurd (o1.lt (k := A) rfl) (by rw [← e]; exact Nat.lt_irrefl _), n1.size⟩
  generalize w1.heap.size = Z at *
  clear o1 n1 o2 n2 HA
  go_wp2_with fail
  refine (takeP (b := 0) (e := 0) (ms' := [(0, [0, 0])]) (by decide) w2 s2 (by decide)).mono ?_
  rintro e w3 ⟨rfl, s3⟩
  clear s2
  go_wp2_with fail
  refine (takeP (b := 2) (e := 0) (ms' := [(0, [0, 0]), (2, [0, 0])]) (by decide) w3 s3 (by decide)).mono ?_
  rintro e w4 ⟨rfl, s4⟩
  clear s3
  go_wp2_with fail
  refine (takeP (b := 4) (e := 0) (ms' := [(0, [0, 0]), (2, [0, 0]), (4, [0, 0])]) (by decide) w4 s4 (by decide)).mono ?_
  rintro e w5 ⟨rfl, s5⟩
  clear s4
  go_wp2_with fail
  refine (writeP (e := 0) (ms' := [(0, [0, 0]), (2, [0, 9]), (4, [0, 0])]) (by rw [c9]; decide) w5 s5 (by decide)).mono ?_
  rintro e w6 ⟨rfl, s6⟩
  clear s5
  go_wp2_with fail
  refine (giveP (ok := true) (ms' := [(0, [0, 0]), (4, [0, 0])]) (by decide) w6 s6 (by decide)).mono ?_
  rintro e w7 ⟨rfl, s7⟩
  clear s6
  go_wp2_with fail
  refine (takeP (b := 0) (e := 7) (ms' := [(0, [0, 0]), (4, [0, 0])]) (by decide) w7 s7 (by decide)).mono ?_
  rintro e w8 ⟨rfl, s8⟩
  clear s7
  go_wp2_with fail
  refine (takeP (b := 2) (e := 0) (ms' := [(0, [0, 0]), (2, [0]), (4, [0, 0])]) (by decide) w8 s8 (by decide)).mono ?_
  rintro e w9 ⟨rfl, s9⟩
  clear s8
  go_wp2_with fail
  refine (readP (v := 0) (e := 0) (by decide) w9 s9 (by decide)).mono ?_
  rintro e w10 ⟨rfl, s10⟩
  clear s9
  go_wp2_with fail
  refine (readP (v := 0) (e := 4) (by decide) w10 s10 (by decide)).mono ?_
  rintro e w11 ⟨rfl, s11⟩
  clear s10
  go_wp2_with fail
  refine (takeP (b := 3) (e := 0) (ms' := [(0, [0, 0]), (2, [0]), (3, [0]), (4, [0, 0])]) (by decide) w11 s11 (by decide)).mono ?_
  rintro e w12 ⟨rfl, s12⟩
  clear s11
  go_wp2_with fail
  refine (readP (v := 0) (e := 0) (by decide) w12 s12 (by decide)).mono ?_
  rintro e w13 ⟨rfl, s13⟩
  clear s12
  go_wp2_with fail
  refine (takeZ w13 s13).mono ?_
  rintro e w14 ⟨rfl, s14⟩
  clear s13
  go_wp2_with fail
  refine (usedP (n := 6) (by decide) w14 s14 (by decide)).mono ?_
  rintro e w15 ⟨rfl, s15⟩
  clear s14
  go_wp2_with fail
  refine (giveP (ok := false) (ms' := [(0, [0, 0]), (2, [0]), (3, [0]), (4, [0, 0])]) (by decide) w15 s15 (by decide)).mono ?_
  rintro e w16 ⟨rfl, s16⟩
  clear s15
  go_wp2_with fail
  refine (giveP (ok := false) (ms' := [(0, [0, 0]), (2, [0]), (3, [0]), (4, [0, 0])]) (by decide) w16 s16 (by decide)).mono ?_
  rintro e w17 ⟨rfl, s17⟩
  clear s16
  have HF : Hid (New w w17) := by obtain ⟨S, h1, h2, _⟩ := s17; exact HN.out.step h2
  clear s17
  go_wp2
  go_ret
  exact ⟨rfl, HF.out⟩
theorem areaKnown_row {H : Type} {enc : TypeId × Value → H} (W : World) {base : Nat}
    : Calls Try.prog 5 #[] W fun e W' => e = .returned (.bool true) ∧ Below W.heap.size W W' := by
  exact areaKnown_walk W
end Go.Proofs.Ytapefbmbaofbbaa.Law
