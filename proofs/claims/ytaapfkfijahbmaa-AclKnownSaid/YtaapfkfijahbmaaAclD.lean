/- The contracts of the closure of acl.Drop, slices.IndexFunc and slices.DeleteFunc at it. -/
import Derived.Test.YtaapfkfijahbmaaAclSet
namespace Go.Proofs.Ytaapfkfijahbmaa.Acl
open Go Go.RowKit Go.Proofs.Ytaapfkfijahbmaa.Kit Go.Proofs.Ytaapfkfijahbmaa.Str Go.Proofs.Ytaapfkfijahbmaa.Term Go.Proofs.Ytaapfkfijahbmaa.Names
set_option linter.unusedSimpArgs false
set_option linter.unusedVariables false
theorem del_any (t : Tm) (u : List UInt8) (B : Nat) (w : World) (h : w.cell? ⟨B, 0, none⟩ = some (st u)) : Calls Try.prog 26 #[tv t, .pointer (some ⟨B, 0, none⟩)] w fun e w' => e = .returned (.bool (t.1 == u)) ∧ New w w' := by
  have hlt := World.block_lt_of_cell? w _ h
  have hne : ¬ w.heap.size = B := fun e => by rw [← e] at hlt; exact absurd hlt (Nat.lt_irrefl _)
  go_enter Try.func26, Try.ntmps26
  go_wp2
  go_ret
  exact ⟨rfl, by (repeat (first | exact New.refl _ | (refine New.step ?_ (by assumption)) | apply New.alloc | apply New.drewN | apply New.drew))⟩
def NoneTo (l : List Tm) (u : List UInt8) (k : Nat) : Prop := ∀ (q : Nat) (x : Tm), q < k → l[q]? = some x → x.1 ≠ u
def IdxPost (w : World) (l : List Tm) (u : List UInt8) (e : Ending) (w' : World) : Prop :=
  ((∃ i t, e = .returned (.int .i64 ((i : Nat) : Int)) ∧ l[i]? = some t ∧ t.1 = u ∧ NoneTo l u i) ∨ (e = .returned (.int .i64 (-1)) ∧ NoneTo l u l.length)) ∧ New w w'
set_option maxRecDepth 100000 in
set_option maxHeartbeats 4000000 in
theorem index_any (v : Value) (l : List Tm) (u : List UInt8) (B : Nat) (w : World) (hB : w.cell? ⟨B, 0, none⟩ = some (st u)) (h : LsAt 4 tc w v l) (hl : l.length ≤ 1000000) :
    Calls Try.prog 31 #[v, .func (.func 26) #[] #[.pointer (some ⟨B, 0, none⟩)]] w (IdxPost w l u) := by
  obtain ⟨a, c, hv, hlc, hcm, _⟩ := id h
  subst hv
  unfold maxLen at hcm
  obtain ⟨n, hn⟩ : ∃ n, n = l.length := ⟨_, rfl⟩
  rw [← hn] at hlc hl h ⊢
  have H := hid (And.intro h (And.intro hn hB))
  clear h hn hB
  go_enter Try.func31, Try.ntmps31
  go_wp2_with fail
  go_loopw [8] (fun i wr => ∃ k : Nat, k ≤ n ∧ i = .int .i64 (k : Int) ∧ NoneTo l u k ∧ New w wr) (fun i _ => n - (intOf i).toNat)
  case atStart => exact ⟨0, Nat.zero_le _, rfl, fun q x hq => absurd hq (by omega), New.refl _⟩
  case round =>
    obtain ⟨k, hk, rfl, hall, hnr⟩ := hrel
    by_cases hkn : k < n
    · have w2' : IntKind.i64.wrap ((k : Int) + 1) = k + 1 := by rw [IntKind.wrap_i64]; omega
      obtain ⟨b, o, t, rfl, hx, _, hcell⟩ := (H.out.1.new_ hnr).get hkn
      have c0 := hcell 0 _ rfl
      have c1 := hcell 1 _ rfl
      have c2 := hcell 2 _ rfl
      have c3 := hcell 3 _ rfl
      rw [Nat.add_zero] at c0
      have hq := del_any t u B wr (hnr.cellK H.out.2.2)
      have j0 : (0 : Int) ≤ (k : Int) := by omega
      have j1 : (k : Int) < (n : Int) := by omega
      have HX := hid (And.intro hx (And.intro hall (And.intro hnr hq)))
      clear hcell hx hall hnr hq
      go_wp2_with fail
      refine HX.out.2.2.2.mono ?_
      rintro e w4 ⟨rfl, n4⟩
      cases he : (t.1 == u) with
      | true =>
        have HV := hid (beq_iff_eq.1 he)
        go_wp2_with fail
        go_ret
        exact ⟨.inl ⟨k, t, rfl, HX.out.1, HV.out, HX.out.2.1⟩, HX.out.2.2.1.step n4⟩
      | false =>
        have HV := hid (beq_eq_false_iff_ne.1 he)
        go_wp2_with fail
        refine ⟨⟨k + 1, by omega, by go_num, fun p y hp hy => ?_, HX.out.2.2.1.step n4⟩, by simp [intOf]; omega⟩
        by_cases e : p = k
        · rw [e, HX.out.1] at hy
          cases hy
          exact HV.out
        · exact HX.out.2.1 p y (by omega) hy
    · have j1 : ¬ (k : Int) < (n : Int) := by omega
      have HX := hid (And.intro hall hnr)
      clear hall hnr
      go_wp2_with fail
      go_ret
      exact ⟨.inr ⟨rfl, fun q x hq hx => HX.out.1 q x (by have := H.out.2.1; omega) hx⟩, HX.out.2⟩
end Go.Proofs.Ytaapfkfijahbmaa.Acl
