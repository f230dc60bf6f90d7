/- The reference's reader: word. -/
import Derived.Test.YtnoahdobgndmnaaObjU
import Derived.BigQuiet
namespace Go.Proofs.Ytnoahdobgndmnaa.Obj
open Go Go.RowKit Go.Maps Go.Proofs.Ytnoahdobgndmnaa.Kit Go.Proofs.Ytnoahdobgndmnaa.Str Go.Proofs.Ytnoahdobgndmnaa.Names Go.Proofs.Ytnoahdobgndmnaa.Let Go.Proofs.Ytnoahdobgndmnaa.Wd
open Go.Proofs.Ytnoahdobgndmnaa.Letters (wv)
set_option linter.unusedSimpArgs false
set_option linter.unusedVariables false
/-- The reference's reader in its block: words, place, fault. -/
def QAt (Bd : Nat) (w : World) (R : Nat) (ws : List Nat) (at_ : Nat) (bad : Bool) : Prop :=
  ∃ v, Blk w R 69 #[v, .int .i64 (at_ : Int), .bool bad] ∧ LsAt 1 uw w v ws ∧ (∀ g, v.ownBlock = some g → g < R ∧ g < Bd)
theorem QAt.keeps {Bd : Nat} {w w' : World} {R : Nat} {ws : List Nat} {at_ : Nat} {bad : Bool} (h : QAt Bd w R ws at_ bad) {F : Nat → Prop} (n : Keeps F w w') (hF : ∀ k, k ≤ R → ¬ F k) : QAt Bd w' R ws at_ bad := by
  obtain ⟨v, h1, h2, h3⟩ := h
  exact ⟨v, h1.keeps n (hF R (Nat.le_refl _)), h2.keeps n (fun g hg => hF g (Nat.le_of_lt (h3 g hg).1)), h3⟩
def wordQ (ws : List Nat) (at_ : Nat) (bad : Bool) : Nat × Nat × Bool := if bad = false ∧ at_ < ws.length then (ws.getD at_ 0, at_ + 1, false) else (0, at_, true)
theorem QAt.put {Bd : Nat} {w : World} {R : Nat} {ws : List Nat} {at_ : Nat} {bad : Bool} (h : QAt Bd w R ws at_ bad) (a2 : Nat) (b2 : Bool) (w' : World) (hk : Keeps (fun k => k = R) w w') (hb : ∀ v, Blk w R 69 #[v, .int .i64 (at_ : Int), .bool bad] → Blk w' R 69 #[v, .int .i64 (a2 : Int), .bool b2]) : QAt Bd w' R ws a2 b2 := by
  obtain ⟨v, h1, h2, h3⟩ := h
  exact ⟨v, hb v h1, h2.keeps hk (fun g hg e => by have := h3 g hg; omega), h3⟩
set_option maxRecDepth 100000 in
set_option maxHeartbeats 1000000 in
theorem word_any {Bd : Nat} (w : World) (R : Nat) (ws : List Nat) (at_ : Nat) (bad : Bool) (h : QAt Bd w R ws at_ bad) (hl : ws.length ≤ 1000000) (ha : at_ ≤ 1000000) :
    Calls Try.prog 38 #[.pointer (some ⟨R, 0, none⟩)] w fun e w' => e = .returned (wv (wordQ ws at_ bad).1) ∧ QAt Bd w' R ws (wordQ ws at_ bad).2.1 (wordQ ws at_ bad).2.2 ∧ Keeps (fun k => k = R) w w' := by
  have H := hid h
  obtain ⟨v, hb, hls, hlt⟩ := h
  obtain ⟨a, c, hv, _, _, hcell⟩ := id hls
  obtain ⟨L, hL⟩ : ∃ L, L = ws.length := ⟨_, rfl⟩
  rw [← hL] at hv hl hcell
  subst hv
  have d0 : w.cell? ⟨R, 0, none⟩ = some (.slice a L c) := by rw [hb.cell]; rfl
  have d1 : w.cell? ⟨R, 1, none⟩ = some (.int .i64 (at_ : Int)) := by rw [hb.cell]; rfl
  have d2 : w.cell? ⟨R, 2, none⟩ = some (.bool bad) := by rw [hb.cell]; rfl
  have f1 := hb.frozen 1
  have f2 := hb.frozen 2
  by_cases hok : bad = false ∧ at_ < L
  · obtain ⟨rfl, hlt2⟩ := hok
    obtain ⟨b, o, rfl, hbb, hc⟩ := hcell (by omega)
    have hne : ¬ b = R := by have := hlt b rfl; omega
    obtain ⟨x, hx⟩ : ∃ x, ws[at_]? = some x := ⟨_, List.getElem?_eq_getElem (by omega)⟩
    have c0 : w.cell? ⟨b, o + at_, none⟩ = some (.int .u64 (x : Int)) := by
      have := hc at_ x hx 0 _ rfl
      rw [Nat.mul_one, Nat.add_zero] at this
      exact this
    have hk1 : Keeps (fun k => k = R) w (w.setCell ⟨R, 1, none⟩ (.int .i64 ((at_ : Int) + 1))) := Keeps.setCell (F := fun k => k = R) (Keeps.refl _ _) (.inr rfl) _
    have hQ : QAt Bd (w.setCell ⟨R, 1, none⟩ (.int .i64 ((at_ : Int) + 1))) R ws (at_ + 1) false := H.out.put (at_ + 1) false _ hk1 (fun v hv => by simpa using hv.set 1 (.int .i64 ((at_ : Int) + 1)))
    have hk2 : ∀ n, Keeps (fun k => k = R) w ((w.drewN n).setCell ⟨R, 1, none⟩ (.int .i64 ((at_ : Int) + 1))) := fun n => Keeps.setCell (F := fun k => k = R) ((Keeps.refl _ _).drewN n) (.inr rfl) _
    have hQ2 : ∀ n, QAt Bd ((w.drewN n).setCell ⟨R, 1, none⟩ (.int .i64 ((at_ : Int) + 1))) R ws (at_ + 1) false := fun n => H.out.put (at_ + 1) false _ (hk2 n) (fun v hv => by
      have hv' : Blk (w.drewN n) R 69 #[v, .int .i64 (at_ : Int), .bool false] := hv
      simpa using hv'.set 1 (.int .i64 ((at_ : Int) + 1)))
    have hw : wordQ ws at_ false = (x, at_ + 1, false) := by unfold wordQ; rw [if_pos ⟨rfl, by rw [← hL]; exact hlt2⟩, List.getD_eq_getElem?_getD, hx]; rfl
    have HF := hid (And.intro hw (And.intro hQ2 hk2))
    have z1 : ¬ (L : Int) ≤ (at_ : Int) := by omega
    have z2 : IntKind.i64.wrap ((at_ : Int) + 1) = (at_ : Int) + 1 := by rw [IntKind.wrap_i64]; omega
    have z3 : IntKind.i64.wrap ((at_ : Int) + 1 - 1) = (at_ : Int) := by rw [IntKind.wrap_i64]; omega
    have z4 : IntKind.i64.wrap (at_ : Int) = (at_ : Int) := by rw [IntKind.wrap_i64]; omega
    have z5 : (0 : Int) ≤ (at_ : Int) := by omega
    have z6 : (at_ : Int) < (L : Int) := by omega
    have e0 := hk1.cell c0 hne
    clear hb hls hlt hcell hc hQ hQ2 hk2 hw hL hx hk1
    go_enter Try.func38, Try.ntmps38
    go_wp2_with fail
    go_quiet (fail)
    go_wp2_with fail
    go_quiet (fail)
    go_wp2_with fail
    go_ret
    rw [HF.out.1]
    exact ⟨rfl, (HF.out.2.1 _).keeps ((Keeps.refl (fun _ => False) _).drewN _) (fun _ _ h => h), (HF.out.2.2 _).drewN _⟩
  · have hk1 : Keeps (fun k => k = R) w (w.setCell ⟨R, 2, none⟩ (.bool true)) := Keeps.setCell (F := fun k => k = R) (Keeps.refl _ _) (.inr rfl) _
    have hQ : QAt Bd (w.setCell ⟨R, 2, none⟩ (.bool true)) R ws at_ true := H.out.put at_ true _ hk1 (fun v hv => by simpa using hv.set 2 (.bool true))
    have hw : wordQ ws at_ bad = (0, at_, true) := by unfold wordQ; rw [if_neg (by rw [← hL]; exact hok)]
    have HF := hid (And.intro hw (And.intro hQ hk1))
    cases hbd : bad with
    | true =>
      subst hbd
      clear hb hls hlt hcell hQ hw hL hk1 hok
      go_enter Try.func38, Try.ntmps38
      go_wp2_with fail
      go_quiet (fail)
      go_wp2_with fail
      go_ret
      rw [HF.out.1]
      exact ⟨rfl, HF.out.2.1.keeps ((Keeps.refl (fun _ => False) _).drewN _) (fun _ _ h => h), HF.out.2.2.drewN _⟩
    | false =>
      subst hbd
      have z1 : (L : Int) ≤ (at_ : Int) := by
        have : ¬ at_ < L := fun h => hok ⟨rfl, h⟩
        omega
      clear hb hls hlt hcell hQ hw hL hk1 hok
      go_enter Try.func38, Try.ntmps38
      go_wp2_with fail
      go_quiet (fail)
      go_wp2_with fail
      go_ret
      rw [HF.out.1]
      exact ⟨rfl, HF.out.2.1.keeps ((Keeps.refl (fun _ => False) _).drewN _) (fun _ _ h => h), HF.out.2.2.drewN _⟩
end Go.Proofs.Ytnoahdobgndmnaa.Obj
