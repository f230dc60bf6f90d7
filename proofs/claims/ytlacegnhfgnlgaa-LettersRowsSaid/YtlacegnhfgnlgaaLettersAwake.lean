/- The example that every law of layer 9 opens with. -/
import Derived.Test.YtlacegnhfgnlgaaLetRead
namespace Go.Proofs.Ytlacegnhfgnlgaa.Law
open Go Go.RowKit Go.Proofs.Ytlacegnhfgnlgaa.Kit Go.Proofs.Ytlacegnhfgnlgaa.Let Go.Proofs.Ytlacegnhfgnlgaa.Letters
set_option linter.unusedSimpArgs false
set_option linter.unusedVariables false
theorem enc_lt (l : List UInt8) (hl : l.length ≤ 255) (i : Nat) : (enc l).getD i 0 < 18446744073709551616 := by
  cases i with
  | zero => rw [enc_zero]; omega
  | succ i =>
    by_cases h : i < nW l.length
    · rw [enc_succ l h]; exact Nat.lt_trans (wd_lt l i) (by decide)
    · rw [List.getD_eq_getElem?_getD, List.getElem?_eq_none (by rw [enc_len]; omega)]; decide
set_option maxRecDepth 100000 in
theorem awake_any (w : World) : Calls Try.prog 7 #[] w fun e w' => e = .returned (.bool true) ∧ New w w' := by
  have q1 := fun X => Words_yes [97, 98] (by decide) X
  have hst : st [97, 98] = Value.string ⟨#[97, 98]⟩ := rfl
  have he : enc [97, 98] = [2, 13044809728] := by decide
  rw [he, hst] at q1
  go_enter Try.func7, Try.ntmps7
  go_wp2_with fail
  refine (q1 _).mono ?_
  rintro e w1 ⟨v, rfl, hs, n1⟩
  have hws := WsAt.of_sl hs
  have hok := rdOk_enc [97, 98] (by decide) []
  rw [he, List.append_nil] at hok
  have q2 := Read_yes w1 v _ hws (fun i => by rw [← he]; exact enc_lt _ (by decide) i) (by decide) hok.1
  have e2 : readV [2, 13044809728] = .tuple #[.string ⟨#[97, 98]⟩, .int .i64 2, .int .i64 0] := by
    unfold readV
    rw [hok.2]
    rfl
  rw [e2] at q2
  obtain ⟨g, o, cap, rfl, _, hg, _, hcl, _⟩ := hs.form (by decide)
  have c0 : w1.cell? ⟨g, o, none⟩ = some (.int .u64 2) := hcl 0 _ rfl
  have c1 : w1.cell? ⟨g, o + 1, none⟩ = some (.int .u64 13044809728) := hcl 1 _ rfl
  have hl2 : ([2, 13044809728] : List Nat).length = 2 := rfl
  rw [hl2] at q2 ⊢
  clear hcl hs hws
  go_wp2_with fail
  refine q2.mono ?_
  rintro e w2 ⟨rfl, n2⟩
  have d0 := n2.cellK c0
  have d1 := n2.cellK c1
  go_wp2
  go_ret
  exact ⟨rfl, n1.step n2⟩
end Go.Proofs.Ytlacegnhfgnlgaa.Law
