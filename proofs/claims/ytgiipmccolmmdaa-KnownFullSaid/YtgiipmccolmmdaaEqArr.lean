/- '==' of two arrays of whole numbers. Plain law over any program. -/
import Derived.Test.YtgiipmccolmmdaaKit
import Derived.ChangeKeysEq
namespace Go.Proofs.Ytgiipmccolmmdaa.Kit
open Go Go.RowKit Go
set_option linter.unusedSimpArgs false
set_option linter.unusedVariables false
theorem eqItems_ints {P : Program} {e : TypeId} (he : P.underlying e = some (.int .i64)) (hp : P.plainKey e = true) (d : Nat) (xs ys : List Int) (w : World) :
    ∀ is : List Nat, (∀ i ∈ is, i < xs.length ∧ i < ys.length) → (Op.eqItems (d + 1) e 1 (xs.map (Value.int .i64)).toArray (ys.map (Value.int .i64)).toArray is).run P w = .ok (is.all fun i => xs.getD i 0 == ys.getD i 0) w
  | [], _ => by simp [Op.eqItems]
  | i :: is, h => by
    have hi := h i List.mem_cons_self
    have e1 : (xs.map (Value.int .i64)).toArray[i * 1]? = some (.int .i64 (xs.getD i 0)) := by simp [hi.1]
    have e2 : (ys.map (Value.int .i64)).toArray[i * 1]? = some (.int .i64 (ys.getD i 0)) := by simp [hi.2]
    have p1 := run_part_plain (w := w) hp e1
    have p2 := run_part_plain (w := w) hp e2
    have p3 : (Op.equalIn (d + 1) e (.int .i64 (xs.getD i 0)) (.int .i64 (ys.getD i 0))).run P w = .ok (xs.getD i 0 == ys.getD i 0) w := by simp [Op.equalIn, run_underlying he]
    have ih := eqItems_ints he hp d xs ys w is (fun j hj => h j (List.mem_cons_of_mem _ hj))
    simp only [Op.eqItems, Sem.run_bind, p1, p2, p3, Result.andThen_ok, List.all_cons]
    cases hb : (xs.getD i 0 == ys.getD i 0)
    · simp
    · simpa using ih
end Go.Proofs.Ytgiipmccolmmdaa.Kit
