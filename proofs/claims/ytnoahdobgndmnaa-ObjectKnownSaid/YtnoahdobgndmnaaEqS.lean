/- Equality of structs, field by field. Plain laws over any program. -/
import Derived.Test.YtnoahdobgndmnaaStr
import Derived.Laws.StructEq
namespace Go.Proofs.Ytnoahdobgndmnaa.Kit
open Go Go.RowKit Go.Proofs.Ytnoahdobgndmnaa.Str
set_option linter.unusedSimpArgs false
set_option linter.unusedVariables false
theorem eqf_cons {P : Program} {d : Nat} {xs ys : Array Value} {f : Field} {fs : List Field} {a b : Value} {r s : Bool} {w : World} (hn : (f.name == "_") = false) (ha : (part f.type xs f.offset).run P w = .ok a w) (hb : (part f.type ys f.offset).run P w = .ok b w) (he : (Op.equalIn d f.type a b).run P w = .ok r w) (hr : (Op.eqFields d xs ys fs).run P w = .ok s w) : (Op.eqFields d xs ys (f :: fs)).run P w = .ok (r && s) w := by
  have hn' : f.name ≠ "_" := by simpa using hn
  rw [Op.eqFields]
  simp only [if_pos hn', Sem.run_bind, ha, hb, he, Result.andThen_ok]
  cases r
  · simp
  · simpa using hr
theorem eqf_nil {P : Program} {d : Nat} {xs ys : Array Value} {w : World} : (Op.eqFields d xs ys []).run P w = .ok true w := by simp [Op.eqFields]
theorem eqA_of {P : Program} {d : Nat} {xs ys : Array Value} {r : Bool} {w : World} {t : TypeId} {fs : Array Field} (hu : P.underlying t = some (.struct fs)) (hp : P.stoodInHeld t = false) (h : (Op.eqFields d xs ys fs.toList).run P w = .ok r w) : (Op.equalIn (d + 1) t (.agg xs) (.agg ys)).run P w = .ok r w := by
  have hf : P.fieldsOf t = fs := by simp [Program.fieldsOf, hu]
  rw [run_equalIn_struct (P := P) w d t xs ys (by rw [hf]; exact hu) hp, hf]
  exact h
theorem equalIn_int {P : Program} {t : TypeId} {k : IntKind} (d : Nat) (h : P.underlying t = some (.int k)) (a b : Int) (w : World) : (Op.equalIn (d + 1) t (.int k a) (.int k b)).run P w = .ok (a == b) w := by
  simp [Op.equalIn, run_underlying h]
theorem equalIn_bool {P : Program} {t : TypeId} (d : Nat) (h : P.underlying t = some .bool) (a b : Bool) (w : World) : (Op.equalIn (d + 1) t (.bool a) (.bool b)).run P w = .ok (a == b) w := run_equalIn_bool w d t a b h
theorem equalIn_str {P : Program} {t : TypeId} (d : Nat) (h : P.underlying t = some .string) (a b : List UInt8) (w : World) : (Op.equalIn (d + 1) t (st a) (st b)).run P w = .ok (a == b) w := by
  have := run_equalIn_string w d t ⟨a.toArray⟩ ⟨b.toArray⟩ h
  rw [st_toList, st_toList] at this
  exact this
theorem eql_of {P : Program} {t : TypeId} {xs ys : Array Value} {r : Bool} {w : World} (h : (Op.equalIn 10000 t (.agg xs) (.agg ys)).run P w = .ok r w) : (binOp .eql t (.agg xs) (.agg ys)).run P w = .ok (.bool r) w := by
  rw [run_eql_struct, h]; rfl
theorem neq_of {P : Program} {t : TypeId} {xs ys : Array Value} {r : Bool} {w : World} (h : (Op.equalIn 10000 t (.agg xs) (.agg ys)).run P w = .ok r w) : (binOp .neq t (.agg xs) (.agg ys)).run P w = .ok (.bool (!r)) w := by
  rw [run_neq_struct, h]; rfl
end Go.Proofs.Ytnoahdobgndmnaa.Kit
