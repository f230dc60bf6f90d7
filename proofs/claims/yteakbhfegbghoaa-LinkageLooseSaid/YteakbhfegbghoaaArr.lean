/- An array that lies in a block of its own: plain laws over any program. -/
import Derived.Test.YteakbhfegbghoaaKit
namespace Go.Proofs.Yteakbhfegbghoaa.Kit
open Go Go.RowKit
open Go.ChangeMaps (setBlock)
set_option linter.unusedSimpArgs false
set_option linter.unusedVariables false
def Arr (w : World) (g : Nat) (t : TypeId) (n : Nat) (f : Nat → Value) : Prop := ∃ arr, Blk w g t arr ∧ arr.size = n ∧ ∀ i, i < n → arr[i]? = some (f i)
variable {w w' : World} {g n : Nat} {t : TypeId} {f : Nat → Value}
theorem Arr.cell (h : Arr w g t n f) {i : Nat} (hi : i < n) : w.cell? ⟨g, i, none⟩ = some (f i) := by
  obtain ⟨arr, hb, hs, ha⟩ := h
  rw [hb.cell]; exact ha i hi
theorem Arr.frozen (h : Arr w g t n f) (i : Nat) : w.frozen? ⟨g, i, none⟩ = false := by
  obtain ⟨arr, hb, hs, ha⟩ := h
  exact hb.frozen i
theorem Arr.lt (h : Arr w g t n f) : g < w.heap.size := by
  obtain ⟨arr, hb, hs, ha⟩ := h
  exact hb.lt
theorem Arr.set (h : Arr w g t n f) (i : Nat) (v : Value) : Arr (w.setCell ⟨g, i, none⟩ v) g t n (fun k => if k = i then v else f k) := by
  obtain ⟨arr, hb, hs, ha⟩ := h
  refine ⟨_, hb.set i v, by simpa using hs, fun k hk => ?_⟩
  rw [Array.getElem?_setIfInBounds]
  show _ = some (if k = i then v else f k)
  by_cases e : i = k
  · subst e; rw [if_pos rfl, if_pos (by omega), if_pos rfl]
  · rw [if_neg e, if_neg (fun h => e h.symm)]; exact ha k hk
theorem Arr.far (h : Arr w g t n f) {p : Addr} (hp : g ≠ p.block) (v : Value) : Arr (w.setCell p v) g t n f := by
  obtain ⟨arr, hb, hs, ha⟩ := h
  exact ⟨arr, hb.far hp v, hs, ha⟩
theorem Arr.drewN (h : Arr w g t n f) (k : Nat) : Arr (w.drewN k) g t n f := by
  obtain ⟨arr, hb, hs, ha⟩ := h
  exact ⟨arr, hb.drewN k, hs, ha⟩
theorem Arr.keeps {F : Nat → Prop} (h : Arr w g t n f) (k : Keeps F w w') (hn : ¬ F g) : Arr w' g t n f := by
  obtain ⟨arr, hb, hs, ha⟩ := h
  exact ⟨arr, hb.keeps k hn, hs, ha⟩
theorem Arr.new_ (h : Arr w g t n f) (k : New w w') : Arr w' g t n f := by
  obtain ⟨arr, hb, hs, ha⟩ := h
  exact ⟨arr, hb.new_ k, hs, ha⟩
theorem Arr.alloc (h : Arr w g t n f) (o : Obj) : Arr (w.alloc o) g t n f := by
  obtain ⟨arr, hb, hs, ha⟩ := h
  exact ⟨arr, hb.alloc o, hs, ha⟩
theorem Arr.congr {f' : Nat → Value} (h : Arr w g t n f) (e : ∀ i, i < n → f i = f' i) : Arr w g t n f' := by
  obtain ⟨arr, hb, hs, ha⟩ := h
  exact ⟨arr, hb, hs, fun i hi => by rw [ha i hi, e i hi]⟩
def zarr (n : Nat) (v : Value) : Array Value := (List.replicate n v).toArray
theorem zarr_size (n : Nat) (v : Value) : (zarr n v).size = n := by unfold zarr; rw [List.size_toArray, List.length_replicate]
theorem zarr_get {n i : Nat} (v : Value) (h : i < n) : (zarr n v)[i]? = some v := by unfold zarr; rw [List.getElem?_toArray, List.getElem?_replicate, if_pos h]
theorem Arr.new (w : World) (t : TypeId) (n : Nat) (v : Value) : Arr (w.alloc (.cells (zarr n v) t)) w.heap.size t n (fun _ => v) := ⟨_, Blk.new w t _, zarr_size n v, fun i hi => zarr_get v hi⟩
end Go.Proofs.Yteakbhfegbghoaa.Kit
