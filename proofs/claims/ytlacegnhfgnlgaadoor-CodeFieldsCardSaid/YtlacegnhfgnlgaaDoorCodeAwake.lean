/- Code: Read at the example's word, Name at hlt, awake. -/
import Derived.Test.YtlacegnhfgnlgaaDoorCode
namespace Go.Proofs.YtlacegnhfgnlgaaDoor.Code
open Go Go.RowKit Go.Proofs.YtlacegnhfgnlgaaDoor.Wd Go.Proofs.YtlacegnhfgnlgaaDoor.Word Go.Proofs.YtlacegnhfgnlgaaDoor.Kit
set_option linter.unusedSimpArgs false
set_option linter.unusedVariables false
theorem read_one (w : World) : Calls Tryd.prog 7 #[.int .u64 1207959557] w fun e w' => e = .returned (.tuple #[inst 1 1 0 5, .int .i64 0]) ∧ New w w' := by
  have g1 := fun w => get_any 1207959557 0 6 (by omega) (by omega) (by omega) w
  have g2 := fun w => get_any 1207959557 6 3 (by omega) (by omega) (by omega) w
  have g3 := fun w => get_any 1207959557 9 3 (by omega) (by omega) (by omega) w
  have g4 := fun w => get_any 1207959557 18 18 (by omega) (by omega) (by omega) w
  rw [show getN 1207959557 0 6 = 1 from by decide] at g1
  rw [show getN 1207959557 6 3 = 1 from by decide] at g2
  rw [show getN 1207959557 9 3 = 0 from by decide] at g3
  rw [show getN 1207959557 18 18 = 5 from by decide] at g4
  have hw := fun w => word_yes 1 1 0 5 (by decide) w
  rw [show codeN 1 1 0 5 = 1207959557 from by decide] at hw
  have hm : Go.bits .and .u64 1207959557 68719476735 = 1207959557 := by decide
  have H := hid (And.intro g1 (And.intro g2 (And.intro g3 (And.intro g4 hw))))
  clear g1 g2 g3 g4 hw
  go_enter Tryd.func7, Tryd.ntmps7
  go_wp2_with fail
  refine (H.out.1 _).mono ?_
  rintro e w' ⟨rfl, rfl⟩
  go_wp2_with fail
  refine (H.out.2.1 _).mono ?_
  rintro e w' ⟨rfl, rfl⟩
  go_wp2_with fail
  refine (H.out.2.2.1 _).mono ?_
  rintro e w' ⟨rfl, rfl⟩
  go_wp2_with fail
  refine (H.out.2.2.2.1 _).mono ?_
  rintro e w' ⟨rfl, rfl⟩
  go_wp2_with fail
  refine (H.out.2.2.2.2 _).mono ?_
  rintro e w5 ⟨rfl, n5⟩
  have hI := (Blk.new (w.alloc (.cells #[.int .i64 0, .int .i64 0, .int .i64 0, .int .i64 0] 23)) 23 #[.int .i64 1, .int .i64 1, .int .i64 0, .int .i64 5]).new_ n5
  have hZ := ((Blk.new w 23 #[.int .i64 0, .int .i64 0, .int .i64 0, .int .i64 0]).alloc (.cells #[.int .i64 1, .int .i64 1, .int .i64 0, .int .i64 5] 23)).new_ n5
  rw [World.size_alloc] at hI
  have hI0 : w5.cell? ⟨w.heap.size + 1, 0, none⟩ = some (.int .i64 1) := by rw [hI.cell]; rfl
  have hI1 : w5.cell? ⟨w.heap.size + 1, 1, none⟩ = some (.int .i64 1) := by rw [hI.cell]; rfl
  have hI2 : w5.cell? ⟨w.heap.size + 1, 2, none⟩ = some (.int .i64 0) := by rw [hI.cell]; rfl
  have hI3 : w5.cell? ⟨w.heap.size + 1, 3, none⟩ = some (.int .i64 5) := by rw [hI.cell]; rfl
  have hc := fun i => hZ.cell i
  have hf := fun i => hZ.frozen i
  have hz := hZ.lt
  have hn1 : New w w5 := (((New.refl w).alloc _).alloc _).step n5
  clear n5 hI hZ
  go_wp2
  refine bodyPost_ret (v := .tuple #[inst 1 1 0 5, .int .i64 0]) (by simp [results, Tryd.results7, go_sem, hz, hc, hf, size_setCell, World.cell?_setCell_other]) rfl ?_
  refine ⟨rfl, ?_⟩
  repeat (first | exact hn1 | (refine New.setCell ?_ (by first | exact Nat.le_refl _ | (simp; omega)) _))
def namesB : List UInt8 := [110, 111, 112, 32, 108, 100, 97, 32, 115, 116, 97, 32, 97, 100, 100, 32, 115, 117, 98, 32, 97, 110, 100, 32, 116, 114, 97, 32, 116, 122, 101, 32, 116, 109, 105, 32, 101, 112, 112, 32, 115, 112, 112, 32, 99, 97, 108, 108, 32, 114, 116, 110, 32, 104, 108, 116]
theorem fields_len : (Lib.fields namesB).length = 14 := by decide +kernel
theorem fields_hlt : (Lib.fields namesB)[13]? = some [104, 108, 116] := by decide +kernel
theorem names_ascii : ∀ (j : Nat) b, namesB[j]? = some b → b.toNat < 128 := by
  intro j b hb
  have h : (namesB.all fun b => decide (b.toNat < 128)) = true := by decide +kernel
  simpa using List.all_eq_true.1 h b (List.mem_of_getElem? hb)
theorem gSpace : Tryd.prog.globalNamed "strings.asciiSpace" = some 0 := by kernel_rfl
def Tab (w : World) : Prop := Lib.TabIs Tryd.prog w "strings.asciiSpace" .u8 Lib.asciiSpaceTab
theorem Tab.new_ {w w' : World} (h : Tab w) (hn : New w w') : Tab w' := Go.Joins.tab_stays gSpace h hn.below (Nat.le_refl _)
theorem fields_any (w : World) (h : Tab w) : Calls Tryd.prog 13 #[.string ⟨#[110, 111, 112, 32, 108, 100, 97, 32, 115, 116, 97, 32, 97, 100, 100, 32, 115, 117, 98, 32, 97, 110, 100, 32, 116, 114, 97, 32, 116, 122, 101, 32, 116, 109, 105, 32, 101, 112, 112, 32, 115, 112, 112, 32, 99, 97, 108, 108, 32, 114, 116, 110, 32, 104, 108, 116]⟩] w fun e w' =>
    e = .returned (.slice (some ⟨w.heap.size, 0, none⟩) 14 14) ∧ New w w' ∧ w'.cell? ⟨w.heap.size, 13, none⟩ = some (.string ⟨#[104, 108, 116]⟩) := by
  have hF := Any.strings_Fields fieldsLay (by kernel_rfl) gSpace ⟨namesB.toArray⟩ w (by decide) names_ascii h
  refine Calls.mono hF ?_
  rintro e w' ⟨rfl, rfl⟩
  refine ⟨by rw [show (ByteArray.mk namesB.toArray).data.toList = namesB from rfl, fields_len], (New.refl _).alloc _, ?_⟩
  rw [(Blk.new w _ _).cell]
  rw [show (ByteArray.mk namesB.toArray).data.toList = namesB from rfl]
  simp [fields_hlt]
theorem name_hlt (w : World) (h : Tab w) : Calls Tryd.prog 8 #[.int .i64 13] w fun e w' => e = .returned (.string ⟨#[104, 108, 116]⟩) ∧ New w w' := by
  have H := fields_any w h
  go_enter Tryd.func8, Tryd.ntmps8
  go_wp2_with fail
  refine H.mono ?_
  rintro e w' ⟨rfl, n5, hc⟩
  have HN := hid n5
  clear n5 H
  go_wp2
  go_ret
  exact ⟨rfl, HN.out⟩
theorem awake_any (w : World) (h : Tab w) : Calls Tryd.prog 4 #[] w fun e w' => e = .returned (.bool true) ∧ New w w' := by
  have he := fun (a b c d a' b' c' d' : Int) w => eql_inst a b c d a' b' c' d' w
  have hw := fun w => word_yes 0 0 0 0 (by decide) w
  rw [show codeN 0 0 0 0 = 0 from by decide] at hw
  have H := hid hw
  have HT := hid h
  clear hw h
  have hie : instEq 1 1 0 5 1 1 0 5 = true := by decide
  go_enter Tryd.func4, Tryd.ntmps4
  go_wp2_with fail
  refine (H.out _).mono ?_
  rintro e w1 ⟨rfl, n1⟩
  have H1 := hid n1
  clear n1
  go_wp2_with fail
  refine (read_one _).mono ?_
  rintro e w2 ⟨rfl, n2⟩
  have H2 := hid ((H1.out.step n2).alloc (.cells #[.int .i64 1, .int .i64 1, .int .i64 0, .int .i64 5] 23))
  clear n2
  go_wp2_with fail
  refine (name_hlt _ (HT.out.new_ H2.out)).mono ?_
  rintro e w3 ⟨rfl, n3⟩
  have H3 := hid (H2.out.step n3)
  clear n3
  go_wp2
  go_ret
  exact ⟨rfl, H3.out⟩
end Go.Proofs.YtlacegnhfgnlgaaDoor.Code
