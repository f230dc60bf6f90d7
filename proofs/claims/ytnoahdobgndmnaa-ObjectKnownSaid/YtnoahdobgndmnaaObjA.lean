/- awake; Small. -/
import Derived.Test.YtnoahdobgndmnaaObjT
namespace Go.Proofs.Ytnoahdobgndmnaa.Obj
open Go Go.RowKit Go.Maps Go.Proofs.Ytnoahdobgndmnaa.Kit Go.Proofs.Ytnoahdobgndmnaa.Str Go.Proofs.Ytnoahdobgndmnaa.Names Go.Proofs.Ytnoahdobgndmnaa.Let Go.Proofs.Ytnoahdobgndmnaa.Wd
open Go.Proofs.Ytnoahdobgndmnaa.Letters (wv WsAt word_info)
set_option linter.unusedSimpArgs false
set_option linter.unusedVariables false
def nilO : Ob := ⟨[], [], [], []⟩
abbrev nilV : Value := .agg #[.slice none 0 0, .slice none 0 0, .slice none 0 0, .slice none 0 0]
theorem nil_at (w : World) : ObAt w nilV nilO := ⟨_, _, _, _, rfl, LsAt.nil, LsAt.nil, LsAt.nil, LsAt.nil⟩
theorem nil_lens : Lens nilO := ⟨fun d hd => (by cases hd), fun d hd => (by cases hd)⟩
theorem nil_may : mayB nilO = true := by decide
theorem nil_enc : encO nilO = [0, 0, 0, 0, 45812815077] := rfl
theorem five_mm : mm [0, 0, 0, 0, 45812815077] 0 = 0 ∧ mm [0, 0, 0, 0, 45812815077] 1 = 0 ∧ mm [0, 0, 0, 0, 45812815077] 2 = 0 ∧ mm [0, 0, 0, 0, 45812815077] 3 = 0 ∧ mm [0, 0, 0, 0, 45812815077] 4 = 45812815077 := by decide
theorem five_e : theE [0, 0, 0, 0, 45812815077] = ([], false) := by
  unfold theE
  rw [five_mm.1, five_mm.2.1, five_mm.2.2.1, five_mm.2.2.2.1]
  simp [readE, linksR, defsR, takeR]
theorem five_o : theO [0, 0, 0, 0, 45812815077] = nilO := by
  unfold theO
  rw [five_mm.1, five_mm.2.1, five_mm.2.2.1, five_mm.2.2.2.1]
  simp [readO, linksR, defsR, takeR, nilO]
theorem five_reads : Reads [0, 0, 0, 0, 45812815077] := by
  refine ⟨⟨by decide, by decide, five_mm.2.2.2.2, ?_, ?_, ?_, ?_⟩, by rw [five_e], by rw [five_e], by rw [five_o]; exact nil_may⟩
  · rw [five_mm.1]; decide
  · rw [five_mm.2.1]; decide
  · rw [five_mm.2.2.1]; decide
  · rw [five_mm.2.2.2.1]; decide
set_option maxRecDepth 100000 in
set_option maxHeartbeats 4000000 in
theorem awake_any (w : World) : Calls Try.prog 8 #[] w fun e w' => e = .returned (.bool true) ∧ New w w' := by
  have hW := hid (wordsO_any w _ nilO (nil_at w) nil_lens)
  go_enter Try.func8, Try.ntmps8
  go_wp2_with fail
  refine hW.out.mono ?_
  rintro e w2 (⟨_, v2, rfl, hls, hn2⟩ | ⟨hno, _⟩)
  · rw [nil_enc] at hls
    have hR := hid (Read_any w2 v2 _ hls (by decide))
    obtain ⟨a2, c2, rfl, hc2, _, hcell⟩ := id hls
    obtain ⟨b, o, rfl, hb, hcl⟩ := hcell (by decide)
    have e4 : w2.cell? ⟨b, o + 4, none⟩ = some (.int .u64 45812815077) := hcl 4 _ rfl 0 _ rfl
    have HN2 := hid hn2
    clear hls hcell hcl hn2 hb hW
    go_wp2_with fail
    refine hR.out.mono ?_
    rintro e w3 (⟨_, v3, rfl, hob, hn3⟩ | ⟨hno, _⟩)
    · rw [five_o] at hob
      obtain ⟨p, q, r, s, rfl, ⟨_, _, h1, _⟩, ⟨_, _, h2, _⟩, ⟨_, _, h3, _⟩, ⟨_, _, h4, _⟩⟩ := id hob
      subst h1 h2 h3 h4
      have f4 := hn3.cellK e4
      have fa := fun ob => ((New.refl w3).alloc ob).cellK f4
      have HN3 := hid (HN2.out.step hn3)
      have hM := fun X => mayO_any X _ nilO (nil_at X) nil_lens
      rw [nil_may] at hM
      clear hob hn3 hR
      go_wp2_with fail
      refine (hM _).mono ?_
      rintro e w5 ⟨rfl, hn5⟩
      have HN5 := hid hn5
      clear hn5
      go_wp2_with fail
      go_ret
      exact ⟨rfl, (HN3.out.alloc _).step HN5.out⟩
    · exact absurd five_reads hno
  · rw [nil_may] at hno; cases hno
end Go.Proofs.Ytnoahdobgndmnaa.Obj
