/- The contracts of package ring. Brackets are four whole numbers, flags three truths; struct parameters are boxed: blocks of the call's own stay behind. -/
import Derived.Test.YtgdocnejieaogaaProg
import Derived.Test.YtgdocnejieaogaaKit
namespace Go.Proofs.Ytgdocnejieaogaa.Ring
open Go Go.RowKit Go.Proofs.Ytgdocnejieaogaa.Kit
set_option linter.unusedSimpArgs false
set_option linter.unusedVariables false

abbrev br (a b c g : Int) : Value := .agg #[.int .i64 a, .int .i64 b, .int .i64 c, .int .i64 g]
abbrev fl (r w e : Bool) : Value := .agg #[.bool r, .bool w, .bool e]

def mayB (a b c g : Int) : Bool := decide (0 ≤ a ∧ a ≤ b ∧ b ≤ c ∧ c ≤ 7 ∧ 0 ≤ g ∧ g ≤ 1024)
theorem mayB_iff {a b c g : Int} : mayB a b c g = true ↔ (0 ≤ a ∧ a ≤ b ∧ b ≤ c ∧ c ≤ 7 ∧ 0 ≤ g ∧ g ≤ 1024) := by simp [mayB]
def fineB (a b c g r : Int) : Bool := decide ((0 ≤ a ∧ a ≤ b ∧ b ≤ c ∧ c ≤ 7 ∧ 0 ≤ g ∧ g ≤ 1024) ∧ 0 ≤ r ∧ r ≤ 7)
theorem fineB_iff {a b c g r : Int} : fineB a b c g r = true ↔ ((0 ≤ a ∧ a ≤ b ∧ b ≤ c ∧ c ≤ 7 ∧ 0 ≤ g ∧ g ≤ 1024) ∧ 0 ≤ r ∧ r ≤ 7) := by simp [fineB]
def readE (a b c g : Int) (f : Bool) (r : Int) : Int := if fineB a b c g r = true then if f = true then if r ≤ b then 0 else 10 else 9 else 1
def writeE (a b c g : Int) (f : Bool) (r : Int) : Int := if fineB a b c g r = true then if f = true then if r ≤ a then 0 else 10 else 9 else 1
def execE (a b c g : Int) (f : Bool) (r : Int) : Int := if fineB a b c g r = true then if f = true then if a ≤ r ∧ r ≤ b then 0 else 10 else 9 else 1
def callE (a b c g : Int) (f : Bool) (r o : Int) : Int × Int :=
  if fineB a b c g r = true then if f = true then if a ≤ r ∧ r ≤ c then if r ≤ b then (r, 0) else if 0 ≤ o ∧ o < g then (b, 0) else (0, 11) else (0, 10) else (0, 9) else (0, 1)

theorem may_any (a b c g : Int) (w : World) : Calls Try.prog 16 #[br a b c g] w fun e w' => e = .returned (.bool (mayB a b c g)) ∧ New w w' := by
  go_enter Try.func16, Try.ntmps16
  go_wp2
  all_goals
    go_ret
    refine ⟨ret_bool (Bool.eq_iff_iff.2 ?_), ?_⟩
    · rw [mayB_iff]; simp; try omega
    · (repeat (first | exact New.refl _ | (refine New.step ?_ (by assumption)) | apply New.alloc | apply New.drewN | apply New.drew))
theorem fine_any (a b c g r : Int) (w : World) : Calls Try.prog 20 #[br a b c g, .int .i64 r] w fun e w' => e = .returned (.bool (fineB a b c g r)) ∧ New w w' := by
  by_cases h : mayB a b c g = true
  · go_enter Try.func20, Try.ntmps20
    go_wp2_with fail
    refine (may_any _ _ _ _ _).mono ?_
    rintro e w1 ⟨rfl, hn1⟩
    obtain ⟨hc1, hf1⟩ := New.cells hn1
    have hs1 := New.size hn1
    try simp only [World.size_alloc, size_drewN, size_drew, size_setCell] at hc1 hf1 hs1
    try have hz1_w : w.heap.size < w1.heap.size := by omega
    rw [h]
    go_wp2
    all_goals
      go_ret
      refine ⟨ret_bool (Bool.eq_iff_iff.2 ?_), ?_⟩
      · have := mayB_iff.1 h
        rw [fineB_iff]; simp; try omega
      · (repeat (first | exact New.refl _ | (refine New.step ?_ (by assumption)) | apply New.alloc | apply New.drewN | apply New.drew))
  · have hf : mayB a b c g = false := by simpa using h
    have hfine : fineB a b c g r = false := by
      cases hh : fineB a b c g r
      · rfl
      · exact absurd (mayB_iff.2 (fineB_iff.1 hh).1) h
    rw [hfine]
    go_enter Try.func20, Try.ntmps20
    go_wp2_with fail
    refine (may_any _ _ _ _ _).mono ?_
    rintro e w2 ⟨rfl, hn2⟩
    obtain ⟨hc2, hf2⟩ := New.cells hn2
    have hs2 := New.size hn2
    try simp only [World.size_alloc, size_drewN, size_drew, size_setCell] at hc2 hf2 hs2
    try have hz2_w : w.heap.size < w2.heap.size := by omega
    rw [hf]
    go_wp2
    go_ret
    refine ⟨rfl, ?_⟩
    (repeat (first | exact New.refl _ | (refine New.step ?_ (by assumption)) | apply New.alloc | apply New.drewN | apply New.drew))
theorem read_any (a b c g : Int) (fr fw fe : Bool) (r : Int) (w : World) : Calls Try.prog 11 #[br a b c g, fl fr fw fe, .int .i64 r] w fun e w' => e = .returned (.int .i64 (readE a b c g fr r)) ∧ New w w' := by
  unfold readE
  by_cases h : fineB a b c g r = true
  · rw [if_pos h]
    cases fr
    · rw [if_neg (by decide)]
      go_enter Try.func11, Try.ntmps11
      go_wp2_with fail
      refine (fine_any _ _ _ _ _ _).mono ?_
      rintro e w3 ⟨rfl, hn3⟩
      obtain ⟨hc3, hf3⟩ := New.cells hn3
      have hs3 := New.size hn3
      try simp only [World.size_alloc, size_drewN, size_drew, size_setCell] at hc3 hf3 hs3
      try have hz3_w : w.heap.size < w3.heap.size := by omega
      rw [h]
      go_wp2
      go_ret
      refine ⟨rfl, ?_⟩
      (repeat (first | exact New.refl _ | (refine New.step ?_ (by assumption)) | apply New.alloc | apply New.drewN | apply New.drew))
    · rw [if_pos rfl]
      by_cases h2 : r ≤ b
      · rw [if_pos h2]
        go_enter Try.func11, Try.ntmps11
        go_wp2_with fail
        refine (fine_any _ _ _ _ _ _).mono ?_
        rintro e w4 ⟨rfl, hn4⟩
        obtain ⟨hc4, hf4⟩ := New.cells hn4
        have hs4 := New.size hn4
        try simp only [World.size_alloc, size_drewN, size_drew, size_setCell] at hc4 hf4 hs4
        try have hz4_w : w.heap.size < w4.heap.size := by omega
        rw [h]
        go_wp2
        go_ret
        refine ⟨rfl, ?_⟩
        (repeat (first | exact New.refl _ | (refine New.step ?_ (by assumption)) | apply New.alloc | apply New.drewN | apply New.drew))
      · rw [if_neg h2]
        go_enter Try.func11, Try.ntmps11
        go_wp2_with fail
        refine (fine_any _ _ _ _ _ _).mono ?_
        rintro e w5 ⟨rfl, hn5⟩
        obtain ⟨hc5, hf5⟩ := New.cells hn5
        have hs5 := New.size hn5
        try simp only [World.size_alloc, size_drewN, size_drew, size_setCell] at hc5 hf5 hs5
        try have hz5_w : w.heap.size < w5.heap.size := by omega
        rw [h]
        go_wp2
        go_ret
        refine ⟨rfl, ?_⟩
        (repeat (first | exact New.refl _ | (refine New.step ?_ (by assumption)) | apply New.alloc | apply New.drewN | apply New.drew))
  · rw [if_neg h]
    have h' : fineB a b c g r = false := by simpa using h
    go_enter Try.func11, Try.ntmps11
    go_wp2_with fail
    refine (fine_any _ _ _ _ _ _).mono ?_
    rintro e w6 ⟨rfl, hn6⟩
    obtain ⟨hc6, hf6⟩ := New.cells hn6
    have hs6 := New.size hn6
    try simp only [World.size_alloc, size_drewN, size_drew, size_setCell] at hc6 hf6 hs6
    try have hz6_w : w.heap.size < w6.heap.size := by omega
    rw [h']
    go_wp2
    go_ret
    refine ⟨rfl, ?_⟩
    (repeat (first | exact New.refl _ | (refine New.step ?_ (by assumption)) | apply New.alloc | apply New.drewN | apply New.drew))
theorem write_any (a b c g : Int) (fr fw fe : Bool) (r : Int) (w : World) : Calls Try.prog 12 #[br a b c g, fl fr fw fe, .int .i64 r] w fun e w' => e = .returned (.int .i64 (writeE a b c g fw r)) ∧ New w w' := by
  unfold writeE
  by_cases h : fineB a b c g r = true
  · rw [if_pos h]
    cases fw
    · rw [if_neg (by decide)]
      go_enter Try.func12, Try.ntmps12
      go_wp2_with fail
      refine (fine_any _ _ _ _ _ _).mono ?_
      rintro e w7 ⟨rfl, hn7⟩
      obtain ⟨hc7, hf7⟩ := New.cells hn7
      have hs7 := New.size hn7
      try simp only [World.size_alloc, size_drewN, size_drew, size_setCell] at hc7 hf7 hs7
      try have hz7_w : w.heap.size < w7.heap.size := by omega
      rw [h]
      go_wp2
      go_ret
      refine ⟨rfl, ?_⟩
      (repeat (first | exact New.refl _ | (refine New.step ?_ (by assumption)) | apply New.alloc | apply New.drewN | apply New.drew))
    · rw [if_pos rfl]
      by_cases h2 : r ≤ a
      · rw [if_pos h2]
        go_enter Try.func12, Try.ntmps12
        go_wp2_with fail
        refine (fine_any _ _ _ _ _ _).mono ?_
        rintro e w8 ⟨rfl, hn8⟩
        obtain ⟨hc8, hf8⟩ := New.cells hn8
        have hs8 := New.size hn8
        try simp only [World.size_alloc, size_drewN, size_drew, size_setCell] at hc8 hf8 hs8
        try have hz8_w : w.heap.size < w8.heap.size := by omega
        rw [h]
        go_wp2
        go_ret
        refine ⟨rfl, ?_⟩
        (repeat (first | exact New.refl _ | (refine New.step ?_ (by assumption)) | apply New.alloc | apply New.drewN | apply New.drew))
      · rw [if_neg h2]
        go_enter Try.func12, Try.ntmps12
        go_wp2_with fail
        refine (fine_any _ _ _ _ _ _).mono ?_
        rintro e w9 ⟨rfl, hn9⟩
        obtain ⟨hc9, hf9⟩ := New.cells hn9
        have hs9 := New.size hn9
        try simp only [World.size_alloc, size_drewN, size_drew, size_setCell] at hc9 hf9 hs9
        try have hz9_w : w.heap.size < w9.heap.size := by omega
        rw [h]
        go_wp2
        go_ret
        refine ⟨rfl, ?_⟩
        (repeat (first | exact New.refl _ | (refine New.step ?_ (by assumption)) | apply New.alloc | apply New.drewN | apply New.drew))
  · rw [if_neg h]
    have h' : fineB a b c g r = false := by simpa using h
    go_enter Try.func12, Try.ntmps12
    go_wp2_with fail
    refine (fine_any _ _ _ _ _ _).mono ?_
    rintro e w10 ⟨rfl, hn10⟩
    obtain ⟨hc10, hf10⟩ := New.cells hn10
    have hs10 := New.size hn10
    try simp only [World.size_alloc, size_drewN, size_drew, size_setCell] at hc10 hf10 hs10
    try have hz10_w : w.heap.size < w10.heap.size := by omega
    rw [h']
    go_wp2
    go_ret
    refine ⟨rfl, ?_⟩
    (repeat (first | exact New.refl _ | (refine New.step ?_ (by assumption)) | apply New.alloc | apply New.drewN | apply New.drew))
theorem exec_any (a b c g : Int) (fr fw fe : Bool) (r : Int) (w : World) : Calls Try.prog 19 #[br a b c g, fl fr fw fe, .int .i64 r] w fun e w' => e = .returned (.int .i64 (execE a b c g fe r)) ∧ New w w' := by
  unfold execE
  by_cases h : fineB a b c g r = true
  · rw [if_pos h]
    cases fe
    · rw [if_neg (by decide)]
      go_enter Try.func19, Try.ntmps19
      go_wp2_with fail
      refine (fine_any _ _ _ _ _ _).mono ?_
      rintro e w11 ⟨rfl, hn11⟩
      obtain ⟨hc11, hf11⟩ := New.cells hn11
      have hs11 := New.size hn11
      try simp only [World.size_alloc, size_drewN, size_drew, size_setCell] at hc11 hf11 hs11
      try have hz11_w : w.heap.size < w11.heap.size := by omega
      rw [h]
      go_wp2
      go_ret
      refine ⟨rfl, ?_⟩
      (repeat (first | exact New.refl _ | (refine New.step ?_ (by assumption)) | apply New.alloc | apply New.drewN | apply New.drew))
    · rw [if_pos rfl]
      by_cases h2 : a ≤ r ∧ r ≤ b
      · rw [if_pos h2]
        go_enter Try.func19, Try.ntmps19
        go_wp2_with fail
        refine (fine_any _ _ _ _ _ _).mono ?_
        rintro e w12 ⟨rfl, hn12⟩
        obtain ⟨hc12, hf12⟩ := New.cells hn12
        have hs12 := New.size hn12
        try simp only [World.size_alloc, size_drewN, size_drew, size_setCell] at hc12 hf12 hs12
        try have hz12_w : w.heap.size < w12.heap.size := by omega
        rw [h]
        go_wp2
        go_ret
        refine ⟨rfl, ?_⟩
        (repeat (first | exact New.refl _ | (refine New.step ?_ (by assumption)) | apply New.alloc | apply New.drewN | apply New.drew))
      · rw [if_neg h2]
        by_cases h3 : r < a
        · go_enter Try.func19, Try.ntmps19
          go_wp2_with fail
          refine (fine_any _ _ _ _ _ _).mono ?_
          rintro e w13 ⟨rfl, hn13⟩
          obtain ⟨hc13, hf13⟩ := New.cells hn13
          have hs13 := New.size hn13
          try simp only [World.size_alloc, size_drewN, size_drew, size_setCell] at hc13 hf13 hs13
          try have hz13_w : w.heap.size < w13.heap.size := by omega
          rw [h]
          go_wp2
          go_ret
          refine ⟨rfl, ?_⟩
          (repeat (first | exact New.refl _ | (refine New.step ?_ (by assumption)) | apply New.alloc | apply New.drewN | apply New.drew))
        · go_enter Try.func19, Try.ntmps19
          go_wp2_with fail
          refine (fine_any _ _ _ _ _ _).mono ?_
          rintro e w14 ⟨rfl, hn14⟩
          obtain ⟨hc14, hf14⟩ := New.cells hn14
          have hs14 := New.size hn14
          try simp only [World.size_alloc, size_drewN, size_drew, size_setCell] at hc14 hf14 hs14
          try have hz14_w : w.heap.size < w14.heap.size := by omega
          rw [h]
          go_wp2
          go_ret
          refine ⟨rfl, ?_⟩
          (repeat (first | exact New.refl _ | (refine New.step ?_ (by assumption)) | apply New.alloc | apply New.drewN | apply New.drew))
  · rw [if_neg h]
    have h' : fineB a b c g r = false := by simpa using h
    go_enter Try.func19, Try.ntmps19
    go_wp2_with fail
    refine (fine_any _ _ _ _ _ _).mono ?_
    rintro e w15 ⟨rfl, hn15⟩
    obtain ⟨hc15, hf15⟩ := New.cells hn15
    have hs15 := New.size hn15
    try simp only [World.size_alloc, size_drewN, size_drew, size_setCell] at hc15 hf15 hs15
    try have hz15_w : w.heap.size < w15.heap.size := by omega
    rw [h']
    go_wp2
    go_ret
    refine ⟨rfl, ?_⟩
    (repeat (first | exact New.refl _ | (refine New.step ?_ (by assumption)) | apply New.alloc | apply New.drewN | apply New.drew))
theorem call_any (a b c g : Int) (fr fw fe : Bool) (r o : Int) (w : World) : Calls Try.prog 13 #[br a b c g, fl fr fw fe, .int .i64 r, .int .i64 o] w fun e w' => e = .returned (.tuple #[.int .i64 (callE a b c g fe r o).1, .int .i64 (callE a b c g fe r o).2]) ∧ New w w' := by
  unfold callE
  by_cases h : fineB a b c g r = true
  · rw [if_pos h]
    cases fe
    · rw [if_neg (by decide)]
      go_enter Try.func13, Try.ntmps13
      go_wp2_with fail
      refine (fine_any _ _ _ _ _ _).mono ?_
      rintro e w16 ⟨rfl, hn16⟩
      obtain ⟨hc16, hf16⟩ := New.cells hn16
      have hs16 := New.size hn16
      try simp only [World.size_alloc, size_drewN, size_drew, size_setCell] at hc16 hf16 hs16
      try have hz16_w : w.heap.size < w16.heap.size := by omega
      rw [h]
      go_wp2
      go_ret2
      refine ⟨rfl, ?_⟩
      (repeat (first | exact New.refl _ | (refine New.step ?_ (by assumption)) | apply New.alloc | apply New.drewN | apply New.drew))
    · rw [if_pos rfl]
      by_cases h2 : a ≤ r ∧ r ≤ c
      · rw [if_pos h2]
        by_cases h3 : r ≤ b
        · rw [if_pos h3]
          go_enter Try.func13, Try.ntmps13
          go_wp2_with fail
          refine (fine_any _ _ _ _ _ _).mono ?_
          rintro e w17 ⟨rfl, hn17⟩
          obtain ⟨hc17, hf17⟩ := New.cells hn17
          have hs17 := New.size hn17
          try simp only [World.size_alloc, size_drewN, size_drew, size_setCell] at hc17 hf17 hs17
          try have hz17_w : w.heap.size < w17.heap.size := by omega
          rw [h]
          go_wp2
          go_ret2
          refine ⟨rfl, ?_⟩
          (repeat (first | exact New.refl _ | (refine New.step ?_ (by assumption)) | apply New.alloc | apply New.drewN | apply New.drew))
        · rw [if_neg h3]
          by_cases h4 : 0 ≤ o ∧ o < g
          · rw [if_pos h4]
            go_enter Try.func13, Try.ntmps13
            go_wp2_with fail
            refine (fine_any _ _ _ _ _ _).mono ?_
            rintro e w18 ⟨rfl, hn18⟩
            obtain ⟨hc18, hf18⟩ := New.cells hn18
            have hs18 := New.size hn18
            try simp only [World.size_alloc, size_drewN, size_drew, size_setCell] at hc18 hf18 hs18
            try have hz18_w : w.heap.size < w18.heap.size := by omega
            rw [h]
            go_wp2
            go_ret2
            refine ⟨rfl, ?_⟩
            (repeat (first | exact New.refl _ | (refine New.step ?_ (by assumption)) | apply New.alloc | apply New.drewN | apply New.drew))
          · rw [if_neg h4]
            by_cases h5 : o < 0
            · go_enter Try.func13, Try.ntmps13
              go_wp2_with fail
              refine (fine_any _ _ _ _ _ _).mono ?_
              rintro e w19 ⟨rfl, hn19⟩
              obtain ⟨hc19, hf19⟩ := New.cells hn19
              have hs19 := New.size hn19
              try simp only [World.size_alloc, size_drewN, size_drew, size_setCell] at hc19 hf19 hs19
              try have hz19_w : w.heap.size < w19.heap.size := by omega
              rw [h]
              go_wp2
              go_ret2
              refine ⟨rfl, ?_⟩
              (repeat (first | exact New.refl _ | (refine New.step ?_ (by assumption)) | apply New.alloc | apply New.drewN | apply New.drew))
            · go_enter Try.func13, Try.ntmps13
              go_wp2_with fail
              refine (fine_any _ _ _ _ _ _).mono ?_
              rintro e w20 ⟨rfl, hn20⟩
              obtain ⟨hc20, hf20⟩ := New.cells hn20
              have hs20 := New.size hn20
              try simp only [World.size_alloc, size_drewN, size_drew, size_setCell] at hc20 hf20 hs20
              try have hz20_w : w.heap.size < w20.heap.size := by omega
              rw [h]
              go_wp2
              go_ret2
              refine ⟨rfl, ?_⟩
              (repeat (first | exact New.refl _ | (refine New.step ?_ (by assumption)) | apply New.alloc | apply New.drewN | apply New.drew))
      · rw [if_neg h2]
        by_cases h3 : r < a
        · go_enter Try.func13, Try.ntmps13
          go_wp2_with fail
          refine (fine_any _ _ _ _ _ _).mono ?_
          rintro e w21 ⟨rfl, hn21⟩
          obtain ⟨hc21, hf21⟩ := New.cells hn21
          have hs21 := New.size hn21
          try simp only [World.size_alloc, size_drewN, size_drew, size_setCell] at hc21 hf21 hs21
          try have hz21_w : w.heap.size < w21.heap.size := by omega
          rw [h]
          go_wp2
          go_ret2
          refine ⟨rfl, ?_⟩
          (repeat (first | exact New.refl _ | (refine New.step ?_ (by assumption)) | apply New.alloc | apply New.drewN | apply New.drew))
        · go_enter Try.func13, Try.ntmps13
          go_wp2_with fail
          refine (fine_any _ _ _ _ _ _).mono ?_
          rintro e w22 ⟨rfl, hn22⟩
          obtain ⟨hc22, hf22⟩ := New.cells hn22
          have hs22 := New.size hn22
          try simp only [World.size_alloc, size_drewN, size_drew, size_setCell] at hc22 hf22 hs22
          try have hz22_w : w.heap.size < w22.heap.size := by omega
          rw [h]
          go_wp2
          go_ret2
          refine ⟨rfl, ?_⟩
          (repeat (first | exact New.refl _ | (refine New.step ?_ (by assumption)) | apply New.alloc | apply New.drewN | apply New.drew))
  · rw [if_neg h]
    have h' : fineB a b c g r = false := by simpa using h
    go_enter Try.func13, Try.ntmps13
    go_wp2_with fail
    refine (fine_any _ _ _ _ _ _).mono ?_
    rintro e w23 ⟨rfl, hn23⟩
    obtain ⟨hc23, hf23⟩ := New.cells hn23
    have hs23 := New.size hn23
    try simp only [World.size_alloc, size_drewN, size_drew, size_setCell] at hc23 hf23 hs23
    try have hz23_w : w.heap.size < w23.heap.size := by omega
    rw [h']
    go_wp2
    go_ret2
    refine ⟨rfl, ?_⟩
    (repeat (first | exact New.refl _ | (refine New.step ?_ (by assumption)) | apply New.alloc | apply New.drewN | apply New.drew))
def cutZ (r : Int) : Int := min (max r 0) 7
theorem cut_any (r : Int) (w : World) : Calls Try.prog 21 #[.int .i64 r] w fun e w' => e = .returned (.int .i64 (cutZ r)) ∧ w = w' := by
  by_cases c0 : r < 0
  · go_enter Try.func21, Try.ntmps21
    go_wp2
    all_goals
      go_ret
      exact ⟨ret_i (by unfold cutZ; omega), rfl⟩
  by_cases c7 : 7 < r
  · go_enter Try.func21, Try.ntmps21
    go_wp2
    all_goals
      go_ret
      exact ⟨ret_i (by unfold cutZ; omega), rfl⟩
  · go_enter Try.func21, Try.ntmps21
    go_wp2
    all_goals
      go_ret
      exact ⟨ret_i (by unfold cutZ; omega), rfl⟩
theorem return_any (a b : Int) (w : World) : Calls Try.prog 14 #[.int .i64 a, .int .i64 b] w fun e w' => e = .returned (.int .i64 (max (cutZ a) (cutZ b))) ∧ w = w' := by
  go_enter Try.func14, Try.ntmps14
  go_wp2_with fail
  refine (cut_any _ _).mono ?_
  rintro e w' ⟨rfl, rfl⟩
  go_wp2_with fail
  refine (cut_any _ _).mono ?_
  rintro e w' ⟨rfl, rfl⟩
  go_wp2
  all_goals
    go_ret
    exact ⟨ret_i (by generalize cutZ a = x at *; generalize cutZ b = y at *; omega), rfl⟩
end Go.Proofs.Ytgdocnejieaogaa.Ring
