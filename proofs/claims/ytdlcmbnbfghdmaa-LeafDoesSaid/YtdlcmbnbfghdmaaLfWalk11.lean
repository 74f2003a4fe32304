/- Layer 10: Join. -/
import Derived.Test.YtdlcmbnbfghdmaaLfWalk10
import Derived.Test.YtdlcmbnbfghdmaaLfWalk6
namespace Go.Proofs.Ytdlcmbnbfghdmaa
open Go.RowKit Bw
set_option linter.unusedVariables false
theorem pairs_head {w : World} {q : Option Addr} {l : List PairD} (h : PairsAt w q l) (hl : 0 < l.length) : ∃ g o, q = some ⟨g, o, none⟩ ∧ w.cell? ⟨g, o, none⟩ = some (.string l[0].1) := by
  obtain ⟨g, o, h1, h2, -⟩ := h 0 hl
  exact ⟨g, o, h1, by simpa using h2⟩
theorem headLt_pos {l : List PairD} (hl : 0 < l.length) (h : ByteArray) : headLt l h = ltS l[0].1 h := by
  match l, hl with
  | p :: l, _ => rfl
set_option maxHeartbeats 4000000 in
set_option maxRecDepth 100000 in
theorem leaf_Join_bad (a b : LfD) (ha : a.Sm) (hb : b.Sm) (qa qb : Option Addr) (ca cb : Nat) (w : World) (hA : SlAt w qa ca a.l) (hB : SlAt w qb cb b.l) (hm : mayJoin a b = false) :
    Calls Try.prog 31 #[lfV a qa ca, lfV b qb cb] w (LfPost w (jD a b) (jE a b)) := by
  have e1 : jE a b = 1 := by simp [jE, hm]
  have HP := Lib.hid (post_none (w := w) (show jD a b = noneL by simp [jD, e1]) e1)
  generalize LfPost w (jD a b) (jE a b) = PP at *
  have CA := Lib.hid (fun w hA => leaf_Right a ha qa ca w hA)
  have CB := Lib.hid (fun w hA => leaf_Right b hb qb cb w hA)
  rw [mayJoin] at hm
  have lb := hb.len
  obtain ⟨A, HA, NA⟩ := a
  obtain ⟨B, HB, NB⟩ := b
  simp only [lfV] at *
  replace hA : SlAt w qa ca A := hA
  replace hB : SlAt w qb cb B := hB
  have HSA := Lib.hid hA
  have HSB := Lib.hid hB
  clear hA hB ha hb e1
  have b1 : (B.length : Int) ≤ 1000 := by omega
  have key : LfD.right ⟨A, HA, NA⟩ = false ∨ (LfD.right ⟨A, HA, NA⟩ = true ∧ LfD.right ⟨B, HB, NB⟩ = false) ∨ (LfD.right ⟨A, HA, NA⟩ = true ∧ LfD.right ⟨B, HB, NB⟩ = true ∧ HA = ByteArray.empty) ∨
      (LfD.right ⟨A, HA, NA⟩ = true ∧ LfD.right ⟨B, HB, NB⟩ = true ∧ ¬ HA = ByteArray.empty ∧ headLt B HA = true) ∨
      (LfD.right ⟨A, HA, NA⟩ = true ∧ LfD.right ⟨B, HB, NB⟩ = true ∧ ¬ HA = ByteArray.empty ∧ headLt B HA = false ∧ ¬ HB = ByteArray.empty ∧ ltS HB HA = true) := by
    cases h1 : LfD.right ⟨A, HA, NA⟩
    · exact .inl rfl
    cases h2 : LfD.right ⟨B, HB, NB⟩
    · exact .inr (.inl ⟨rfl, rfl⟩)
    by_cases h3 : HA = ByteArray.empty
    · exact .inr (.inr (.inl ⟨rfl, rfl, h3⟩))
    cases h4 : headLt B HA
    · simp [h1, h2, h3, h4] at hm
      exact .inr (.inr (.inr (.inr ⟨rfl, rfl, h3, rfl, hm.1, hm.2⟩)))
    · exact .inr (.inr (.inr (.inl ⟨rfl, rfl, h3, rfl⟩)))
  clear hm
  rcases key with h1 | ⟨h1, h2⟩ | ⟨h1, h2, h3⟩ | ⟨h1, h2, h3, h4⟩ | ⟨h1, h2, h3, h4, h5, h6⟩
  · rw [h1] at CA
    clear h1
    go_enter Try.func31, Try.ntmps31
    go_upto_region 1 with fail
    have hD := (((Hold.start w).madeRow (.slice qa A.length ca) [.string HA, .int .i64 NA] 24).madeRow (.slice qb B.length cb) [.string HB, .int .i64 NB] 24).madeRow (.slice none 0 0) [.string ⟨#[]⟩, .int .i64 0] 24
    simp only [World.size_alloc, List.nil_append] at hD
    generalize ((w.alloc (.cells #[.slice qa A.length ca, .string HA, .int .i64 NA] 24)).alloc (.cells #[.slice qb B.length cb, .string HB, .int .i64 NB] 24)).alloc (.cells #[.slice none 0 0, .string ⟨#[]⟩, .int .i64 0] 24) = w0 at *
    replace hD : Hold w w0 [rowR w.heap.size (.slice qa A.length ca) [.string HA, .int .i64 NA], rowR (w.heap.size + 1) (.slice qb B.length cb) [.string HB, .int .i64 NB], rowR (w.heap.size + 1 + 1) (.slice none 0 0) [.string ⟨#[]⟩, .int .i64 0]] := hD
    have SA := Lib.hid (HSA.out.up hD.up)
    have SB := Lib.hid (HSB.out.up hD.up)
    obtain ⟨t0, t1, t2, f0, f1, f2⟩ := RowAt.c3 (hD.get 0 rfl)
    obtain ⟨s0, s1, s2, z0, z1, z2⟩ := RowAt.c3 (hD.get 1 rfl)
    have l0 := Later.cell_of t0; have l1 := Later.cell_of t1; have l2 := Later.cell_of t2
    have m0 := Later.cell_of s0; have m1 := Later.cell_of s1; have m2 := Later.cell_of s2
    have hne := later_ne w0
    clear t0 t1 t2 f0 f1 f2 s0 s1 s2 z0 z1 z2
    refine wp_region_later (by kernel_rfl) (by kernel_rfl) ?_
    repeat (go_big_quiet_step (first
      | (go_at_call 13; rename_i ul; with_reducible exact Calls.later (CA.out _ (SA.out.up ul.up).pairs))
      | (go_at_call 13; rename_i ul; with_reducible exact Calls.later (CB.out _ (SB.out.up ul.up).pairs))))
    refine wpQuiet_nil ?_
    intro w9 hw9
    obtain ⟨u9, rfl⟩ := hw9
    replace hD := hD.next u9.up
    clear l0 l1 l2 m0 m1 m2 hne SA SB
    generalize u9.world = w9 at *
    obtain ⟨s0, s1, s2, z0, z1, z2⟩ := RowAt.c3 (hD.get 2 rfl)
    go_wp2_with fail
    exact bodyPost_ret (v := .tuple #[.agg #[.slice none 0 0, .string ⟨#[]⟩, .int .i64 0], .int .i64 1]) (by simp [results, Try.results31, go_sem, *]) rfl (HP.out _ (by (repeat (refine Up.setCell ?_ _ _ _ (by omega))); exact hD.up))
  · rw [h1] at CA
    rw [h2] at CB
    clear h1 h2
    go_enter Try.func31, Try.ntmps31
    go_upto_region 1 with fail
    have hD := (((Hold.start w).madeRow (.slice qa A.length ca) [.string HA, .int .i64 NA] 24).madeRow (.slice qb B.length cb) [.string HB, .int .i64 NB] 24).madeRow (.slice none 0 0) [.string ⟨#[]⟩, .int .i64 0] 24
    simp only [World.size_alloc, List.nil_append] at hD
    generalize ((w.alloc (.cells #[.slice qa A.length ca, .string HA, .int .i64 NA] 24)).alloc (.cells #[.slice qb B.length cb, .string HB, .int .i64 NB] 24)).alloc (.cells #[.slice none 0 0, .string ⟨#[]⟩, .int .i64 0] 24) = w0 at *
    replace hD : Hold w w0 [rowR w.heap.size (.slice qa A.length ca) [.string HA, .int .i64 NA], rowR (w.heap.size + 1) (.slice qb B.length cb) [.string HB, .int .i64 NB], rowR (w.heap.size + 1 + 1) (.slice none 0 0) [.string ⟨#[]⟩, .int .i64 0]] := hD
    have SA := Lib.hid (HSA.out.up hD.up)
    have SB := Lib.hid (HSB.out.up hD.up)
    obtain ⟨t0, t1, t2, f0, f1, f2⟩ := RowAt.c3 (hD.get 0 rfl)
    obtain ⟨s0, s1, s2, z0, z1, z2⟩ := RowAt.c3 (hD.get 1 rfl)
    have l0 := Later.cell_of t0; have l1 := Later.cell_of t1; have l2 := Later.cell_of t2
    have m0 := Later.cell_of s0; have m1 := Later.cell_of s1; have m2 := Later.cell_of s2
    have hne := later_ne w0
    clear t0 t1 t2 f0 f1 f2 s0 s1 s2 z0 z1 z2
    refine wp_region_later (by kernel_rfl) (by kernel_rfl) ?_
    repeat (go_big_quiet_step (first
      | (go_at_call 13; rename_i ul; with_reducible exact Calls.later (CA.out _ (SA.out.up ul.up).pairs))
      | (go_at_call 13; rename_i ul; with_reducible exact Calls.later (CB.out _ (SB.out.up ul.up).pairs))))
    refine wpQuiet_nil ?_
    intro w9 hw9
    obtain ⟨u9, rfl⟩ := hw9
    replace hD := hD.next u9.up
    clear l0 l1 l2 m0 m1 m2 hne SA SB
    generalize u9.world = w9 at *
    obtain ⟨s0, s1, s2, z0, z1, z2⟩ := RowAt.c3 (hD.get 2 rfl)
    go_wp2_with fail
    exact bodyPost_ret (v := .tuple #[.agg #[.slice none 0 0, .string ⟨#[]⟩, .int .i64 0], .int .i64 1]) (by simp [results, Try.results31, go_sem, *]) rfl (HP.out _ (by (repeat (refine Up.setCell ?_ _ _ _ (by omega))); exact hD.up))
  · rw [h1] at CA
    rw [h2] at CB
    have x1 : HA.toList = [] := by rw [h3, Lib.toList_data]; rfl
    have x2 : HA.toList.isEmpty = true := by rw [x1]; rfl
    clear h1 h2 h3
    go_enter Try.func31, Try.ntmps31
    go_upto_region 1 with fail
    have hD := (((Hold.start w).madeRow (.slice qa A.length ca) [.string HA, .int .i64 NA] 24).madeRow (.slice qb B.length cb) [.string HB, .int .i64 NB] 24).madeRow (.slice none 0 0) [.string ⟨#[]⟩, .int .i64 0] 24
    simp only [World.size_alloc, List.nil_append] at hD
    generalize ((w.alloc (.cells #[.slice qa A.length ca, .string HA, .int .i64 NA] 24)).alloc (.cells #[.slice qb B.length cb, .string HB, .int .i64 NB] 24)).alloc (.cells #[.slice none 0 0, .string ⟨#[]⟩, .int .i64 0] 24) = w0 at *
    replace hD : Hold w w0 [rowR w.heap.size (.slice qa A.length ca) [.string HA, .int .i64 NA], rowR (w.heap.size + 1) (.slice qb B.length cb) [.string HB, .int .i64 NB], rowR (w.heap.size + 1 + 1) (.slice none 0 0) [.string ⟨#[]⟩, .int .i64 0]] := hD
    have SA := Lib.hid (HSA.out.up hD.up)
    have SB := Lib.hid (HSB.out.up hD.up)
    obtain ⟨t0, t1, t2, f0, f1, f2⟩ := RowAt.c3 (hD.get 0 rfl)
    obtain ⟨s0, s1, s2, z0, z1, z2⟩ := RowAt.c3 (hD.get 1 rfl)
    have l0 := Later.cell_of t0; have l1 := Later.cell_of t1; have l2 := Later.cell_of t2
    have m0 := Later.cell_of s0; have m1 := Later.cell_of s1; have m2 := Later.cell_of s2
    have hne := later_ne w0
    clear t0 t1 t2 f0 f1 f2 s0 s1 s2 z0 z1 z2
    refine wp_region_later (by kernel_rfl) (by kernel_rfl) ?_
    repeat (go_big_quiet_step (first
      | (go_at_call 13; rename_i ul; with_reducible exact Calls.later (CA.out _ (SA.out.up ul.up).pairs))
      | (go_at_call 13; rename_i ul; with_reducible exact Calls.later (CB.out _ (SB.out.up ul.up).pairs))))
    refine wpQuiet_nil ?_
    intro w9 hw9
    obtain ⟨u9, rfl⟩ := hw9
    replace hD := hD.next u9.up
    clear l0 l1 l2 m0 m1 m2 hne SA SB
    generalize u9.world = w9 at *
    obtain ⟨s0, s1, s2, z0, z1, z2⟩ := RowAt.c3 (hD.get 2 rfl)
    go_wp2_with fail
    exact bodyPost_ret (v := .tuple #[.agg #[.slice none 0 0, .string ⟨#[]⟩, .int .i64 0], .int .i64 1]) (by simp [results, Try.results31, go_sem, *]) rfl (HP.out _ (by (repeat (refine Up.setCell ?_ _ _ _ (by omega))); exact hD.up))
  · rw [h1] at CA
    rw [h2] at CB
    have x1 := toList_ne h3
    have x2 := toList_nonempty h3
    clear h1 h2 h3
    have hpos : 0 < B.length := by
      cases B with
      | nil => cases h4
      | cons p l => simp
    rw [headLt_pos hpos, ← str_ltB] at h4
    have b0 : (0 : Int) < (B.length : Int) := by omega
    go_enter Try.func31, Try.ntmps31
    go_upto_region 1 with fail
    have hD := (((Hold.start w).madeRow (.slice qa A.length ca) [.string HA, .int .i64 NA] 24).madeRow (.slice qb B.length cb) [.string HB, .int .i64 NB] 24).madeRow (.slice none 0 0) [.string ⟨#[]⟩, .int .i64 0] 24
    simp only [World.size_alloc, List.nil_append] at hD
    generalize ((w.alloc (.cells #[.slice qa A.length ca, .string HA, .int .i64 NA] 24)).alloc (.cells #[.slice qb B.length cb, .string HB, .int .i64 NB] 24)).alloc (.cells #[.slice none 0 0, .string ⟨#[]⟩, .int .i64 0] 24) = w0 at *
    replace hD : Hold w w0 [rowR w.heap.size (.slice qa A.length ca) [.string HA, .int .i64 NA], rowR (w.heap.size + 1) (.slice qb B.length cb) [.string HB, .int .i64 NB], rowR (w.heap.size + 1 + 1) (.slice none 0 0) [.string ⟨#[]⟩, .int .i64 0]] := hD
    have SA := Lib.hid (HSA.out.up hD.up)
    have SB := Lib.hid (HSB.out.up hD.up)
    obtain ⟨t0, t1, t2, f0, f1, f2⟩ := RowAt.c3 (hD.get 0 rfl)
    obtain ⟨s0, s1, s2, z0, z1, z2⟩ := RowAt.c3 (hD.get 1 rfl)
    have l0 := Later.cell_of t0; have l1 := Later.cell_of t1; have l2 := Later.cell_of t2
    have m0 := Later.cell_of s0; have m1 := Later.cell_of s1; have m2 := Later.cell_of s2
    have hne := later_ne w0
    clear t0 t1 t2 f0 f1 f2 s0 s1 s2 z0 z1 z2
    obtain ⟨g, o, rfl, c0⟩ := pairs_head SB.out.pairs hpos
    generalize B[0] = p at *
    obtain ⟨pk, pv⟩ := p
    simp only at c0 h4
    have n0 := Later.cell_of c0
    clear c0
    refine wp_region_later (by kernel_rfl) (by kernel_rfl) ?_
    repeat (go_big_quiet_step (first
      | (go_at_call 13; rename_i ul; with_reducible exact Calls.later (CA.out _ (SA.out.up ul.up).pairs))
      | (go_at_call 13; rename_i ul; with_reducible exact Calls.later (CB.out _ (SB.out.up ul.up).pairs))))
    refine wpQuiet_nil ?_
    intro w9 hw9
    obtain ⟨u9, rfl⟩ := hw9
    replace hD := hD.next u9.up
    clear l0 l1 l2 m0 m1 m2 hne SA SB
    generalize u9.world = w9 at *
    obtain ⟨s0, s1, s2, z0, z1, z2⟩ := RowAt.c3 (hD.get 2 rfl)
    go_wp2_with fail
    exact bodyPost_ret (v := .tuple #[.agg #[.slice none 0 0, .string ⟨#[]⟩, .int .i64 0], .int .i64 1]) (by simp [results, Try.results31, go_sem, *]) rfl (HP.out _ (by (repeat (refine Up.setCell ?_ _ _ _ (by omega))); exact hD.up))
  · rw [h1] at CA
    rw [h2] at CB
    have x1 := toList_ne h3
    have x2 := toList_nonempty h3
    have x3 := toList_ne h5
    have x4 := toList_nonempty h5
    rw [← str_ltB] at h6
    clear h1 h2 h3 h5
    by_cases hpos : 0 < B.length
    · rw [headLt_pos hpos, ← str_ltB] at h4
      have b0 : (0 : Int) < (B.length : Int) := by omega
      go_enter Try.func31, Try.ntmps31
      go_upto_region 1 with fail
      have hD := (((Hold.start w).madeRow (.slice qa A.length ca) [.string HA, .int .i64 NA] 24).madeRow (.slice qb B.length cb) [.string HB, .int .i64 NB] 24).madeRow (.slice none 0 0) [.string ⟨#[]⟩, .int .i64 0] 24
      simp only [World.size_alloc, List.nil_append] at hD
      generalize ((w.alloc (.cells #[.slice qa A.length ca, .string HA, .int .i64 NA] 24)).alloc (.cells #[.slice qb B.length cb, .string HB, .int .i64 NB] 24)).alloc (.cells #[.slice none 0 0, .string ⟨#[]⟩, .int .i64 0] 24) = w0 at *
      replace hD : Hold w w0 [rowR w.heap.size (.slice qa A.length ca) [.string HA, .int .i64 NA], rowR (w.heap.size + 1) (.slice qb B.length cb) [.string HB, .int .i64 NB], rowR (w.heap.size + 1 + 1) (.slice none 0 0) [.string ⟨#[]⟩, .int .i64 0]] := hD
      have SA := Lib.hid (HSA.out.up hD.up)
      have SB := Lib.hid (HSB.out.up hD.up)
      obtain ⟨t0, t1, t2, f0, f1, f2⟩ := RowAt.c3 (hD.get 0 rfl)
      obtain ⟨s0, s1, s2, z0, z1, z2⟩ := RowAt.c3 (hD.get 1 rfl)
      have l0 := Later.cell_of t0; have l1 := Later.cell_of t1; have l2 := Later.cell_of t2
      have m0 := Later.cell_of s0; have m1 := Later.cell_of s1; have m2 := Later.cell_of s2
      have hne := later_ne w0
      clear t0 t1 t2 f0 f1 f2 s0 s1 s2 z0 z1 z2
      obtain ⟨g, o, rfl, c0⟩ := pairs_head SB.out.pairs hpos
      generalize B[0] = p at *
      obtain ⟨pk, pv⟩ := p
      simp only at c0 h4
      have n0 := Later.cell_of c0
      clear c0
      refine wp_region_later (by kernel_rfl) (by kernel_rfl) ?_
      repeat (go_big_quiet_step (first
        | (go_at_call 13; rename_i ul; with_reducible exact Calls.later (CA.out _ (SA.out.up ul.up).pairs))
        | (go_at_call 13; rename_i ul; with_reducible exact Calls.later (CB.out _ (SB.out.up ul.up).pairs))))
      refine wpQuiet_nil ?_
      intro w9 hw9
      obtain ⟨u9, rfl⟩ := hw9
      replace hD := hD.next u9.up
      clear l0 l1 l2 m0 m1 m2 hne SA SB
      generalize u9.world = w9 at *
      obtain ⟨s0, s1, s2, z0, z1, z2⟩ := RowAt.c3 (hD.get 2 rfl)
      go_wp2_with fail
      exact bodyPost_ret (v := .tuple #[.agg #[.slice none 0 0, .string ⟨#[]⟩, .int .i64 0], .int .i64 1]) (by simp [results, Try.results31, go_sem, *]) rfl (HP.out _ (by (repeat (refine Up.setCell ?_ _ _ _ (by omega))); exact hD.up))
    · have b0 : decide (0 < B.length) = false := decide_eq_false hpos
      clear h4 hpos
      go_enter Try.func31, Try.ntmps31
      go_upto_region 1 with fail
      have hD := (((Hold.start w).madeRow (.slice qa A.length ca) [.string HA, .int .i64 NA] 24).madeRow (.slice qb B.length cb) [.string HB, .int .i64 NB] 24).madeRow (.slice none 0 0) [.string ⟨#[]⟩, .int .i64 0] 24
      simp only [World.size_alloc, List.nil_append] at hD
      generalize ((w.alloc (.cells #[.slice qa A.length ca, .string HA, .int .i64 NA] 24)).alloc (.cells #[.slice qb B.length cb, .string HB, .int .i64 NB] 24)).alloc (.cells #[.slice none 0 0, .string ⟨#[]⟩, .int .i64 0] 24) = w0 at *
      replace hD : Hold w w0 [rowR w.heap.size (.slice qa A.length ca) [.string HA, .int .i64 NA], rowR (w.heap.size + 1) (.slice qb B.length cb) [.string HB, .int .i64 NB], rowR (w.heap.size + 1 + 1) (.slice none 0 0) [.string ⟨#[]⟩, .int .i64 0]] := hD
      have SA := Lib.hid (HSA.out.up hD.up)
      have SB := Lib.hid (HSB.out.up hD.up)
      obtain ⟨t0, t1, t2, f0, f1, f2⟩ := RowAt.c3 (hD.get 0 rfl)
      obtain ⟨s0, s1, s2, z0, z1, z2⟩ := RowAt.c3 (hD.get 1 rfl)
      have l0 := Later.cell_of t0; have l1 := Later.cell_of t1; have l2 := Later.cell_of t2
      have m0 := Later.cell_of s0; have m1 := Later.cell_of s1; have m2 := Later.cell_of s2
      have hne := later_ne w0
      clear t0 t1 t2 f0 f1 f2 s0 s1 s2 z0 z1 z2
      refine wp_region_later (by kernel_rfl) (by kernel_rfl) ?_
      repeat (go_big_quiet_step (first
        | (go_at_call 13; rename_i ul; with_reducible exact Calls.later (CA.out _ (SA.out.up ul.up).pairs))
        | (go_at_call 13; rename_i ul; with_reducible exact Calls.later (CB.out _ (SB.out.up ul.up).pairs))))
      refine wpQuiet_nil ?_
      intro w9 hw9
      obtain ⟨u9, rfl⟩ := hw9
      replace hD := hD.next u9.up
      clear l0 l1 l2 m0 m1 m2 hne SA SB
      generalize u9.world = w9 at *
      obtain ⟨s0, s1, s2, z0, z1, z2⟩ := RowAt.c3 (hD.get 2 rfl)
      go_wp2_with fail
      exact bodyPost_ret (v := .tuple #[.agg #[.slice none 0 0, .string ⟨#[]⟩, .int .i64 0], .int .i64 1]) (by simp [results, Try.results31, go_sem, *]) rfl (HP.out _ (by (repeat (refine Up.setCell ?_ _ _ _ (by omega))); exact hD.up))
set_option maxHeartbeats 8000000 in
set_option maxRecDepth 100000 in
theorem leaf_Join_good (a b : LfD) (ha : a.Sm) (hb : b.Sm) (qa qb : Option Addr) (ca cb : Nat) (w : World) (hA : SlAt w qa ca a.l) (hB : SlAt w qb cb b.l) (hm : mayJoin a b = true) :
    Calls Try.prog 31 #[lfV a qa ca, lfV b qb cb] w (LfPost w (jD a b) (jE a b)) := by
  have hm' := hm
  rw [mayJoin] at hm
  simp only [Bool.and_eq_true, Bool.not_eq_true', Bool.or_eq_true, decide_eq_true_eq, decide_eq_false_iff_not] at hm
  obtain ⟨⟨⟨⟨h1, h2⟩, h3⟩, h4⟩, h5⟩ := hm
  have sa := right_sm h1
  have sb := right_sm h2
  have hS : LfD.Sm ⟨a.l ++ b.l, b.high, b.next⟩ := ⟨by simp only [List.length_append]; omega, hb.high, fun p hp => (List.mem_append.1 hp).elim (ha.each p) (hb.each p)⟩
  have CT := Lib.hid (fun q c w hA => leaf_fits ⟨a.l ++ b.l, b.high, b.next⟩ hS q c w hA)
  have CA := Lib.hid (fun w hA => leaf_Right a ha qa ca w hA)
  have CB := Lib.hid (fun w hA => leaf_Right b hb qb cb w hA)
  rw [h1] at CA
  rw [h2] at CB
  have CC := Lib.hid (fun (w : World) (g : Nat) hA hB hg => slices_Concat a.l b.l (by omega) (by omega) qa qb ca cb g w hA hB hg)
  have HP := Lib.hid (show ∀ w' q c, Below w.heap.size w w' → (slR q c (a.l ++ b.l)).holds w' → NewQ w q → LfPost w (jD a b) (jE a b) (.returned (.tuple #[if wtL (a.l ++ b.l) ≤ 231 then .agg #[.slice q (a.l ++ b.l).length c, .string b.high, .int .i64 b.next] else .agg #[.slice none 0 0, .string ⟨#[]⟩, .int .i64 0], .int .i64 (if wtL (a.l ++ b.l) ≤ 231 then 0 else 6)])) w' from fun w' q c hb hs hn => by
    by_cases hw : wtL (a.l ++ b.l) ≤ 231
    · have e1 : jE a b = 0 := by simp [jE, hm', hw]
      have e2 : jD a b = ⟨a.l ++ b.l, b.high, b.next⟩ := by simp [jD, e1]
      rw [e1, e2, if_pos hw, if_pos hw]
      exact ⟨q, c, rfl, hs, hn, hb⟩
    · have e1 : jE a b = 6 := by simp [jE, hm', hw]
      have e2 : jD a b = noneL := by simp [jD, e1]
      rw [e1, e2, if_neg hw, if_neg hw]
      exact ⟨none, 0, rfl, (slR_nil w').1, (slR_nil w).2, hb⟩)
  generalize LfPost w (jD a b) (jE a b) = PP at *
  have lb := hb.len
  clear hm' sa sb hS h1 h2
  obtain ⟨A, HA, NA⟩ := a
  obtain ⟨B, HB, NB⟩ := b
  simp only [lfV] at *
  generalize A ++ B = L' at *
  replace hA : SlAt w qa ca A := hA
  replace hB : SlAt w qb cb B := hB
  have HSA := Lib.hid hA
  have HSB := Lib.hid hB
  clear hA hB ha hb
  have b1 : (B.length : Int) ≤ 1000 := by omega
  have x1 := toList_ne h3
  have x2 := toList_nonempty h3
  clear h3
  have key : (HB.toList = [] ∧ HB.toList.isEmpty = true) ∨ (¬ HB.toList = [] ∧ HB.toList.isEmpty = false ∧ Op.bytesLess HB.toList HA.toList = false) := by
    by_cases h : HB = ByteArray.empty
    · exact .inl (by subst h; rw [Lib.toList_data]; exact ⟨rfl, rfl⟩)
    · exact .inr ⟨toList_ne h, toList_nonempty h, by rw [str_ltB]; exact h5.resolve_left h⟩
  clear h5
  by_cases hpos : 0 < B.length
  · rw [headLt_pos hpos, ← str_ltB] at h4
    have b0 : (0 : Int) < (B.length : Int) := by omega
    rcases key with ⟨k1, k2⟩ | ⟨k1, k2, k3⟩
    all_goals
      go_enter Try.func31, Try.ntmps31
      go_upto_region 1 with fail
      have hD := (((Hold.start w).madeRow (.slice qa A.length ca) [.string HA, .int .i64 NA] 24).madeRow (.slice qb B.length cb) [.string HB, .int .i64 NB] 24).madeRow (.slice none 0 0) [.string ⟨#[]⟩, .int .i64 0] 24
      simp only [World.size_alloc, List.nil_append] at hD
      generalize ((w.alloc (.cells #[.slice qa A.length ca, .string HA, .int .i64 NA] 24)).alloc (.cells #[.slice qb B.length cb, .string HB, .int .i64 NB] 24)).alloc (.cells #[.slice none 0 0, .string ⟨#[]⟩, .int .i64 0] 24) = w0 at *
      replace hD : Hold w w0 [rowR w.heap.size (.slice qa A.length ca) [.string HA, .int .i64 NA], rowR (w.heap.size + 1) (.slice qb B.length cb) [.string HB, .int .i64 NB], rowR (w.heap.size + 1 + 1) (.slice none 0 0) [.string ⟨#[]⟩, .int .i64 0]] := hD
      have SA := Lib.hid (HSA.out.up hD.up)
      have SB := Lib.hid (HSB.out.up hD.up)
      obtain ⟨t0, t1, t2, f0, f1, f2⟩ := RowAt.c3 (hD.get 0 rfl)
      obtain ⟨s0, s1, s2, z0, z1, z2⟩ := RowAt.c3 (hD.get 1 rfl)
      have l0 := Later.cell_of t0; have l1 := Later.cell_of t1; have l2 := Later.cell_of t2
      have m0 := Later.cell_of s0; have m1 := Later.cell_of s1; have m2 := Later.cell_of s2
      have hne := later_ne w0
      clear t0 t1 t2 f0 f1 f2 s0 s1 s2 z0 z1 z2
      obtain ⟨g, o, rfl, c0⟩ := pairs_head SB.out.pairs hpos
      generalize hp : B[0] = p at *
      clear hp
      obtain ⟨pk, pv⟩ := p
      simp only at c0 h4
      have n0 := Later.cell_of c0
      clear c0
      refine wp_region_later (by kernel_rfl) (by kernel_rfl) ?_
      repeat (go_big_quiet_step (first
        | (go_at_call 13; rename_i ul; with_reducible exact Calls.later (CA.out _ (SA.out.up ul.up).pairs))
        | (go_at_call 13; rename_i ul; with_reducible exact Calls.later (CB.out _ (SB.out.up ul.up).pairs))))
      refine wpQuiet_nil ?_
      intro w9 hw9
      obtain ⟨u9, rfl⟩ := hw9
      replace hD := hD.next u9.up
      clear l0 l1 l2 m0 m1 m2 hne SA SB
      generalize u9.world = w9 at *
      generalize (some (⟨g, o, none⟩ : Addr)) = qb at *
      go_upto_region 3 with fail
      go_cut [6] (fun v6 wx => ∃ (g6 : Nat) (q : Option Addr) (c : Nat), v6 = .pointer (some ⟨g6, 0, none⟩) ∧ Hold w wx [rowR w.heap.size (.slice qa A.length ca) [.string HA, .int .i64 NA], rowR (w.heap.size + 1) (.slice qb B.length cb) [.string HB, .int .i64 NB], rowR (w.heap.size + 1 + 1) (.slice none 0 0) [.string ⟨#[]⟩, .int .i64 0], slR q c L', rowR g6 (.slice q L'.length c) [.string HB, .int .i64 NB]])
      case first =>
        refine wp_region_two Eq (AllS NoS) (allS_ok NoS) (by kernel_rfl) (by kernel_rfl) (by kernel_rfl) ?_
        replace hD := hD.next ((Below.refl _ w9).drew)
        generalize w9.drew = wa at *
        obtain ⟨t0, t1, t2, f0, f1, f2⟩ := RowAt.c3 (hD.get 0 rfl)
        obtain ⟨s0, s1, s2, z0, z1, z2⟩ := RowAt.c3 (hD.get 1 rfl)
        clear f0 f1 f2 z0 z1 z2 t1 t2
        refine wpAnyTS_quiet 0 4 9 65 (by rfl) (by kernel_rfl) (fun _ _ _ _ _ h => h) (by kernel_rfl) (by kernel_rfl) ?_
        apply Exists.intro
        refine ⟨fun w2 hw2 => ?_, ?_⟩
        · have hne := laterR_ne (R := Eq) eqOK w2
          obtain ⟨l0, l1⟩ := And.intro (laterS t0 id hw2) (laterS s0 id hw2)
          simp only [List.drop_zero, List.take_succ_cons, List.take_zero]
          repeat (go_big_quiet_step (fail))
          exact wpQuiet_nil rfl
        refine wpAnyTS_quiet 6 4 5 65 (by rfl) (by kernel_rfl) (fun _ _ _ _ _ h => h) (by kernel_rfl) (by kernel_rfl) ?_
        apply Exists.intro
        refine ⟨fun w2 hw2 => ?_, ?_⟩
        · have hne := laterR_ne (R := Eq) eqOK w2
          obtain ⟨l0, l1⟩ := And.intro (laterS s1 id hw2) (laterS s2 id hw2)
          simp only [List.drop_succ_cons, List.drop_zero, List.take_succ_cons, List.take_zero]
          repeat (go_big_quiet_step (fail))
          exact wpQuiet_nil rfl
        clear t0 s0 s1 s2
        refine wpAnyTS_some 4 [11] 4 (by rfl) (by kernel_rfl) (by kernel_rfl) ?_
        rintro w2 rfl
        refine ⟨?_, ?_, trivial⟩
        · simp only [List.drop_succ_cons, List.drop_zero, List.take_succ_cons, List.take_zero]
          go_wp2_with fail
          refine ⟨.inr (AllS.of_up ((Up.refl _).alloc _)), ?_⟩
          replace hD := hD.madeRow (.slice qa A.length ca) [.slice qb B.length cb] 22
          generalize wa.heap.size = g5 at *
          generalize wa.alloc _ = wz at *
          refine wpAnyTS_some 5 [11] 3 (by rfl) (by kernel_rfl) (by kernel_rfl) ?_
          rintro w2 rfl
          refine ⟨?_, ?_, trivial⟩
          · simp only [List.drop_succ_cons, List.drop_zero, List.take_succ_cons, List.take_zero]
            go_wp2_with ((with_reducible refine (CC.out _ _ (HSA.out.up hD.up) (HSB.out.up hD.up) (hD.get 3 rfl)).mono ?_); rintro e wn ⟨q, c, rfl, hs, hn2, hb⟩)
            refine ⟨.inr (AllS.of_up hb), ?_⟩
            replace hD := hold_addSl hD hb hs hn2
            clear hb hs hn2
            refine wpAnyTS_quiet 10 1 2 65 (by rfl) (by kernel_rfl) (fun _ _ _ _ _ h => h) (by kernel_rfl) (by kernel_rfl) ?_
            apply Exists.intro
            refine ⟨fun w2 hw2 => ?_, ?_⟩
            · have hne := laterR_ne (R := Eq) eqOK w2
              skip
              simp only [List.drop_succ_cons, List.drop_zero, List.take_succ_cons, List.take_zero]
              repeat (go_big_quiet_step (fail))
              exact wpQuiet_nil rfl
            refine wpAnyTS_some 11 [] 1 (by rfl) (by kernel_rfl) (by kernel_rfl) ?_
            rintro w2 rfl
            refine ⟨?_, trivial⟩
            simp only [List.drop_succ_cons, List.drop_zero, List.take_succ_cons, List.take_zero]
            go_wp2_with fail
            refine ⟨.inr (AllS.of_up ((Up.refl _).alloc _)), ?_⟩
            replace hD := hD.madeRow (.slice none 0 0) [.string ⟨#[]⟩, .int .i64 0] 24
            generalize wn.heap.size = g6 at *
            generalize wn.alloc _ = wy at *
            refine wpAnyTS_some 12 [] 0 (by rfl) (by kernel_rfl) (by kernel_rfl) ?_
            rintro w2 rfl
            refine ⟨?_, trivial⟩
            obtain ⟨x0, x1, x2, y0, y1, y2⟩ := RowAt.c3 (hD.get 5 rfl)
            simp only [List.drop_succ_cons, List.drop_zero, List.take_succ_cons, List.take_zero]
            go_wp2_with fail
            refine ⟨.inl (by kernel_rfl), ?_⟩
            replace hD := ((hD.putRow 5 (g := g6) rfl 0 (.slice q L'.length c) (.slice q L'.length c) [.string ⟨#[]⟩, .int .i64 0] (by simp) rfl).putRow 5 (g := g6) rfl 1 (.string HB) (.slice q L'.length c) [.string HB, .int .i64 0] (by simp) rfl).putRow 5 (g := g6) rfl 2 (.int .i64 NB) (.slice q L'.length c) [.string HB, .int .i64 NB] (by simp) rfl
            refine wpAnyTS_done (by kernel_rfl) ?_
            rintro w2 rfl
            go_wp2_with fail
            go_meet
            exact ⟨g6, q, c, rfl, hD.sub (List.Sublist.append (List.Sublist.refl [rowR w.heap.size (.slice qa A.length ca) [.string HA, .int .i64 NA], rowR (w.heap.size + 1) (.slice qb B.length cb) [.string HB, .int .i64 NB], rowR (w.heap.size + 1 + 1) (.slice none 0 0) [.string ⟨#[]⟩, .int .i64 0]]) (List.sublist_cons_self _ _))⟩
          · simp only [List.drop_succ_cons, List.drop_zero, List.take_succ_cons, List.take_zero]
            go_wp2_with fail
            refine ⟨.inr (AllS.of_up ((Up.refl _).alloc _)), ?_⟩
            replace hD := hD.madeRow (.slice none 0 0) [.string ⟨#[]⟩, .int .i64 0] 24
            generalize wz.heap.size = g6 at *
            generalize wz.alloc _ = wy at *
            refine wpAnyTS_some 5 [] 2 (by rfl) (by kernel_rfl) (by kernel_rfl) ?_
            rintro w2 rfl
            refine ⟨?_, trivial⟩
            simp only [List.drop_succ_cons, List.drop_zero, List.take_succ_cons, List.take_zero]
            go_wp2_with ((with_reducible refine (CC.out _ _ (HSA.out.up hD.up) (HSB.out.up hD.up) (hD.get 3 rfl)).mono ?_); rintro e wn ⟨q, c, rfl, hs, hn2, hb⟩)
            refine ⟨.inr (AllS.of_up hb), ?_⟩
            replace hD := hold_addSl hD hb hs hn2
            clear hb hs hn2
            refine wpAnyTS_quiet 10 1 1 65 (by rfl) (by kernel_rfl) (fun _ _ _ _ _ h => h) (by kernel_rfl) (by kernel_rfl) ?_
            apply Exists.intro
            refine ⟨fun w2 hw2 => ?_, ?_⟩
            · have hne := laterR_ne (R := Eq) eqOK w2
              skip
              simp only [List.drop_succ_cons, List.drop_zero, List.take_succ_cons, List.take_zero]
              repeat (go_big_quiet_step (fail))
              exact wpQuiet_nil rfl
            refine wpAnyTS_some 12 [] 0 (by rfl) (by kernel_rfl) (by kernel_rfl) ?_
            rintro w2 rfl
            refine ⟨?_, trivial⟩
            obtain ⟨x0, x1, x2, y0, y1, y2⟩ := RowAt.c3 (hD.get 4 rfl)
            simp only [List.drop_succ_cons, List.drop_zero, List.take_succ_cons, List.take_zero]
            go_wp2_with fail
            refine ⟨.inl (by kernel_rfl), ?_⟩
            replace hD := ((hD.putRow 4 (g := g6) rfl 0 (.slice q L'.length c) (.slice q L'.length c) [.string ⟨#[]⟩, .int .i64 0] (by simp) rfl).putRow 4 (g := g6) rfl 1 (.string HB) (.slice q L'.length c) [.string HB, .int .i64 0] (by simp) rfl).putRow 4 (g := g6) rfl 2 (.int .i64 NB) (.slice q L'.length c) [.string HB, .int .i64 NB] (by simp) rfl
            refine wpAnyTS_done (by kernel_rfl) ?_
            rintro w2 rfl
            go_wp2_with fail
            go_meet
            exact ⟨g6, q, c, rfl, (hD.sub (List.Sublist.append (List.Sublist.refl [rowR w.heap.size (.slice qa A.length ca) [.string HA, .int .i64 NA], rowR (w.heap.size + 1) (.slice qb B.length cb) [.string HB, .int .i64 NB], rowR (w.heap.size + 1 + 1) (.slice none 0 0) [.string ⟨#[]⟩, .int .i64 0]]) (List.sublist_cons_self _ [_, _]))).perm (List.Perm.append_left [rowR w.heap.size (.slice qa A.length ca) [.string HA, .int .i64 NA], rowR (w.heap.size + 1) (.slice qb B.length cb) [.string HB, .int .i64 NB], rowR (w.heap.size + 1 + 1) (.slice none 0 0) [.string ⟨#[]⟩, .int .i64 0]] (List.Perm.swap _ _ []))⟩
        · simp only [List.drop_succ_cons, List.drop_zero, List.take_succ_cons, List.take_zero]
          go_wp2_with fail
          refine ⟨.inr (AllS.of_up ((Up.refl _).alloc _)), ?_⟩
          replace hD := hD.madeRow (.slice none 0 0) [.string ⟨#[]⟩, .int .i64 0] 24
          generalize wa.heap.size = g6 at *
          generalize wa.alloc _ = wy at *
          refine wpAnyTS_some 4 [] 3 (by rfl) (by kernel_rfl) (by kernel_rfl) ?_
          rintro w2 rfl
          refine ⟨?_, trivial⟩
          simp only [List.drop_succ_cons, List.drop_zero, List.take_succ_cons, List.take_zero]
          go_wp2_with fail
          refine ⟨.inr (AllS.of_up ((Up.refl _).alloc _)), ?_⟩
          replace hD := hD.madeRow (.slice qa A.length ca) [.slice qb B.length cb] 22
          generalize wy.heap.size = g5 at *
          generalize wy.alloc _ = wz at *
          refine wpAnyTS_some 5 [] 2 (by rfl) (by kernel_rfl) (by kernel_rfl) ?_
          rintro w2 rfl
          refine ⟨?_, trivial⟩
          simp only [List.drop_succ_cons, List.drop_zero, List.take_succ_cons, List.take_zero]
          go_wp2_with ((with_reducible refine (CC.out _ _ (HSA.out.up hD.up) (HSB.out.up hD.up) (hD.get 4 rfl)).mono ?_); rintro e wn ⟨q, c, rfl, hs, hn2, hb⟩)
          refine ⟨.inr (AllS.of_up hb), ?_⟩
          replace hD := hold_addSl hD hb hs hn2
          clear hb hs hn2
          refine wpAnyTS_quiet 10 1 1 65 (by rfl) (by kernel_rfl) (fun _ _ _ _ _ h => h) (by kernel_rfl) (by kernel_rfl) ?_
          apply Exists.intro
          refine ⟨fun w2 hw2 => ?_, ?_⟩
          · have hne := laterR_ne (R := Eq) eqOK w2
            skip
            simp only [List.drop_succ_cons, List.drop_zero, List.take_succ_cons, List.take_zero]
            repeat (go_big_quiet_step (fail))
            exact wpQuiet_nil rfl
          refine wpAnyTS_some 12 [] 0 (by rfl) (by kernel_rfl) (by kernel_rfl) ?_
          rintro w2 rfl
          refine ⟨?_, trivial⟩
          obtain ⟨x0, x1, x2, y0, y1, y2⟩ := RowAt.c3 (hD.get 3 rfl)
          simp only [List.drop_succ_cons, List.drop_zero, List.take_succ_cons, List.take_zero]
          go_wp2_with fail
          refine ⟨.inl (by kernel_rfl), ?_⟩
          replace hD := ((hD.putRow 3 (g := g6) rfl 0 (.slice q L'.length c) (.slice q L'.length c) [.string ⟨#[]⟩, .int .i64 0] (by simp) rfl).putRow 3 (g := g6) rfl 1 (.string HB) (.slice q L'.length c) [.string HB, .int .i64 0] (by simp) rfl).putRow 3 (g := g6) rfl 2 (.int .i64 NB) (.slice q L'.length c) [.string HB, .int .i64 NB] (by simp) rfl
          refine wpAnyTS_done (by kernel_rfl) ?_
          rintro w2 rfl
          go_wp2_with fail
          go_meet
          exact ⟨g6, q, c, rfl, (hD.sub (List.Sublist.append (List.Sublist.refl [rowR w.heap.size (.slice qa A.length ca) [.string HA, .int .i64 NA], rowR (w.heap.size + 1) (.slice qb B.length cb) [.string HB, .int .i64 NB], rowR (w.heap.size + 1 + 1) (.slice none 0 0) [.string ⟨#[]⟩, .int .i64 0], _]) (List.sublist_cons_self _ _))).perm (List.Perm.append_left [rowR w.heap.size (.slice qa A.length ca) [.string HA, .int .i64 NA], rowR (w.heap.size + 1) (.slice qb B.length cb) [.string HB, .int .i64 NB], rowR (w.heap.size + 1 + 1) (.slice none 0 0) [.string ⟨#[]⟩, .int .i64 0]] (List.Perm.swap _ _ []))⟩
      case rest =>
      clear hD CC CA CB
      obtain ⟨g6, q, c, rfl, hD⟩ := hcut
      by_cases hw : wtL L' ≤ 231
      · rw [decide_eq_true hw] at CT
        simp only [if_pos hw] at HP
        clear hw
        obtain ⟨x0, x1, x2, y0, y1, y2⟩ := RowAt.c3 (hD.get 4 rfl)
        obtain ⟨s0, s1, s2, z0, z1, z2⟩ := RowAt.c3 (hD.get 2 rfl)
        go_wp2_with ((with_reducible refine (CT.out _ _ _ (slR_pairs (hD.get 3 rfl))).mono ?_); rintro e wn ⟨rfl, hwn⟩; replace hD := hD.next hwn; clear hwn x0 x1 x2 y0 y1 y2 s0 s1 s2 z0 z1 z2; obtain ⟨x0, x1, x2, y0, y1, y2⟩ := RowAt.c3 (hD.get 4 rfl); obtain ⟨s0, s1, s2, z0, z1, z2⟩ := RowAt.c3 (hD.get 2 rfl))
        have hE := ((hD.putRow 2 (g := w.heap.size + 1 + 1) rfl 0 (.slice q L'.length c) (.slice q L'.length c) [.string ⟨#[]⟩, .int .i64 0] (by simp) rfl).putRow 2 (g := w.heap.size + 1 + 1) rfl 1 (.string HB) (.slice q L'.length c) [.string HB, .int .i64 0] (by simp) rfl).putRow 2 (g := w.heap.size + 1 + 1) rfl 2 (.int .i64 NB) (.slice q L'.length c) [.string HB, .int .i64 NB] (by simp) rfl
        exact bodyPost_ret (v := .tuple #[.agg #[.slice q L'.length c, .string HB, .int .i64 NB], .int .i64 0]) (by simp [results, Try.results31, go_sem, *]) rfl (HP.out _ q c hE.up (hE.get 3 rfl) (slR_new hE (j := 3) rfl))
      · rw [decide_eq_false hw] at CT
        simp only [if_neg hw] at HP
        clear hw
        obtain ⟨x0, x1, x2, y0, y1, y2⟩ := RowAt.c3 (hD.get 4 rfl)
        obtain ⟨s0, s1, s2, z0, z1, z2⟩ := RowAt.c3 (hD.get 2 rfl)
        go_wp2_with ((with_reducible refine (CT.out _ _ _ (slR_pairs (hD.get 3 rfl))).mono ?_); rintro e wn ⟨rfl, hwn⟩; replace hD := hD.next hwn; clear hwn x0 x1 x2 y0 y1 y2 s0 s1 s2 z0 z1 z2; obtain ⟨x0, x1, x2, y0, y1, y2⟩ := RowAt.c3 (hD.get 4 rfl); obtain ⟨s0, s1, s2, z0, z1, z2⟩ := RowAt.c3 (hD.get 2 rfl))
        have hE := ((hD.putRow 2 (g := w.heap.size + 1 + 1) rfl 0 (.slice none 0 0) (.slice none 0 0) [.string ⟨#[]⟩, .int .i64 0] (by simp) rfl).putRow 2 (g := w.heap.size + 1 + 1) rfl 1 (.string ⟨#[]⟩) (.slice none 0 0) [.string ⟨#[]⟩, .int .i64 0] (by simp) rfl).putRow 2 (g := w.heap.size + 1 + 1) rfl 2 (.int .i64 0) (.slice none 0 0) [.string ⟨#[]⟩, .int .i64 0] (by simp) rfl
        exact bodyPost_ret (v := .tuple #[.agg #[.slice none 0 0, .string ⟨#[]⟩, .int .i64 0], .int .i64 6]) (by simp [results, Try.results31, go_sem, *]) rfl (HP.out _ q c hE.up (hE.get 3 rfl) (slR_new hE (j := 3) rfl))
  · have b0 : decide (0 < B.length) = false := decide_eq_false hpos
    clear h4 hpos
    rcases key with ⟨k1, k2⟩ | ⟨k1, k2, k3⟩
    all_goals
      go_enter Try.func31, Try.ntmps31
      go_upto_region 1 with fail
      have hD := (((Hold.start w).madeRow (.slice qa A.length ca) [.string HA, .int .i64 NA] 24).madeRow (.slice qb B.length cb) [.string HB, .int .i64 NB] 24).madeRow (.slice none 0 0) [.string ⟨#[]⟩, .int .i64 0] 24
      simp only [World.size_alloc, List.nil_append] at hD
      generalize ((w.alloc (.cells #[.slice qa A.length ca, .string HA, .int .i64 NA] 24)).alloc (.cells #[.slice qb B.length cb, .string HB, .int .i64 NB] 24)).alloc (.cells #[.slice none 0 0, .string ⟨#[]⟩, .int .i64 0] 24) = w0 at *
      replace hD : Hold w w0 [rowR w.heap.size (.slice qa A.length ca) [.string HA, .int .i64 NA], rowR (w.heap.size + 1) (.slice qb B.length cb) [.string HB, .int .i64 NB], rowR (w.heap.size + 1 + 1) (.slice none 0 0) [.string ⟨#[]⟩, .int .i64 0]] := hD
      have SA := Lib.hid (HSA.out.up hD.up)
      have SB := Lib.hid (HSB.out.up hD.up)
      obtain ⟨t0, t1, t2, f0, f1, f2⟩ := RowAt.c3 (hD.get 0 rfl)
      obtain ⟨s0, s1, s2, z0, z1, z2⟩ := RowAt.c3 (hD.get 1 rfl)
      have l0 := Later.cell_of t0; have l1 := Later.cell_of t1; have l2 := Later.cell_of t2
      have m0 := Later.cell_of s0; have m1 := Later.cell_of s1; have m2 := Later.cell_of s2
      have hne := later_ne w0
      clear t0 t1 t2 f0 f1 f2 s0 s1 s2 z0 z1 z2
      refine wp_region_later (by kernel_rfl) (by kernel_rfl) ?_
      repeat (go_big_quiet_step (first
        | (go_at_call 13; rename_i ul; with_reducible exact Calls.later (CA.out _ (SA.out.up ul.up).pairs))
        | (go_at_call 13; rename_i ul; with_reducible exact Calls.later (CB.out _ (SB.out.up ul.up).pairs))))
      refine wpQuiet_nil ?_
      intro w9 hw9
      obtain ⟨u9, rfl⟩ := hw9
      replace hD := hD.next u9.up
      clear l0 l1 l2 m0 m1 m2 hne SA SB
      generalize u9.world = w9 at *
      skip
      go_upto_region 3 with fail
      go_cut [6] (fun v6 wx => ∃ (g6 : Nat) (q : Option Addr) (c : Nat), v6 = .pointer (some ⟨g6, 0, none⟩) ∧ Hold w wx [rowR w.heap.size (.slice qa A.length ca) [.string HA, .int .i64 NA], rowR (w.heap.size + 1) (.slice qb B.length cb) [.string HB, .int .i64 NB], rowR (w.heap.size + 1 + 1) (.slice none 0 0) [.string ⟨#[]⟩, .int .i64 0], slR q c L', rowR g6 (.slice q L'.length c) [.string HB, .int .i64 NB]])
      case first =>
        refine wp_region_two Eq (AllS NoS) (allS_ok NoS) (by kernel_rfl) (by kernel_rfl) (by kernel_rfl) ?_
        replace hD := hD.next ((Below.refl _ w9).drew)
        generalize w9.drew = wa at *
        obtain ⟨t0, t1, t2, f0, f1, f2⟩ := RowAt.c3 (hD.get 0 rfl)
        obtain ⟨s0, s1, s2, z0, z1, z2⟩ := RowAt.c3 (hD.get 1 rfl)
        clear f0 f1 f2 z0 z1 z2 t1 t2
        refine wpAnyTS_quiet 0 4 9 65 (by rfl) (by kernel_rfl) (fun _ _ _ _ _ h => h) (by kernel_rfl) (by kernel_rfl) ?_
        apply Exists.intro
        refine ⟨fun w2 hw2 => ?_, ?_⟩
        · have hne := laterR_ne (R := Eq) eqOK w2
          obtain ⟨l0, l1⟩ := And.intro (laterS t0 id hw2) (laterS s0 id hw2)
          simp only [List.drop_zero, List.take_succ_cons, List.take_zero]
          repeat (go_big_quiet_step (fail))
          exact wpQuiet_nil rfl
        refine wpAnyTS_quiet 6 4 5 65 (by rfl) (by kernel_rfl) (fun _ _ _ _ _ h => h) (by kernel_rfl) (by kernel_rfl) ?_
        apply Exists.intro
        refine ⟨fun w2 hw2 => ?_, ?_⟩
        · have hne := laterR_ne (R := Eq) eqOK w2
          obtain ⟨l0, l1⟩ := And.intro (laterS s1 id hw2) (laterS s2 id hw2)
          simp only [List.drop_succ_cons, List.drop_zero, List.take_succ_cons, List.take_zero]
          repeat (go_big_quiet_step (fail))
          exact wpQuiet_nil rfl
        clear t0 s0 s1 s2
        refine wpAnyTS_some 4 [11] 4 (by rfl) (by kernel_rfl) (by kernel_rfl) ?_
        rintro w2 rfl
        refine ⟨?_, ?_, trivial⟩
        · simp only [List.drop_succ_cons, List.drop_zero, List.take_succ_cons, List.take_zero]
          go_wp2_with fail
          refine ⟨.inr (AllS.of_up ((Up.refl _).alloc _)), ?_⟩
          replace hD := hD.madeRow (.slice qa A.length ca) [.slice qb B.length cb] 22
          generalize wa.heap.size = g5 at *
          generalize wa.alloc _ = wz at *
          refine wpAnyTS_some 5 [11] 3 (by rfl) (by kernel_rfl) (by kernel_rfl) ?_
          rintro w2 rfl
          refine ⟨?_, ?_, trivial⟩
          · simp only [List.drop_succ_cons, List.drop_zero, List.take_succ_cons, List.take_zero]
            go_wp2_with ((with_reducible refine (CC.out _ _ (HSA.out.up hD.up) (HSB.out.up hD.up) (hD.get 3 rfl)).mono ?_); rintro e wn ⟨q, c, rfl, hs, hn2, hb⟩)
            refine ⟨.inr (AllS.of_up hb), ?_⟩
            replace hD := hold_addSl hD hb hs hn2
            clear hb hs hn2
            refine wpAnyTS_quiet 10 1 2 65 (by rfl) (by kernel_rfl) (fun _ _ _ _ _ h => h) (by kernel_rfl) (by kernel_rfl) ?_
            apply Exists.intro
            refine ⟨fun w2 hw2 => ?_, ?_⟩
            · have hne := laterR_ne (R := Eq) eqOK w2
              skip
              simp only [List.drop_succ_cons, List.drop_zero, List.take_succ_cons, List.take_zero]
              repeat (go_big_quiet_step (fail))
              exact wpQuiet_nil rfl
            refine wpAnyTS_some 11 [] 1 (by rfl) (by kernel_rfl) (by kernel_rfl) ?_
            rintro w2 rfl
            refine ⟨?_, trivial⟩
            simp only [List.drop_succ_cons, List.drop_zero, List.take_succ_cons, List.take_zero]
            go_wp2_with fail
            refine ⟨.inr (AllS.of_up ((Up.refl _).alloc _)), ?_⟩
            replace hD := hD.madeRow (.slice none 0 0) [.string ⟨#[]⟩, .int .i64 0] 24
            generalize wn.heap.size = g6 at *
            generalize wn.alloc _ = wy at *
            refine wpAnyTS_some 12 [] 0 (by rfl) (by kernel_rfl) (by kernel_rfl) ?_
            rintro w2 rfl
            refine ⟨?_, trivial⟩
            obtain ⟨x0, x1, x2, y0, y1, y2⟩ := RowAt.c3 (hD.get 5 rfl)
            simp only [List.drop_succ_cons, List.drop_zero, List.take_succ_cons, List.take_zero]
            go_wp2_with fail
            refine ⟨.inl (by kernel_rfl), ?_⟩
            replace hD := ((hD.putRow 5 (g := g6) rfl 0 (.slice q L'.length c) (.slice q L'.length c) [.string ⟨#[]⟩, .int .i64 0] (by simp) rfl).putRow 5 (g := g6) rfl 1 (.string HB) (.slice q L'.length c) [.string HB, .int .i64 0] (by simp) rfl).putRow 5 (g := g6) rfl 2 (.int .i64 NB) (.slice q L'.length c) [.string HB, .int .i64 NB] (by simp) rfl
            refine wpAnyTS_done (by kernel_rfl) ?_
            rintro w2 rfl
            go_wp2_with fail
            go_meet
            exact ⟨g6, q, c, rfl, hD.sub (List.Sublist.append (List.Sublist.refl [rowR w.heap.size (.slice qa A.length ca) [.string HA, .int .i64 NA], rowR (w.heap.size + 1) (.slice qb B.length cb) [.string HB, .int .i64 NB], rowR (w.heap.size + 1 + 1) (.slice none 0 0) [.string ⟨#[]⟩, .int .i64 0]]) (List.sublist_cons_self _ _))⟩
          · simp only [List.drop_succ_cons, List.drop_zero, List.take_succ_cons, List.take_zero]
            go_wp2_with fail
            refine ⟨.inr (AllS.of_up ((Up.refl _).alloc _)), ?_⟩
            replace hD := hD.madeRow (.slice none 0 0) [.string ⟨#[]⟩, .int .i64 0] 24
            generalize wz.heap.size = g6 at *
            generalize wz.alloc _ = wy at *
            refine wpAnyTS_some 5 [] 2 (by rfl) (by kernel_rfl) (by kernel_rfl) ?_
            rintro w2 rfl
            refine ⟨?_, trivial⟩
            simp only [List.drop_succ_cons, List.drop_zero, List.take_succ_cons, List.take_zero]
            go_wp2_with ((with_reducible refine (CC.out _ _ (HSA.out.up hD.up) (HSB.out.up hD.up) (hD.get 3 rfl)).mono ?_); rintro e wn ⟨q, c, rfl, hs, hn2, hb⟩)
            refine ⟨.inr (AllS.of_up hb), ?_⟩
            replace hD := hold_addSl hD hb hs hn2
            clear hb hs hn2
            refine wpAnyTS_quiet 10 1 1 65 (by rfl) (by kernel_rfl) (fun _ _ _ _ _ h => h) (by kernel_rfl) (by kernel_rfl) ?_
            apply Exists.intro
            refine ⟨fun w2 hw2 => ?_, ?_⟩
            · have hne := laterR_ne (R := Eq) eqOK w2
              skip
              simp only [List.drop_succ_cons, List.drop_zero, List.take_succ_cons, List.take_zero]
              repeat (go_big_quiet_step (fail))
              exact wpQuiet_nil rfl
            refine wpAnyTS_some 12 [] 0 (by rfl) (by kernel_rfl) (by kernel_rfl) ?_
            rintro w2 rfl
            refine ⟨?_, trivial⟩
            obtain ⟨x0, x1, x2, y0, y1, y2⟩ := RowAt.c3 (hD.get 4 rfl)
            simp only [List.drop_succ_cons, List.drop_zero, List.take_succ_cons, List.take_zero]
            go_wp2_with fail
            refine ⟨.inl (by kernel_rfl), ?_⟩
            replace hD := ((hD.putRow 4 (g := g6) rfl 0 (.slice q L'.length c) (.slice q L'.length c) [.string ⟨#[]⟩, .int .i64 0] (by simp) rfl).putRow 4 (g := g6) rfl 1 (.string HB) (.slice q L'.length c) [.string HB, .int .i64 0] (by simp) rfl).putRow 4 (g := g6) rfl 2 (.int .i64 NB) (.slice q L'.length c) [.string HB, .int .i64 NB] (by simp) rfl
            refine wpAnyTS_done (by kernel_rfl) ?_
            rintro w2 rfl
            go_wp2_with fail
            go_meet
            exact ⟨g6, q, c, rfl, (hD.sub (List.Sublist.append (List.Sublist.refl [rowR w.heap.size (.slice qa A.length ca) [.string HA, .int .i64 NA], rowR (w.heap.size + 1) (.slice qb B.length cb) [.string HB, .int .i64 NB], rowR (w.heap.size + 1 + 1) (.slice none 0 0) [.string ⟨#[]⟩, .int .i64 0]]) (List.sublist_cons_self _ [_, _]))).perm (List.Perm.append_left [rowR w.heap.size (.slice qa A.length ca) [.string HA, .int .i64 NA], rowR (w.heap.size + 1) (.slice qb B.length cb) [.string HB, .int .i64 NB], rowR (w.heap.size + 1 + 1) (.slice none 0 0) [.string ⟨#[]⟩, .int .i64 0]] (List.Perm.swap _ _ []))⟩
        · simp only [List.drop_succ_cons, List.drop_zero, List.take_succ_cons, List.take_zero]
          go_wp2_with fail
          refine ⟨.inr (AllS.of_up ((Up.refl _).alloc _)), ?_⟩
          replace hD := hD.madeRow (.slice none 0 0) [.string ⟨#[]⟩, .int .i64 0] 24
          generalize wa.heap.size = g6 at *
          generalize wa.alloc _ = wy at *
          refine wpAnyTS_some 4 [] 3 (by rfl) (by kernel_rfl) (by kernel_rfl) ?_
          rintro w2 rfl
          refine ⟨?_, trivial⟩
          simp only [List.drop_succ_cons, List.drop_zero, List.take_succ_cons, List.take_zero]
          go_wp2_with fail
          refine ⟨.inr (AllS.of_up ((Up.refl _).alloc _)), ?_⟩
          replace hD := hD.madeRow (.slice qa A.length ca) [.slice qb B.length cb] 22
          generalize wy.heap.size = g5 at *
          generalize wy.alloc _ = wz at *
          refine wpAnyTS_some 5 [] 2 (by rfl) (by kernel_rfl) (by kernel_rfl) ?_
          rintro w2 rfl
          refine ⟨?_, trivial⟩
          simp only [List.drop_succ_cons, List.drop_zero, List.take_succ_cons, List.take_zero]
          go_wp2_with ((with_reducible refine (CC.out _ _ (HSA.out.up hD.up) (HSB.out.up hD.up) (hD.get 4 rfl)).mono ?_); rintro e wn ⟨q, c, rfl, hs, hn2, hb⟩)
          refine ⟨.inr (AllS.of_up hb), ?_⟩
          replace hD := hold_addSl hD hb hs hn2
          clear hb hs hn2
          refine wpAnyTS_quiet 10 1 1 65 (by rfl) (by kernel_rfl) (fun _ _ _ _ _ h => h) (by kernel_rfl) (by kernel_rfl) ?_
          apply Exists.intro
          refine ⟨fun w2 hw2 => ?_, ?_⟩
          · have hne := laterR_ne (R := Eq) eqOK w2
            skip
            simp only [List.drop_succ_cons, List.drop_zero, List.take_succ_cons, List.take_zero]
            repeat (go_big_quiet_step (fail))
            exact wpQuiet_nil rfl
          refine wpAnyTS_some 12 [] 0 (by rfl) (by kernel_rfl) (by kernel_rfl) ?_
          rintro w2 rfl
          refine ⟨?_, trivial⟩
          obtain ⟨x0, x1, x2, y0, y1, y2⟩ := RowAt.c3 (hD.get 3 rfl)
          simp only [List.drop_succ_cons, List.drop_zero, List.take_succ_cons, List.take_zero]
          go_wp2_with fail
          refine ⟨.inl (by kernel_rfl), ?_⟩
          replace hD := ((hD.putRow 3 (g := g6) rfl 0 (.slice q L'.length c) (.slice q L'.length c) [.string ⟨#[]⟩, .int .i64 0] (by simp) rfl).putRow 3 (g := g6) rfl 1 (.string HB) (.slice q L'.length c) [.string HB, .int .i64 0] (by simp) rfl).putRow 3 (g := g6) rfl 2 (.int .i64 NB) (.slice q L'.length c) [.string HB, .int .i64 NB] (by simp) rfl
          refine wpAnyTS_done (by kernel_rfl) ?_
          rintro w2 rfl
          go_wp2_with fail
          go_meet
          exact ⟨g6, q, c, rfl, (hD.sub (List.Sublist.append (List.Sublist.refl [rowR w.heap.size (.slice qa A.length ca) [.string HA, .int .i64 NA], rowR (w.heap.size + 1) (.slice qb B.length cb) [.string HB, .int .i64 NB], rowR (w.heap.size + 1 + 1) (.slice none 0 0) [.string ⟨#[]⟩, .int .i64 0], _]) (List.sublist_cons_self _ _))).perm (List.Perm.append_left [rowR w.heap.size (.slice qa A.length ca) [.string HA, .int .i64 NA], rowR (w.heap.size + 1) (.slice qb B.length cb) [.string HB, .int .i64 NB], rowR (w.heap.size + 1 + 1) (.slice none 0 0) [.string ⟨#[]⟩, .int .i64 0]] (List.Perm.swap _ _ []))⟩
      case rest =>
      clear hD CC CA CB
      obtain ⟨g6, q, c, rfl, hD⟩ := hcut
      by_cases hw : wtL L' ≤ 231
      · rw [decide_eq_true hw] at CT
        simp only [if_pos hw] at HP
        clear hw
        obtain ⟨x0, x1, x2, y0, y1, y2⟩ := RowAt.c3 (hD.get 4 rfl)
        obtain ⟨s0, s1, s2, z0, z1, z2⟩ := RowAt.c3 (hD.get 2 rfl)
        go_wp2_with ((with_reducible refine (CT.out _ _ _ (slR_pairs (hD.get 3 rfl))).mono ?_); rintro e wn ⟨rfl, hwn⟩; replace hD := hD.next hwn; clear hwn x0 x1 x2 y0 y1 y2 s0 s1 s2 z0 z1 z2; obtain ⟨x0, x1, x2, y0, y1, y2⟩ := RowAt.c3 (hD.get 4 rfl); obtain ⟨s0, s1, s2, z0, z1, z2⟩ := RowAt.c3 (hD.get 2 rfl))
        have hE := ((hD.putRow 2 (g := w.heap.size + 1 + 1) rfl 0 (.slice q L'.length c) (.slice q L'.length c) [.string ⟨#[]⟩, .int .i64 0] (by simp) rfl).putRow 2 (g := w.heap.size + 1 + 1) rfl 1 (.string HB) (.slice q L'.length c) [.string HB, .int .i64 0] (by simp) rfl).putRow 2 (g := w.heap.size + 1 + 1) rfl 2 (.int .i64 NB) (.slice q L'.length c) [.string HB, .int .i64 NB] (by simp) rfl
        exact bodyPost_ret (v := .tuple #[.agg #[.slice q L'.length c, .string HB, .int .i64 NB], .int .i64 0]) (by simp [results, Try.results31, go_sem, *]) rfl (HP.out _ q c hE.up (hE.get 3 rfl) (slR_new hE (j := 3) rfl))
      · rw [decide_eq_false hw] at CT
        simp only [if_neg hw] at HP
        clear hw
        obtain ⟨x0, x1, x2, y0, y1, y2⟩ := RowAt.c3 (hD.get 4 rfl)
        obtain ⟨s0, s1, s2, z0, z1, z2⟩ := RowAt.c3 (hD.get 2 rfl)
        go_wp2_with ((with_reducible refine (CT.out _ _ _ (slR_pairs (hD.get 3 rfl))).mono ?_); rintro e wn ⟨rfl, hwn⟩; replace hD := hD.next hwn; clear hwn x0 x1 x2 y0 y1 y2 s0 s1 s2 z0 z1 z2; obtain ⟨x0, x1, x2, y0, y1, y2⟩ := RowAt.c3 (hD.get 4 rfl); obtain ⟨s0, s1, s2, z0, z1, z2⟩ := RowAt.c3 (hD.get 2 rfl))
        have hE := ((hD.putRow 2 (g := w.heap.size + 1 + 1) rfl 0 (.slice none 0 0) (.slice none 0 0) [.string ⟨#[]⟩, .int .i64 0] (by simp) rfl).putRow 2 (g := w.heap.size + 1 + 1) rfl 1 (.string ⟨#[]⟩) (.slice none 0 0) [.string ⟨#[]⟩, .int .i64 0] (by simp) rfl).putRow 2 (g := w.heap.size + 1 + 1) rfl 2 (.int .i64 0) (.slice none 0 0) [.string ⟨#[]⟩, .int .i64 0] (by simp) rfl
        exact bodyPost_ret (v := .tuple #[.agg #[.slice none 0 0, .string ⟨#[]⟩, .int .i64 0], .int .i64 6]) (by simp [results, Try.results31, go_sem, *]) rfl (HP.out _ q c hE.up (hE.get 3 rfl) (slR_new hE (j := 3) rfl))
theorem leaf_Join (a b : LfD) (ha : a.Sm) (hb : b.Sm) (qa qb : Option Addr) (ca cb : Nat) (w : World) (hA : SlAt w qa ca a.l) (hB : SlAt w qb cb b.l) :
    Calls Try.prog 31 #[lfV a qa ca, lfV b qb cb] w (LfPost w (jD a b) (jE a b)) := by
  cases hm : mayJoin a b
  · exact leaf_Join_bad a b ha hb qa qb ca cb w hA hB hm
  · exact leaf_Join_good a b ha hb qa qb ca cb w hA hB hm
end Go.Proofs.Ytdlcmbnbfghdmaa
