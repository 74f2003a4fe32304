/- Layer 10, the document's answer: Join. -/
import Derived.Test.YtdlcmbnbfghdmaaLfRef5
import Derived.Test.YtdlcmbnbfghdmaaLfWalk11
namespace Go.Proofs.Ytdlcmbnbfghdmaa
open Go.RowKit Bw
set_option linter.unusedVariables false
set_option maxHeartbeats 4000000 in
set_option maxRecDepth 100000 in
theorem ref10_Join_bad (a b : LfD) (ha : a.Sm) (hb : b.Sm) (qa qb : Option Addr) (ca cb : Nat) (w : World) (hA : SlAt w qa ca a.l) (hB : SlAt w qb cb b.l) (hm : mayJoin a b = false) :
    Calls Try.prog 32 #[lfV a qa ca, lfV b qb cb] w (LfPost w (jD a b) (jE a b)) := by
  have e1 : jE a b = 1 := by simp [jE, hm]
  have HP := Lib.hid (post_none (w := w) (show jD a b = noneL by simp [jD, e1]) e1)
  generalize LfPost w (jD a b) (jE a b) = PP at *
  have CA := Lib.hid (fun w hA => ref10_Right a ha qa ca w hA)
  have CB := Lib.hid (fun w hA => ref10_Right b hb qb cb w hA)
  have CL := Lib.hid (fun w => ref5_Less b.high a.high w (by have := hb.high; omega) (by have := ha.high; omega))
  have CHH := Lib.hid (fun p (hp : p ∈ b.l) w => ref5_Less p.1 a.high w (by have := (hb.each p hp).1; omega) (by have := ha.high; omega))
  rw [mayJoin] at hm
  have lb := hb.len
  obtain ⟨A, HA, NA⟩ := a
  obtain ⟨B, HB, NB⟩ := b
  simp only [lfV] at *
  replace hA : SlAt w qa ca A := hA
  replace hB : SlAt w qb cb B := hB
  have HSA := Lib.hid hA
  have HSB := Lib.hid hB
  clear hA hB ha hb e1
  have b1 : (B.length : Int) ≤ 1000 := by omega
  have key : LfD.right ⟨A, HA, NA⟩ = false ∨ (LfD.right ⟨A, HA, NA⟩ = true ∧ LfD.right ⟨B, HB, NB⟩ = false) ∨ (LfD.right ⟨A, HA, NA⟩ = true ∧ LfD.right ⟨B, HB, NB⟩ = true ∧ HA = ByteArray.empty) ∨
      (LfD.right ⟨A, HA, NA⟩ = true ∧ LfD.right ⟨B, HB, NB⟩ = true ∧ ¬ HA = ByteArray.empty ∧ ¬ HB = ByteArray.empty ∧ ltS HB HA = true) ∨
      (LfD.right ⟨A, HA, NA⟩ = true ∧ LfD.right ⟨B, HB, NB⟩ = true ∧ ¬ HA = ByteArray.empty ∧ (HB = ByteArray.empty ∨ (¬ HB = ByteArray.empty ∧ ltS HB HA = false)) ∧ headLt B HA = true) := by
    cases h1 : LfD.right ⟨A, HA, NA⟩
    · exact .inl rfl
    cases h2 : LfD.right ⟨B, HB, NB⟩
    · exact .inr (.inl ⟨rfl, rfl⟩)
    by_cases h3 : HA = ByteArray.empty
    · exact .inr (.inr (.inl ⟨rfl, rfl, h3⟩))
    cases h4 : headLt B HA
    · simp [h1, h2, h3, h4] at hm
      exact .inr (.inr (.inr (.inl ⟨rfl, rfl, h3, hm.1, hm.2⟩)))
    · by_cases h5 : HB = ByteArray.empty
      · exact .inr (.inr (.inr (.inr ⟨rfl, rfl, h3, .inl h5, rfl⟩)))
      · cases h6 : ltS HB HA
        · exact .inr (.inr (.inr (.inr ⟨rfl, rfl, h3, .inr ⟨h5, rfl⟩, rfl⟩)))
        · exact .inr (.inr (.inr (.inl ⟨rfl, rfl, h3, h5, rfl⟩)))
  clear hm
  rcases key with h1 | ⟨h1, h2⟩ | ⟨h1, h2, h3⟩ | ⟨h1, h2, h3, h5, h6⟩ | ⟨h1, h2, h3, h5, h4⟩
  · rw [h1] at CA
    clear h1 CL CHH
    go_enter Try.func32, Try.ntmps32
    go_upto_region 1 with fail
    have hD := (((Hold.start w).madeRow (.slice qa A.length ca) [.string HA, .int .i64 NA] 29).madeRow (.slice qb B.length cb) [.string HB, .int .i64 NB] 29).madeRow (.slice none 0 0) [.string ⟨#[]⟩, .int .i64 0] 29
    simp only [World.size_alloc, List.nil_append] at hD
    generalize ((w.alloc (.cells #[.slice qa A.length ca, .string HA, .int .i64 NA] 29)).alloc (.cells #[.slice qb B.length cb, .string HB, .int .i64 NB] 29)).alloc (.cells #[.slice none 0 0, .string ⟨#[]⟩, .int .i64 0] 29) = w0 at *
    replace hD : Hold w w0 [rowR w.heap.size (.slice qa A.length ca) [.string HA, .int .i64 NA], rowR (w.heap.size + 1) (.slice qb B.length cb) [.string HB, .int .i64 NB], rowR (w.heap.size + 1 + 1) (.slice none 0 0) [.string ⟨#[]⟩, .int .i64 0]] := hD
    obtain ⟨t0, t1, t2, f0, f1, f2⟩ := RowAt.c3 (hD.get 0 rfl)
    obtain ⟨s0, s1, s2, z0, z1, z2⟩ := RowAt.c3 (hD.get 1 rfl)
    obtain ⟨r0, r1, r2, y0, y1, y2⟩ := RowAt.c3 (hD.get 2 rfl)
    go_wp2_with (first
      | ((with_reducible refine (CA.out _ (HSA.out.up hD.up).pairs).mono ?_); rintro e wn ⟨rfl, hwn⟩; replace hD := hD.next hwn; clear hwn; clear t0 t1 t2 f0 f1 f2 s0 s1 s2 z0 z1 z2 r0 r1 r2 y0 y1 y2; obtain ⟨t0, t1, t2, f0, f1, f2⟩ := RowAt.c3 (hD.get 0 rfl); obtain ⟨s0, s1, s2, z0, z1, z2⟩ := RowAt.c3 (hD.get 1 rfl); obtain ⟨r0, r1, r2, y0, y1, y2⟩ := RowAt.c3 (hD.get 2 rfl))
      | ((with_reducible refine (CB.out _ (HSB.out.up hD.up).pairs).mono ?_); rintro e wn ⟨rfl, hwn⟩; replace hD := hD.next hwn; clear hwn; clear t0 t1 t2 f0 f1 f2 s0 s1 s2 z0 z1 z2 r0 r1 r2 y0 y1 y2; obtain ⟨t0, t1, t2, f0, f1, f2⟩ := RowAt.c3 (hD.get 0 rfl); obtain ⟨s0, s1, s2, z0, z1, z2⟩ := RowAt.c3 (hD.get 1 rfl); obtain ⟨r0, r1, r2, y0, y1, y2⟩ := RowAt.c3 (hD.get 2 rfl)))
    exact bodyPost_ret (v := .tuple #[.agg #[.slice none 0 0, .string ⟨#[]⟩, .int .i64 0], .int .i64 1]) (by simp [results, Try.results32, go_sem, *]) rfl (HP.out _ (by (repeat (refine Up.setCell ?_ _ _ _ (by omega))); exact hD.up))
  · rw [h1] at CA
    rw [h2] at CB
    clear h1 h2 CL CHH
    go_enter Try.func32, Try.ntmps32
    go_upto_region 1 with fail
    have hD := (((Hold.start w).madeRow (.slice qa A.length ca) [.string HA, .int .i64 NA] 29).madeRow (.slice qb B.length cb) [.string HB, .int .i64 NB] 29).madeRow (.slice none 0 0) [.string ⟨#[]⟩, .int .i64 0] 29
    simp only [World.size_alloc, List.nil_append] at hD
    generalize ((w.alloc (.cells #[.slice qa A.length ca, .string HA, .int .i64 NA] 29)).alloc (.cells #[.slice qb B.length cb, .string HB, .int .i64 NB] 29)).alloc (.cells #[.slice none 0 0, .string ⟨#[]⟩, .int .i64 0] 29) = w0 at *
    replace hD : Hold w w0 [rowR w.heap.size (.slice qa A.length ca) [.string HA, .int .i64 NA], rowR (w.heap.size + 1) (.slice qb B.length cb) [.string HB, .int .i64 NB], rowR (w.heap.size + 1 + 1) (.slice none 0 0) [.string ⟨#[]⟩, .int .i64 0]] := hD
    obtain ⟨t0, t1, t2, f0, f1, f2⟩ := RowAt.c3 (hD.get 0 rfl)
    obtain ⟨s0, s1, s2, z0, z1, z2⟩ := RowAt.c3 (hD.get 1 rfl)
    obtain ⟨r0, r1, r2, y0, y1, y2⟩ := RowAt.c3 (hD.get 2 rfl)
    go_wp2_with (first
      | ((with_reducible refine (CA.out _ (HSA.out.up hD.up).pairs).mono ?_); rintro e wn ⟨rfl, hwn⟩; replace hD := hD.next hwn; clear hwn; clear t0 t1 t2 f0 f1 f2 s0 s1 s2 z0 z1 z2 r0 r1 r2 y0 y1 y2; obtain ⟨t0, t1, t2, f0, f1, f2⟩ := RowAt.c3 (hD.get 0 rfl); obtain ⟨s0, s1, s2, z0, z1, z2⟩ := RowAt.c3 (hD.get 1 rfl); obtain ⟨r0, r1, r2, y0, y1, y2⟩ := RowAt.c3 (hD.get 2 rfl))
      | ((with_reducible refine (CB.out _ (HSB.out.up hD.up).pairs).mono ?_); rintro e wn ⟨rfl, hwn⟩; replace hD := hD.next hwn; clear hwn; clear t0 t1 t2 f0 f1 f2 s0 s1 s2 z0 z1 z2 r0 r1 r2 y0 y1 y2; obtain ⟨t0, t1, t2, f0, f1, f2⟩ := RowAt.c3 (hD.get 0 rfl); obtain ⟨s0, s1, s2, z0, z1, z2⟩ := RowAt.c3 (hD.get 1 rfl); obtain ⟨r0, r1, r2, y0, y1, y2⟩ := RowAt.c3 (hD.get 2 rfl)))
    exact bodyPost_ret (v := .tuple #[.agg #[.slice none 0 0, .string ⟨#[]⟩, .int .i64 0], .int .i64 1]) (by simp [results, Try.results32, go_sem, *]) rfl (HP.out _ (by (repeat (refine Up.setCell ?_ _ _ _ (by omega))); exact hD.up))
  · rw [h1] at CA
    rw [h2] at CB
    have x1 : HA.toList = [] := by rw [h3, Lib.toList_data]; rfl
    have x2 : HA.toList.isEmpty = true := by rw [x1]; rfl
    clear h1 h2 h3 CL CHH
    go_enter Try.func32, Try.ntmps32
    go_upto_region 1 with fail
    have hD := (((Hold.start w).madeRow (.slice qa A.length ca) [.string HA, .int .i64 NA] 29).madeRow (.slice qb B.length cb) [.string HB, .int .i64 NB] 29).madeRow (.slice none 0 0) [.string ⟨#[]⟩, .int .i64 0] 29
    simp only [World.size_alloc, List.nil_append] at hD
    generalize ((w.alloc (.cells #[.slice qa A.length ca, .string HA, .int .i64 NA] 29)).alloc (.cells #[.slice qb B.length cb, .string HB, .int .i64 NB] 29)).alloc (.cells #[.slice none 0 0, .string ⟨#[]⟩, .int .i64 0] 29) = w0 at *
    replace hD : Hold w w0 [rowR w.heap.size (.slice qa A.length ca) [.string HA, .int .i64 NA], rowR (w.heap.size + 1) (.slice qb B.length cb) [.string HB, .int .i64 NB], rowR (w.heap.size + 1 + 1) (.slice none 0 0) [.string ⟨#[]⟩, .int .i64 0]] := hD
    obtain ⟨t0, t1, t2, f0, f1, f2⟩ := RowAt.c3 (hD.get 0 rfl)
    obtain ⟨s0, s1, s2, z0, z1, z2⟩ := RowAt.c3 (hD.get 1 rfl)
    obtain ⟨r0, r1, r2, y0, y1, y2⟩ := RowAt.c3 (hD.get 2 rfl)
    go_wp2_with (first
      | ((with_reducible refine (CA.out _ (HSA.out.up hD.up).pairs).mono ?_); rintro e wn ⟨rfl, hwn⟩; replace hD := hD.next hwn; clear hwn; clear t0 t1 t2 f0 f1 f2 s0 s1 s2 z0 z1 z2 r0 r1 r2 y0 y1 y2; obtain ⟨t0, t1, t2, f0, f1, f2⟩ := RowAt.c3 (hD.get 0 rfl); obtain ⟨s0, s1, s2, z0, z1, z2⟩ := RowAt.c3 (hD.get 1 rfl); obtain ⟨r0, r1, r2, y0, y1, y2⟩ := RowAt.c3 (hD.get 2 rfl))
      | ((with_reducible refine (CB.out _ (HSB.out.up hD.up).pairs).mono ?_); rintro e wn ⟨rfl, hwn⟩; replace hD := hD.next hwn; clear hwn; clear t0 t1 t2 f0 f1 f2 s0 s1 s2 z0 z1 z2 r0 r1 r2 y0 y1 y2; obtain ⟨t0, t1, t2, f0, f1, f2⟩ := RowAt.c3 (hD.get 0 rfl); obtain ⟨s0, s1, s2, z0, z1, z2⟩ := RowAt.c3 (hD.get 1 rfl); obtain ⟨r0, r1, r2, y0, y1, y2⟩ := RowAt.c3 (hD.get 2 rfl)))
    exact bodyPost_ret (v := .tuple #[.agg #[.slice none 0 0, .string ⟨#[]⟩, .int .i64 0], .int .i64 1]) (by simp [results, Try.results32, go_sem, *]) rfl (HP.out _ (by (repeat (refine Up.setCell ?_ _ _ _ (by omega))); exact hD.up))
  · rw [h1] at CA
    rw [h2] at CB
    rw [h6] at CL
    have x1 := toList_ne h3
    have x2 := toList_nonempty h3
    have x3 := toList_ne h5
    have x4 := toList_nonempty h5
    clear h1 h2 h3 h5 h6 CHH
    go_enter Try.func32, Try.ntmps32
    go_upto_region 1 with fail
    have hD := (((Hold.start w).madeRow (.slice qa A.length ca) [.string HA, .int .i64 NA] 29).madeRow (.slice qb B.length cb) [.string HB, .int .i64 NB] 29).madeRow (.slice none 0 0) [.string ⟨#[]⟩, .int .i64 0] 29
    simp only [World.size_alloc, List.nil_append] at hD
    generalize ((w.alloc (.cells #[.slice qa A.length ca, .string HA, .int .i64 NA] 29)).alloc (.cells #[.slice qb B.length cb, .string HB, .int .i64 NB] 29)).alloc (.cells #[.slice none 0 0, .string ⟨#[]⟩, .int .i64 0] 29) = w0 at *
    replace hD : Hold w w0 [rowR w.heap.size (.slice qa A.length ca) [.string HA, .int .i64 NA], rowR (w.heap.size + 1) (.slice qb B.length cb) [.string HB, .int .i64 NB], rowR (w.heap.size + 1 + 1) (.slice none 0 0) [.string ⟨#[]⟩, .int .i64 0]] := hD
    obtain ⟨t0, t1, t2, f0, f1, f2⟩ := RowAt.c3 (hD.get 0 rfl)
    obtain ⟨s0, s1, s2, z0, z1, z2⟩ := RowAt.c3 (hD.get 1 rfl)
    obtain ⟨r0, r1, r2, y0, y1, y2⟩ := RowAt.c3 (hD.get 2 rfl)
    go_upto_region 3 with (first
      | ((with_reducible refine (CA.out _ (HSA.out.up hD.up).pairs).mono ?_); rintro e wn ⟨rfl, hwn⟩; replace hD := hD.next hwn; clear hwn; clear t0 t1 t2 f0 f1 f2 s0 s1 s2 z0 z1 z2 r0 r1 r2 y0 y1 y2; obtain ⟨t0, t1, t2, f0, f1, f2⟩ := RowAt.c3 (hD.get 0 rfl); obtain ⟨s0, s1, s2, z0, z1, z2⟩ := RowAt.c3 (hD.get 1 rfl); obtain ⟨r0, r1, r2, y0, y1, y2⟩ := RowAt.c3 (hD.get 2 rfl))
      | ((with_reducible refine (CB.out _ (HSB.out.up hD.up).pairs).mono ?_); rintro e wn ⟨rfl, hwn⟩; replace hD := hD.next hwn; clear hwn; clear t0 t1 t2 f0 f1 f2 s0 s1 s2 z0 z1 z2 r0 r1 r2 y0 y1 y2; obtain ⟨t0, t1, t2, f0, f1, f2⟩ := RowAt.c3 (hD.get 0 rfl); obtain ⟨s0, s1, s2, z0, z1, z2⟩ := RowAt.c3 (hD.get 1 rfl); obtain ⟨r0, r1, r2, y0, y1, y2⟩ := RowAt.c3 (hD.get 2 rfl)))
    have hne := later_ne wn
    have CH := CL
    have l0 := Later.cell_of t0; have l1 := Later.cell_of t1; have l2 := Later.cell_of t2
    have m0 := Later.cell_of s0; have m1 := Later.cell_of s1; have m2 := Later.cell_of s2
    clear t0 t1 t2 f0 f1 f2 s0 s1 s2 z0 z1 z2 r0 r1 r2 y0 y1 y2
    refine wp_region_later (by kernel_rfl) (by kernel_rfl) ?_
    repeat (go_big_quiet_step (first
      | (go_at_call 38; rename_i ul; with_reducible exact Calls.later (CL.out _))
      | (go_at_call 38; rename_i ul; with_reducible exact Calls.later (CH.out _))))
    refine wpQuiet_nil ?_
    intro w9 hw9
    obtain ⟨u9, rfl⟩ := hw9
    replace hD := hD.next u9.up
    clear l0 l1 l2 m0 m1 m2 hne
    generalize u9.world = w9 at *
    obtain ⟨t0, t1, t2, f0, f1, f2⟩ := RowAt.c3 (hD.get 0 rfl)
    obtain ⟨s0, s1, s2, z0, z1, z2⟩ := RowAt.c3 (hD.get 1 rfl)
    obtain ⟨r0, r1, r2, y0, y1, y2⟩ := RowAt.c3 (hD.get 2 rfl)
    go_wp2_with fail
    exact bodyPost_ret (v := .tuple #[.agg #[.slice none 0 0, .string ⟨#[]⟩, .int .i64 0], .int .i64 1]) (by simp [results, Try.results32, go_sem, *]) rfl (HP.out _ (by (repeat (refine Up.setCell ?_ _ _ _ (by omega))); exact hD.up))
  · rw [h1] at CA
    rw [h2] at CB
    have x1 := toList_ne h3
    have x2 := toList_nonempty h3
    clear h1 h2 h3
    have hpos : 0 < B.length := by
      cases B with
      | nil => cases h4
      | cons p l => simp
    rw [headLt_pos hpos] at h4
    have CH := Lib.hid (fun w => CHH.out B[0] (List.getElem_mem hpos) w)
    rw [h4] at CH
    clear h4 CHH
    have b0 : (0 : Int) < (B.length : Int) := by omega
    have key : (HB.toList = [] ∧ HB.toList.isEmpty = true) ∨ (¬ HB.toList = [] ∧ HB.toList.isEmpty = false ∧ ltS HB HA = false) := by
      rcases h5 with h | ⟨h, h6⟩
      · exact .inl (by subst h; rw [Lib.toList_data]; exact ⟨rfl, rfl⟩)
      · exact .inr ⟨toList_ne h, toList_nonempty h, h6⟩
    clear h5
    rcases key with ⟨k1, k2⟩ | ⟨k1, k2, k3⟩
    case' inr => rw [k3] at CL; clear k3
    all_goals
      go_enter Try.func32, Try.ntmps32
      go_upto_region 1 with fail
      have hD := (((Hold.start w).madeRow (.slice qa A.length ca) [.string HA, .int .i64 NA] 29).madeRow (.slice qb B.length cb) [.string HB, .int .i64 NB] 29).madeRow (.slice none 0 0) [.string ⟨#[]⟩, .int .i64 0] 29
      simp only [World.size_alloc, List.nil_append] at hD
      generalize ((w.alloc (.cells #[.slice qa A.length ca, .string HA, .int .i64 NA] 29)).alloc (.cells #[.slice qb B.length cb, .string HB, .int .i64 NB] 29)).alloc (.cells #[.slice none 0 0, .string ⟨#[]⟩, .int .i64 0] 29) = w0 at *
      replace hD : Hold w w0 [rowR w.heap.size (.slice qa A.length ca) [.string HA, .int .i64 NA], rowR (w.heap.size + 1) (.slice qb B.length cb) [.string HB, .int .i64 NB], rowR (w.heap.size + 1 + 1) (.slice none 0 0) [.string ⟨#[]⟩, .int .i64 0]] := hD
      obtain ⟨t0, t1, t2, f0, f1, f2⟩ := RowAt.c3 (hD.get 0 rfl)
      obtain ⟨s0, s1, s2, z0, z1, z2⟩ := RowAt.c3 (hD.get 1 rfl)
      obtain ⟨r0, r1, r2, y0, y1, y2⟩ := RowAt.c3 (hD.get 2 rfl)
      go_upto_region 3 with (first
        | ((with_reducible refine (CA.out _ (HSA.out.up hD.up).pairs).mono ?_); rintro e wn ⟨rfl, hwn⟩; replace hD := hD.next hwn; clear hwn; clear t0 t1 t2 f0 f1 f2 s0 s1 s2 z0 z1 z2 r0 r1 r2 y0 y1 y2; obtain ⟨t0, t1, t2, f0, f1, f2⟩ := RowAt.c3 (hD.get 0 rfl); obtain ⟨s0, s1, s2, z0, z1, z2⟩ := RowAt.c3 (hD.get 1 rfl); obtain ⟨r0, r1, r2, y0, y1, y2⟩ := RowAt.c3 (hD.get 2 rfl))
        | ((with_reducible refine (CB.out _ (HSB.out.up hD.up).pairs).mono ?_); rintro e wn ⟨rfl, hwn⟩; replace hD := hD.next hwn; clear hwn; clear t0 t1 t2 f0 f1 f2 s0 s1 s2 z0 z1 z2 r0 r1 r2 y0 y1 y2; obtain ⟨t0, t1, t2, f0, f1, f2⟩ := RowAt.c3 (hD.get 0 rfl); obtain ⟨s0, s1, s2, z0, z1, z2⟩ := RowAt.c3 (hD.get 1 rfl); obtain ⟨r0, r1, r2, y0, y1, y2⟩ := RowAt.c3 (hD.get 2 rfl)))
      have hne := later_ne wn
      obtain ⟨g, o, rfl, c0⟩ := pairs_head (HSB.out.up hD.up).pairs hpos
      have n0 := Later.cell_of c0
      clear c0
      generalize B[0] = p at *
      have l0 := Later.cell_of t0; have l1 := Later.cell_of t1; have l2 := Later.cell_of t2
      have m0 := Later.cell_of s0; have m1 := Later.cell_of s1; have m2 := Later.cell_of s2
      clear t0 t1 t2 f0 f1 f2 s0 s1 s2 z0 z1 z2 r0 r1 r2 y0 y1 y2
      refine wp_region_later (by kernel_rfl) (by kernel_rfl) ?_
      repeat (go_big_quiet_step (first
        | (go_at_call 38; rename_i ul; with_reducible exact Calls.later (CL.out _))
        | (go_at_call 38; rename_i ul; with_reducible exact Calls.later (CH.out _))))
      refine wpQuiet_nil ?_
      intro w9 hw9
      obtain ⟨u9, rfl⟩ := hw9
      replace hD := hD.next u9.up
      clear l0 l1 l2 m0 m1 m2 hne
      generalize u9.world = w9 at *
      obtain ⟨t0, t1, t2, f0, f1, f2⟩ := RowAt.c3 (hD.get 0 rfl)
      obtain ⟨s0, s1, s2, z0, z1, z2⟩ := RowAt.c3 (hD.get 1 rfl)
      obtain ⟨r0, r1, r2, y0, y1, y2⟩ := RowAt.c3 (hD.get 2 rfl)
      clear n0
      go_wp2_with fail
      exact bodyPost_ret (v := .tuple #[.agg #[.slice none 0 0, .string ⟨#[]⟩, .int .i64 0], .int .i64 1]) (by simp [results, Try.results32, go_sem, *]) rfl (HP.out _ (by (repeat (refine Up.setCell ?_ _ _ _ (by omega))); exact hD.up))
set_option maxHeartbeats 8000000 in
set_option maxRecDepth 100000 in
theorem ref10_Join_good (a b : LfD) (ha : a.Sm) (hb : b.Sm) (qa qb : Option Addr) (ca cb : Nat) (w : World) (hA : SlAt w qa ca a.l) (hB : SlAt w qb cb b.l) (hm : mayJoin a b = true) :
    Calls Try.prog 32 #[lfV a qa ca, lfV b qb cb] w (LfPost w (jD a b) (jE a b)) := by
  have hm' := hm
  rw [mayJoin] at hm
  simp only [Bool.and_eq_true, Bool.not_eq_true', Bool.or_eq_true, decide_eq_true_eq, decide_eq_false_iff_not] at hm
  obtain ⟨⟨⟨⟨h1, h2⟩, h3⟩, h4⟩, h5⟩ := hm
  have sa := right_sm h1
  have sb := right_sm h2
  have hlen : (a.l ++ b.l).length ≤ 1000 := by simp only [List.length_append]; omega
  have hE : ∀ p ∈ a.l ++ b.l, p.1.size ≤ 1000 ∧ p.2.size ≤ 1000 := fun p hp => (List.mem_append.1 hp).elim (ha.each p) (hb.each p)
  have CW := Lib.hid (fun q' c' w hA => ref10_weight (a.l ++ b.l) hlen hE q' c' w hA)
  have hwb := wtL_take hE hlen (a.l ++ b.l).length
  rw [List.take_length] at hwb
  have HZ := Lib.hid hwb
  have CA := Lib.hid (fun w hA => ref10_Right a ha qa ca w hA)
  have CB := Lib.hid (fun w hA => ref10_Right b hb qb cb w hA)
  rw [h1] at CA
  rw [h2] at CB
  have CL := Lib.hid (fun w => ref5_Less b.high a.high w (by have := hb.high; omega) (by have := ha.high; omega))
  have CHH := Lib.hid (fun p (hp : p ∈ b.l) w => ref5_Less p.1 a.high w (by have := (hb.each p hp).1; omega) (by have := ha.high; omega))
  have HP := Lib.hid (show ∀ w' q c, Below w.heap.size w w' → (slR q c (a.l ++ b.l)).holds w' → NewQ w q → LfPost w (jD a b) (jE a b) (.returned (.tuple #[if wtL (a.l ++ b.l) ≤ 231 then .agg #[.slice q (a.l ++ b.l).length c, .string b.high, .int .i64 b.next] else .agg #[.slice none 0 0, .string ⟨#[]⟩, .int .i64 0], .int .i64 (if wtL (a.l ++ b.l) ≤ 231 then 0 else 6)])) w' from fun w' q c hb hs hn => by
    by_cases hw : wtL (a.l ++ b.l) ≤ 231
    · have e1 : jE a b = 0 := by simp [jE, hm', hw]
      have e2 : jD a b = ⟨a.l ++ b.l, b.high, b.next⟩ := by simp [jD, e1]
      rw [e1, e2, if_pos hw, if_pos hw]
      exact ⟨q, c, rfl, hs, hn, hb⟩
    · have e1 : jE a b = 6 := by simp [jE, hm', hw]
      have e2 : jD a b = noneL := by simp [jD, e1]
      rw [e1, e2, if_neg hw, if_neg hw]
      exact ⟨none, 0, rfl, (slR_nil w').1, (slR_nil w).2, hb⟩)
  generalize LfPost w (jD a b) (jE a b) = PP at *
  have lb := hb.len
  have la := ha.len
  have HC := Lib.hid (show cellsP a.l ++ cellsP b.l = cellsP (a.l ++ b.l) from (cellsP_append _ _).symm)
  have HM := Lib.hid (show a.l.length + b.l.length = (a.l ++ b.l).length from List.length_append.symm)
  clear hm' sa sb h1 h2 hE hwb hlen
  obtain ⟨A, HA, NA⟩ := a
  obtain ⟨B, HB, NB⟩ := b
  simp only [lfV] at *
  generalize A ++ B = L' at *
  replace hA : SlAt w qa ca A := hA
  replace hB : SlAt w qb cb B := hB
  have hn1 := Lib.hid (show qa = none → A.length = 0 ∧ ca = 0 from fun h => by have h1 := hA.2.1; have h2 := hA.2.2 h; exact ⟨by omega, h2⟩)
  have hn3 := Lib.hid (show qb = none → B.length = 0 ∧ cb = 0 from fun h => by have h1 := hB.2.1; have h2 := hB.2.2 h; exact ⟨by omega, h2⟩)
  have HSA := Lib.hid hA
  have HSB := Lib.hid hB
  clear hA hB ha hb
  have u1 := Lib.hid (cellsP_one A)
  have u3 := Lib.hid (cellsP_one B)
  have ht1 := Lib.hid (cellsP_length A)
  have ht3 := Lib.hid (cellsP_length B)
  have B1 := Lib.hid (show 0 + A.length ≤ 2000 by omega)
  have B3 := Lib.hid (show A.length + B.length ≤ 2000 by omega)
  obtain ⟨inf, hi0', hz0, hz1, hz2⟩ := infoPair
  have b1 : (B.length : Int) ≤ 1000 := by omega
  have b2 : (A.length : Int) ≤ 1000 := by omega
  have x1 := toList_ne h3
  have x2 := toList_nonempty h3
  clear h3
  generalize hX1 : cellsP A = X1 at *
  generalize hX3 : cellsP B = X3 at *
  have HX1 := Lib.hid hX1
  have HX3 := Lib.hid hX3
  clear hX1 hX3
  have key : (HB.toList = [] ∧ HB.toList.isEmpty = true) ∨ (¬ HB.toList = [] ∧ HB.toList.isEmpty = false ∧ ltS HB HA = false) := by
    by_cases h : HB = ByteArray.empty
    · exact .inl (by subst h; rw [Lib.toList_data]; exact ⟨rfl, rfl⟩)
    · exact .inr ⟨toList_ne h, toList_nonempty h, h5.resolve_left h⟩
  clear h5
  by_cases hpos : 0 < B.length
  · rw [headLt_pos hpos] at h4
    have CH := Lib.hid (fun w => CHH.out B[0] (List.getElem_mem hpos) w)
    rw [h4] at CH
    clear h4 CHH
    have b0 : (0 : Int) < (B.length : Int) := by omega
    rcases key with ⟨k1, k2⟩ | ⟨k1, k2, k3⟩
    case' inr => rw [k3] at CL; clear k3
    all_goals
      go_enter Try.func32, Try.ntmps32
      go_upto_region 1 with fail
      have hD := (((Hold.start w).madeRow (.slice qa A.length ca) [.string HA, .int .i64 NA] 29).madeRow (.slice qb B.length cb) [.string HB, .int .i64 NB] 29).madeRow (.slice none 0 0) [.string ⟨#[]⟩, .int .i64 0] 29
      simp only [World.size_alloc, List.nil_append] at hD
      generalize ((w.alloc (.cells #[.slice qa A.length ca, .string HA, .int .i64 NA] 29)).alloc (.cells #[.slice qb B.length cb, .string HB, .int .i64 NB] 29)).alloc (.cells #[.slice none 0 0, .string ⟨#[]⟩, .int .i64 0] 29) = w0 at *
      replace hD : Hold w w0 [rowR w.heap.size (.slice qa A.length ca) [.string HA, .int .i64 NA], rowR (w.heap.size + 1) (.slice qb B.length cb) [.string HB, .int .i64 NB], rowR (w.heap.size + 1 + 1) (.slice none 0 0) [.string ⟨#[]⟩, .int .i64 0]] := hD
      obtain ⟨t0, t1, t2, f0, f1, f2⟩ := RowAt.c3 (hD.get 0 rfl)
      obtain ⟨s0, s1, s2, z0, z1, z2⟩ := RowAt.c3 (hD.get 1 rfl)
      obtain ⟨r0, r1, r2, y0, y1, y2⟩ := RowAt.c3 (hD.get 2 rfl)
      go_upto_region 3 with (first
        | ((with_reducible refine (CA.out _ (HSA.out.up hD.up).pairs).mono ?_); rintro e wn ⟨rfl, hwn⟩; replace hD := hD.next hwn; clear hwn; clear t0 t1 t2 f0 f1 f2 s0 s1 s2 z0 z1 z2 r0 r1 r2 y0 y1 y2; obtain ⟨t0, t1, t2, f0, f1, f2⟩ := RowAt.c3 (hD.get 0 rfl); obtain ⟨s0, s1, s2, z0, z1, z2⟩ := RowAt.c3 (hD.get 1 rfl); obtain ⟨r0, r1, r2, y0, y1, y2⟩ := RowAt.c3 (hD.get 2 rfl))
        | ((with_reducible refine (CB.out _ (HSB.out.up hD.up).pairs).mono ?_); rintro e wn ⟨rfl, hwn⟩; replace hD := hD.next hwn; clear hwn; clear t0 t1 t2 f0 f1 f2 s0 s1 s2 z0 z1 z2 r0 r1 r2 y0 y1 y2; obtain ⟨t0, t1, t2, f0, f1, f2⟩ := RowAt.c3 (hD.get 0 rfl); obtain ⟨s0, s1, s2, z0, z1, z2⟩ := RowAt.c3 (hD.get 1 rfl); obtain ⟨r0, r1, r2, y0, y1, y2⟩ := RowAt.c3 (hD.get 2 rfl)))
      have hne := later_ne wn
      obtain ⟨g, o, hq, c0⟩ := pairs_head (HSB.out.up hD.up).pairs hpos
      subst hq
      have n0 := Later.cell_of c0
      clear c0
      generalize hp : B[0] = p at *
      clear hp
      have l0 := Later.cell_of t0; have l1 := Later.cell_of t1; have l2 := Later.cell_of t2
      have m0 := Later.cell_of s0; have m1 := Later.cell_of s1; have m2 := Later.cell_of s2
      clear t0 t1 t2 f0 f1 f2 s0 s1 s2 z0 z1 z2 r0 r1 r2 y0 y1 y2
      refine wp_region_later (by kernel_rfl) (by kernel_rfl) ?_
      repeat (go_big_quiet_step (first
        | (go_at_call 38; rename_i ul; with_reducible exact Calls.later (CL.out _))
        | (go_at_call 38; rename_i ul; with_reducible exact Calls.later (CH.out _))))
      refine wpQuiet_nil ?_
      intro w9 hw9
      obtain ⟨u9, rfl⟩ := hw9
      replace hD := hD.next u9.up
      clear l0 l1 l2 m0 m1 m2 hne
      generalize u9.world = w9 at *
      obtain ⟨t0, t1, t2, f0, f1, f2⟩ := RowAt.c3 (hD.get 0 rfl)
      obtain ⟨s0, s1, s2, z0, z1, z2⟩ := RowAt.c3 (hD.get 1 rfl)
      obtain ⟨r0, r1, r2, y0, y1, y2⟩ := RowAt.c3 (hD.get 2 rfl)
      clear n0 CA CB CL CH
      go_upto_region 5 with fail
      generalize (some (⟨g, o, none⟩ : Addr)) = qb at *
      replace hD : Hold w (w9.alloc (.cells #[] 44)) [rowR w.heap.size (.slice qa A.length ca) [.string HA, .int .i64 NA], rowR (w.heap.size + 1) (.slice qb B.length cb) [.string HB, .int .i64 NB], rowR (w.heap.size + 1 + 1) (.slice none 0 0) [.string ⟨#[]⟩, .int .i64 0], ownZ 44 2 (.slice (some ⟨w9.heap.size, 0, none⟩) 0 0) 0 []] := hD.madeZ 44 2
      clear f0 f1 f2 s0 s1 s2 z0 z1 z2 r0 r1 r2 y0 y1 y2
      obtain ⟨x0, x1, x2, -⟩ := RowAt.c3 (hD.get 0 rfl)
      go_upto_region 6 with ((with_reducible refine wpList_at 52 ?_); refine wpList_appendIn rfl (.tmp 49) (.tmp 51) 22 rfl 44 inf (.agg #[.string ⟨#[]⟩, .string ⟨#[]⟩]) 2 32 (by kernel_rfl) hi0' hz0 hz1 hz2 rfl (by decide) hD 3 (0) _ ([]) rfl rfl (qa) (A.length) _ (X1) rfl ht1.out hn1.out (fun ad i u h hu => (HSA.out.up hD.up).cells h i u (by simpa only [HX1.out] using hu)) u1.out (by have := B1.out; unfold maxLen; omega) (by have := B1.out; omega) ?_; intro q7 c7 w7 h7 h8 hD)
      simp only [Nat.zero_add, List.nil_append] at hD
      replace hD : Hold w w7 [rowR w.heap.size (.slice qa A.length ca) [.string HA, .int .i64 NA], rowR (w.heap.size + 1) (.slice qb B.length cb) [.string HB, .int .i64 NB], rowR (w.heap.size + 1 + 1) (.slice none 0 0) [.string ⟨#[]⟩, .int .i64 0], ownZ 44 2 (.slice q7 A.length c7) A.length X1] := hD
      clear h7 h8 x0 x1 x2 t0 t1 t2
      obtain ⟨s0, s1, s2, -⟩ := RowAt.c3 (hD.get 1 rfl)
      go_upto_region 7 with ((with_reducible refine wpList_at 56 ?_); refine wpList_appendIn rfl (.tmp 53) (.tmp 55) 22 rfl 44 inf (.agg #[.string ⟨#[]⟩, .string ⟨#[]⟩]) 2 32 (by kernel_rfl) hi0' hz0 hz1 hz2 rfl (by decide) hD 3 (A.length) _ (X1) rfl rfl (qb) (B.length) _ (X3) rfl ht3.out hn3.out (fun ad i u h hu => (HSB.out.up hD.up).cells h i u (by simpa only [HX3.out] using hu)) u3.out (by have := B3.out; unfold maxLen; omega) (by have := B3.out; omega) ?_; intro q7 c7 w7 h7 h8 hD)
      rw [HC.out] at hD
      replace hD : Hold w w7 [rowR w.heap.size (.slice qa A.length ca) [.string HA, .int .i64 NA], rowR (w.heap.size + 1) (.slice qb B.length cb) [.string HB, .int .i64 NB], rowR (w.heap.size + 1 + 1) (.slice none 0 0) [.string ⟨#[]⟩, .int .i64 0], ownZ 44 2 (.slice q7 (A.length + B.length) c7) (A.length + B.length) (cellsP L')] := hD
      rw [HM.out] at hD h7
      rw [HM.out]
      have hF : Hold w w7 [rowR w.heap.size (.slice qa A.length ca) [.string HA, .int .i64 NA], rowR (w.heap.size + 1) (.slice qb B.length cb) [.string HB, .int .i64 NB], rowR (w.heap.size + 1 + 1) (.slice none 0 0) [.string ⟨#[]⟩, .int .i64 0], slR q7 c7 L'] := hold_toSl hD 3 rfl rfl h7 h8
      clear hD h7 h8 s0 s1 s2 ht1 ht3 hn1 hn3 u1 u3 B1 B3 HC HX1 HX3
      generalize q7 = q9 at *
      generalize c7 = c9 at *
      generalize w7 = wc at *
      have hD : Hold w (wc.alloc (.cells #[.slice none 0 0, .string ⟨#[]⟩, .int .i64 0] 29)) [rowR w.heap.size (.slice qa A.length ca) [.string HA, .int .i64 NA], rowR (w.heap.size + 1) (.slice qb B.length cb) [.string HB, .int .i64 NB], rowR (w.heap.size + 1 + 1) (.slice none 0 0) [.string ⟨#[]⟩, .int .i64 0], slR q9 c9 L', rowR wc.heap.size (.slice none 0 0) [.string ⟨#[]⟩, .int .i64 0]] := hF.madeRow (.slice none 0 0) [.string ⟨#[]⟩, .int .i64 0] 29
      obtain ⟨t0, t1, t2, -⟩ := RowAt.c3 (hF.get 1 rfl)
      obtain ⟨x0, x1, x2, y0, y1, y2⟩ := RowAt.c3 (hD.get 4 rfl)
      go_upto_region 8 with fail
      clear hD t0 t1 t2 x0 x1 x2 y0 y1 y2
      have hD : Hold w (wc.alloc (.cells #[.slice q9 L'.length c9, .string HB, .int .i64 NB] 29)) [rowR w.heap.size (.slice qa A.length ca) [.string HA, .int .i64 NA], rowR (w.heap.size + 1) (.slice qb B.length cb) [.string HB, .int .i64 NB], rowR (w.heap.size + 1 + 1) (.slice none 0 0) [.string ⟨#[]⟩, .int .i64 0], slR q9 c9 L', rowR wc.heap.size (.slice q9 L'.length c9) [.string HB, .int .i64 NB]] := hF.madeRow (.slice q9 L'.length c9) [.string HB, .int .i64 NB] 29
      clear hF
      generalize wc.heap.size = g11 at *
      generalize wc.alloc _ = w11 at *
      have hzz := HZ.out
      by_cases hw : wtL L' ≤ 231
      · simp only [if_pos hw] at HP
        generalize wtL L' = z at *
        have zz0 : 0 ≤ z := hzz.1
        have zz1 : ¬ 231 < z := by omega
        clear hw hzz HZ
        obtain ⟨t0, t1, t2, f0, f1, f2⟩ := RowAt.c3 (hD.get 4 rfl)
        obtain ⟨s0, s1, s2, z0, z1, z2⟩ := RowAt.c3 (hD.get 2 rfl)
        go_wp2_with ((with_reducible refine (CW.out _ _ _ (slR_pairs (hD.get 3 rfl))).mono ?_); rintro e wn ⟨rfl, hwn⟩; replace hD := hD.next hwn; clear hwn t0 t1 t2 f0 f1 f2 s0 s1 s2 z0 z1 z2; obtain ⟨t0, t1, t2, f0, f1, f2⟩ := RowAt.c3 (hD.get 4 rfl); obtain ⟨s0, s1, s2, z0, z1, z2⟩ := RowAt.c3 (hD.get 2 rfl))
        have hE := ((hD.putRow 2 (g := w.heap.size + 1 + 1) rfl 0 (.slice q9 L'.length c9) (.slice q9 L'.length c9) [.string ⟨#[]⟩, .int .i64 0] (by simp) rfl).putRow 2 (g := w.heap.size + 1 + 1) rfl 1 (.string HB) (.slice q9 L'.length c9) [.string HB, .int .i64 0] (by simp) rfl).putRow 2 (g := w.heap.size + 1 + 1) rfl 2 (.int .i64 NB) (.slice q9 L'.length c9) [.string HB, .int .i64 NB] (by simp) rfl
        exact bodyPost_ret (v := .tuple #[.agg #[.slice q9 L'.length c9, .string HB, .int .i64 NB], .int .i64 0]) (by simp [results, Try.results32, go_sem, *]) rfl (HP.out _ q9 c9 hE.up (hE.get 3 rfl) (slR_new hE (j := 3) rfl))
      · simp only [if_neg hw] at HP
        generalize wtL L' = z at *
        have zz0 : 0 ≤ z := hzz.1
        have zz1 : 231 < z := by omega
        clear hw hzz HZ
        obtain ⟨t0, t1, t2, f0, f1, f2⟩ := RowAt.c3 (hD.get 4 rfl)
        obtain ⟨s0, s1, s2, z0, z1, z2⟩ := RowAt.c3 (hD.get 2 rfl)
        go_wp2_with ((with_reducible refine (CW.out _ _ _ (slR_pairs (hD.get 3 rfl))).mono ?_); rintro e wn ⟨rfl, hwn⟩; replace hD := hD.next hwn; clear hwn t0 t1 t2 f0 f1 f2 s0 s1 s2 z0 z1 z2; obtain ⟨t0, t1, t2, f0, f1, f2⟩ := RowAt.c3 (hD.get 4 rfl); obtain ⟨s0, s1, s2, z0, z1, z2⟩ := RowAt.c3 (hD.get 2 rfl))
        have hE := ((hD.putRow 2 (g := w.heap.size + 1 + 1) rfl 0 (.slice none 0 0) (.slice none 0 0) [.string ⟨#[]⟩, .int .i64 0] (by simp) rfl).putRow 2 (g := w.heap.size + 1 + 1) rfl 1 (.string ⟨#[]⟩) (.slice none 0 0) [.string ⟨#[]⟩, .int .i64 0] (by simp) rfl).putRow 2 (g := w.heap.size + 1 + 1) rfl 2 (.int .i64 0) (.slice none 0 0) [.string ⟨#[]⟩, .int .i64 0] (by simp) rfl
        exact bodyPost_ret (v := .tuple #[.agg #[.slice none 0 0, .string ⟨#[]⟩, .int .i64 0], .int .i64 6]) (by simp [results, Try.results32, go_sem, *]) rfl (HP.out _ q9 c9 hE.up (hE.get 3 rfl) (slR_new hE (j := 3) rfl))
  · have b0 : decide (0 < B.length) = false := decide_eq_false hpos
    clear h4 hpos CHH
    rcases key with ⟨k1, k2⟩ | ⟨k1, k2, k3⟩
    case' inr => rw [k3] at CL; clear k3
    all_goals
      go_enter Try.func32, Try.ntmps32
      go_upto_region 1 with fail
      have hD := (((Hold.start w).madeRow (.slice qa A.length ca) [.string HA, .int .i64 NA] 29).madeRow (.slice qb B.length cb) [.string HB, .int .i64 NB] 29).madeRow (.slice none 0 0) [.string ⟨#[]⟩, .int .i64 0] 29
      simp only [World.size_alloc, List.nil_append] at hD
      generalize ((w.alloc (.cells #[.slice qa A.length ca, .string HA, .int .i64 NA] 29)).alloc (.cells #[.slice qb B.length cb, .string HB, .int .i64 NB] 29)).alloc (.cells #[.slice none 0 0, .string ⟨#[]⟩, .int .i64 0] 29) = w0 at *
      replace hD : Hold w w0 [rowR w.heap.size (.slice qa A.length ca) [.string HA, .int .i64 NA], rowR (w.heap.size + 1) (.slice qb B.length cb) [.string HB, .int .i64 NB], rowR (w.heap.size + 1 + 1) (.slice none 0 0) [.string ⟨#[]⟩, .int .i64 0]] := hD
      obtain ⟨t0, t1, t2, f0, f1, f2⟩ := RowAt.c3 (hD.get 0 rfl)
      obtain ⟨s0, s1, s2, z0, z1, z2⟩ := RowAt.c3 (hD.get 1 rfl)
      obtain ⟨r0, r1, r2, y0, y1, y2⟩ := RowAt.c3 (hD.get 2 rfl)
      go_upto_region 3 with (first
        | ((with_reducible refine (CA.out _ (HSA.out.up hD.up).pairs).mono ?_); rintro e wn ⟨rfl, hwn⟩; replace hD := hD.next hwn; clear hwn; clear t0 t1 t2 f0 f1 f2 s0 s1 s2 z0 z1 z2 r0 r1 r2 y0 y1 y2; obtain ⟨t0, t1, t2, f0, f1, f2⟩ := RowAt.c3 (hD.get 0 rfl); obtain ⟨s0, s1, s2, z0, z1, z2⟩ := RowAt.c3 (hD.get 1 rfl); obtain ⟨r0, r1, r2, y0, y1, y2⟩ := RowAt.c3 (hD.get 2 rfl))
        | ((with_reducible refine (CB.out _ (HSB.out.up hD.up).pairs).mono ?_); rintro e wn ⟨rfl, hwn⟩; replace hD := hD.next hwn; clear hwn; clear t0 t1 t2 f0 f1 f2 s0 s1 s2 z0 z1 z2 r0 r1 r2 y0 y1 y2; obtain ⟨t0, t1, t2, f0, f1, f2⟩ := RowAt.c3 (hD.get 0 rfl); obtain ⟨s0, s1, s2, z0, z1, z2⟩ := RowAt.c3 (hD.get 1 rfl); obtain ⟨r0, r1, r2, y0, y1, y2⟩ := RowAt.c3 (hD.get 2 rfl)))
      have hne := later_ne wn
      have CH := CL
      have l0 := Later.cell_of t0; have l1 := Later.cell_of t1; have l2 := Later.cell_of t2
      have m0 := Later.cell_of s0; have m1 := Later.cell_of s1; have m2 := Later.cell_of s2
      clear t0 t1 t2 f0 f1 f2 s0 s1 s2 z0 z1 z2 r0 r1 r2 y0 y1 y2
      refine wp_region_later (by kernel_rfl) (by kernel_rfl) ?_
      repeat (go_big_quiet_step (first
        | (go_at_call 38; rename_i ul; with_reducible exact Calls.later (CL.out _))
        | (go_at_call 38; rename_i ul; with_reducible exact Calls.later (CH.out _))))
      refine wpQuiet_nil ?_
      intro w9 hw9
      obtain ⟨u9, rfl⟩ := hw9
      replace hD := hD.next u9.up
      clear l0 l1 l2 m0 m1 m2 hne
      generalize u9.world = w9 at *
      obtain ⟨t0, t1, t2, f0, f1, f2⟩ := RowAt.c3 (hD.get 0 rfl)
      obtain ⟨s0, s1, s2, z0, z1, z2⟩ := RowAt.c3 (hD.get 1 rfl)
      obtain ⟨r0, r1, r2, y0, y1, y2⟩ := RowAt.c3 (hD.get 2 rfl)
      clear CA CB CL CH
      go_upto_region 5 with fail
      replace hD : Hold w (w9.alloc (.cells #[] 44)) [rowR w.heap.size (.slice qa A.length ca) [.string HA, .int .i64 NA], rowR (w.heap.size + 1) (.slice qb B.length cb) [.string HB, .int .i64 NB], rowR (w.heap.size + 1 + 1) (.slice none 0 0) [.string ⟨#[]⟩, .int .i64 0], ownZ 44 2 (.slice (some ⟨w9.heap.size, 0, none⟩) 0 0) 0 []] := hD.madeZ 44 2
      clear f0 f1 f2 s0 s1 s2 z0 z1 z2 r0 r1 r2 y0 y1 y2
      obtain ⟨x0, x1, x2, -⟩ := RowAt.c3 (hD.get 0 rfl)
      go_upto_region 6 with ((with_reducible refine wpList_at 52 ?_); refine wpList_appendIn rfl (.tmp 49) (.tmp 51) 22 rfl 44 inf (.agg #[.string ⟨#[]⟩, .string ⟨#[]⟩]) 2 32 (by kernel_rfl) hi0' hz0 hz1 hz2 rfl (by decide) hD 3 (0) _ ([]) rfl rfl (qa) (A.length) _ (X1) rfl ht1.out hn1.out (fun ad i u h hu => (HSA.out.up hD.up).cells h i u (by simpa only [HX1.out] using hu)) u1.out (by have := B1.out; unfold maxLen; omega) (by have := B1.out; omega) ?_; intro q7 c7 w7 h7 h8 hD)
      simp only [Nat.zero_add, List.nil_append] at hD
      replace hD : Hold w w7 [rowR w.heap.size (.slice qa A.length ca) [.string HA, .int .i64 NA], rowR (w.heap.size + 1) (.slice qb B.length cb) [.string HB, .int .i64 NB], rowR (w.heap.size + 1 + 1) (.slice none 0 0) [.string ⟨#[]⟩, .int .i64 0], ownZ 44 2 (.slice q7 A.length c7) A.length X1] := hD
      clear h7 h8 x0 x1 x2 t0 t1 t2
      obtain ⟨s0, s1, s2, -⟩ := RowAt.c3 (hD.get 1 rfl)
      go_upto_region 7 with ((with_reducible refine wpList_at 56 ?_); refine wpList_appendIn rfl (.tmp 53) (.tmp 55) 22 rfl 44 inf (.agg #[.string ⟨#[]⟩, .string ⟨#[]⟩]) 2 32 (by kernel_rfl) hi0' hz0 hz1 hz2 rfl (by decide) hD 3 (A.length) _ (X1) rfl rfl (qb) (B.length) _ (X3) rfl ht3.out hn3.out (fun ad i u h hu => (HSB.out.up hD.up).cells h i u (by simpa only [HX3.out] using hu)) u3.out (by have := B3.out; unfold maxLen; omega) (by have := B3.out; omega) ?_; intro q7 c7 w7 h7 h8 hD)
      rw [HC.out] at hD
      replace hD : Hold w w7 [rowR w.heap.size (.slice qa A.length ca) [.string HA, .int .i64 NA], rowR (w.heap.size + 1) (.slice qb B.length cb) [.string HB, .int .i64 NB], rowR (w.heap.size + 1 + 1) (.slice none 0 0) [.string ⟨#[]⟩, .int .i64 0], ownZ 44 2 (.slice q7 (A.length + B.length) c7) (A.length + B.length) (cellsP L')] := hD
      rw [HM.out] at hD h7
      rw [HM.out]
      have hF : Hold w w7 [rowR w.heap.size (.slice qa A.length ca) [.string HA, .int .i64 NA], rowR (w.heap.size + 1) (.slice qb B.length cb) [.string HB, .int .i64 NB], rowR (w.heap.size + 1 + 1) (.slice none 0 0) [.string ⟨#[]⟩, .int .i64 0], slR q7 c7 L'] := hold_toSl hD 3 rfl rfl h7 h8
      clear hD h7 h8 s0 s1 s2 ht1 ht3 hn1 hn3 u1 u3 B1 B3 HC HX1 HX3
      generalize q7 = q9 at *
      generalize c7 = c9 at *
      generalize w7 = wc at *
      have hD : Hold w (wc.alloc (.cells #[.slice none 0 0, .string ⟨#[]⟩, .int .i64 0] 29)) [rowR w.heap.size (.slice qa A.length ca) [.string HA, .int .i64 NA], rowR (w.heap.size + 1) (.slice qb B.length cb) [.string HB, .int .i64 NB], rowR (w.heap.size + 1 + 1) (.slice none 0 0) [.string ⟨#[]⟩, .int .i64 0], slR q9 c9 L', rowR wc.heap.size (.slice none 0 0) [.string ⟨#[]⟩, .int .i64 0]] := hF.madeRow (.slice none 0 0) [.string ⟨#[]⟩, .int .i64 0] 29
      obtain ⟨t0, t1, t2, -⟩ := RowAt.c3 (hF.get 1 rfl)
      obtain ⟨x0, x1, x2, y0, y1, y2⟩ := RowAt.c3 (hD.get 4 rfl)
      go_upto_region 8 with fail
      clear hD t0 t1 t2 x0 x1 x2 y0 y1 y2
      have hD : Hold w (wc.alloc (.cells #[.slice q9 L'.length c9, .string HB, .int .i64 NB] 29)) [rowR w.heap.size (.slice qa A.length ca) [.string HA, .int .i64 NA], rowR (w.heap.size + 1) (.slice qb B.length cb) [.string HB, .int .i64 NB], rowR (w.heap.size + 1 + 1) (.slice none 0 0) [.string ⟨#[]⟩, .int .i64 0], slR q9 c9 L', rowR wc.heap.size (.slice q9 L'.length c9) [.string HB, .int .i64 NB]] := hF.madeRow (.slice q9 L'.length c9) [.string HB, .int .i64 NB] 29
      clear hF
      generalize wc.heap.size = g11 at *
      generalize wc.alloc _ = w11 at *
      have hzz := HZ.out
      by_cases hw : wtL L' ≤ 231
      · simp only [if_pos hw] at HP
        generalize wtL L' = z at *
        have zz0 : 0 ≤ z := hzz.1
        have zz1 : ¬ 231 < z := by omega
        clear hw hzz HZ
        obtain ⟨t0, t1, t2, f0, f1, f2⟩ := RowAt.c3 (hD.get 4 rfl)
        obtain ⟨s0, s1, s2, z0, z1, z2⟩ := RowAt.c3 (hD.get 2 rfl)
        go_wp2_with ((with_reducible refine (CW.out _ _ _ (slR_pairs (hD.get 3 rfl))).mono ?_); rintro e wn ⟨rfl, hwn⟩; replace hD := hD.next hwn; clear hwn t0 t1 t2 f0 f1 f2 s0 s1 s2 z0 z1 z2; obtain ⟨t0, t1, t2, f0, f1, f2⟩ := RowAt.c3 (hD.get 4 rfl); obtain ⟨s0, s1, s2, z0, z1, z2⟩ := RowAt.c3 (hD.get 2 rfl))
        have hE := ((hD.putRow 2 (g := w.heap.size + 1 + 1) rfl 0 (.slice q9 L'.length c9) (.slice q9 L'.length c9) [.string ⟨#[]⟩, .int .i64 0] (by simp) rfl).putRow 2 (g := w.heap.size + 1 + 1) rfl 1 (.string HB) (.slice q9 L'.length c9) [.string HB, .int .i64 0] (by simp) rfl).putRow 2 (g := w.heap.size + 1 + 1) rfl 2 (.int .i64 NB) (.slice q9 L'.length c9) [.string HB, .int .i64 NB] (by simp) rfl
        exact bodyPost_ret (v := .tuple #[.agg #[.slice q9 L'.length c9, .string HB, .int .i64 NB], .int .i64 0]) (by simp [results, Try.results32, go_sem, *]) rfl (HP.out _ q9 c9 hE.up (hE.get 3 rfl) (slR_new hE (j := 3) rfl))
      · simp only [if_neg hw] at HP
        generalize wtL L' = z at *
        have zz0 : 0 ≤ z := hzz.1
        have zz1 : 231 < z := by omega
        clear hw hzz HZ
        obtain ⟨t0, t1, t2, f0, f1, f2⟩ := RowAt.c3 (hD.get 4 rfl)
        obtain ⟨s0, s1, s2, z0, z1, z2⟩ := RowAt.c3 (hD.get 2 rfl)
        go_wp2_with ((with_reducible refine (CW.out _ _ _ (slR_pairs (hD.get 3 rfl))).mono ?_); rintro e wn ⟨rfl, hwn⟩; replace hD := hD.next hwn; clear hwn t0 t1 t2 f0 f1 f2 s0 s1 s2 z0 z1 z2; obtain ⟨t0, t1, t2, f0, f1, f2⟩ := RowAt.c3 (hD.get 4 rfl); obtain ⟨s0, s1, s2, z0, z1, z2⟩ := RowAt.c3 (hD.get 2 rfl))
        have hE := ((hD.putRow 2 (g := w.heap.size + 1 + 1) rfl 0 (.slice none 0 0) (.slice none 0 0) [.string ⟨#[]⟩, .int .i64 0] (by simp) rfl).putRow 2 (g := w.heap.size + 1 + 1) rfl 1 (.string ⟨#[]⟩) (.slice none 0 0) [.string ⟨#[]⟩, .int .i64 0] (by simp) rfl).putRow 2 (g := w.heap.size + 1 + 1) rfl 2 (.int .i64 0) (.slice none 0 0) [.string ⟨#[]⟩, .int .i64 0] (by simp) rfl
        exact bodyPost_ret (v := .tuple #[.agg #[.slice none 0 0, .string ⟨#[]⟩, .int .i64 0], .int .i64 6]) (by simp [results, Try.results32, go_sem, *]) rfl (HP.out _ q9 c9 hE.up (hE.get 3 rfl) (slR_new hE (j := 3) rfl))
theorem ref10_Join (a b : LfD) (ha : a.Sm) (hb : b.Sm) (qa qb : Option Addr) (ca cb : Nat) (w : World) (hA : SlAt w qa ca a.l) (hB : SlAt w qb cb b.l) :
    Calls Try.prog 32 #[lfV a qa ca, lfV b qb cb] w (LfPost w (jD a b) (jE a b)) := by
  cases hm : mayJoin a b
  · exact ref10_Join_bad a b ha hb qa qb ca cb w hA hB hm
  · exact ref10_Join_good a b ha hb qa qb ca cb w hA hB hm
end Go.Proofs.Ytdlcmbnbfghdmaa
