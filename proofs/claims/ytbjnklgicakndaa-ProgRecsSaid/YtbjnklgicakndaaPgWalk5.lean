import Derived.Test.YtbjnklgicakndaaPgWalk4
namespace Go.Proofs.Ytbjnklgicakndaa
open Go.RowKit Bw
set_option linter.unusedVariables false


set_option maxHeartbeats 2000000 in
theorem ref20_Begin (p u o : Int) (w : World) :
    Calls Try.prog 12 #[progV p u o] w fun r w' => r = .returned (.tuple #[beginV p u o, .int .i64 (beginE p u o)]) ∧ Below w.heap.size w w' := by
  have c1 := fun w => ref20_Right p u o w
  have C2 := Lib.hid ref20_top
  have hE : beginE p u o = if rightB p u o then (if p = 0 ∨ p = 4 ∨ 0 < o ∨ u = 1099511627775 then 9 else 0) else 1 := by
    unfold beginE mayE
    split
    · rename_i hr
      have := right_bounds hr
      have hw : worksB p = decide (¬ p = 0 ∧ ¬ p = 4) := by rw [Bool.eq_iff_iff]; simp [worksB]
      rw [hw]
      by_cases h : p = 4 <;> by_cases h2 : o = 0 <;> by_cases h3 : p = 0 <;> by_cases h4 : u = 1099511627775 <;> simp [h, h2, h3, h4] <;> omega
    · rfl
  have hb : rightB p u o = true → 0 ≤ p ∧ p ≤ 4 ∧ 0 ≤ o ∧ 0 ≤ u ∧ u < 1099511627776 := fun hr => by have := right_bounds hr; omega
  unfold beginV
  generalize beginE p u o = E at *
  generalize rightB p u o = R at *
  unfold progV at *
  have hu := Up.refl w
  cases R
  · simp at hE
    subst hE
    have C1 := Lib.hid c1; clear c1 hb
    go_enter Try.func12, Try.ntmps12
    replace hu := (hu.alloc (.cells #[.int .i64 p, .int .i64 u, .int .i64 o] 27)).alloc (.cells #[.int .i64 0, .int .i64 0, .int .i64 0] 27)
    go_wp2_with ((with_reducible refine (C1.out _).mono ?_); rintro e w1 ⟨rfl, hw1⟩; obtain ⟨hcc, hff⟩ := ucell hw1; replace hu := hu.next hw1; clear hw1)
    refine bodyPost_ret (v := .tuple #[progV 0 0 0, .int .i64 1]) (by simp [results, Try.results12, go_sem, progV, *]) rfl ⟨rfl, ?_⟩
    repeat (first | refine Up.setCell ?_ _ _ _ (by first | omega | (simp; done) | (simp; omega)) | refine Up.alloc ?_ _)
    exact hu
  · have C1 := Lib.hid c1; clear c1
    obtain ⟨b1, b2, b3, b4, b5⟩ := hb rfl
    clear hb
    rw [if_pos rfl] at hE
    have cs : (p = 0 ∧ E = 9) ∨ (p = 4 ∧ E = 9) ∨ (¬ p = 0 ∧ ¬ p = 4 ∧ (p == 0) = false ∧ (p == 4) = false ∧ 0 < o ∧ decide (0 < o) = true ∧ E = 9) ∨ (¬ p = 0 ∧ ¬ p = 4 ∧ (p == 0) = false ∧ (p == 4) = false ∧ o = 0 ∧ u = 1099511627775 ∧ E = 9) ∨
        (¬ p = 0 ∧ ¬ p = 4 ∧ (p == 0) = false ∧ (p == 4) = false ∧ o = 0 ∧ (u == 1099511627775) = false ∧ u < 1099511627775 ∧ E = 0) := by
      simp only [decide_eq_true_eq, beq_eq_false_iff_ne, ne_eq]
      split at hE <;> omega
    clear hE
    rcases cs with ⟨rfl, rfl⟩ | ⟨rfl, rfl⟩ | ⟨h1, h2, h3, h4, h5, h6, rfl⟩ | ⟨h1, h2, h3, h4, rfl, rfl, rfl⟩ | ⟨h1, h2, h3, h4, rfl, h5, h6, rfl⟩
    · go_enter Try.func12, Try.ntmps12
      replace hu := (hu.alloc (.cells #[.int .i64 0, .int .i64 u, .int .i64 o] 27)).alloc (.cells #[.int .i64 0, .int .i64 0, .int .i64 0] 27)
      have rp := ((RowAt.made w 27 [.int .i64 0, .int .i64 u, .int .i64 o]).alloc (.cells #[.int .i64 0, .int .i64 0, .int .i64 0] 27))
      have rr := (RowAt.made (w.alloc (.cells #[.int .i64 0, .int .i64 u, .int .i64 o] 27)) 27 [.int .i64 0, .int .i64 0, .int .i64 0])
      simp at rp rr
      go_upto_region 3 with ((with_reducible refine (C1.out _).mono ?_); rintro e w1 ⟨rfl, hw1⟩; replace rp := rp.up hw1; replace rr := rr.up hw1; replace hu := hu.next hw1; clear hw1)
      obtain ⟨p0, p1, p2, -⟩ := rp.c3
      have l0 := Later.cell_of p0; have l1 := Later.cell_of p1; have l2 := Later.cell_of p2
      clear p0 p1 p2
      have hne := later_ne w1
      refine wp_region_later (by kernel_rfl) (by kernel_rfl) ?_
      repeat (go_big_quiet_step ((go_at_call 30; exact Calls.later_same (C2.out _))))
      refine wpQuiet_nil ?_
      intro w9 hw9
      obtain ⟨u9, rfl⟩ := hw9
      replace hu := hu.trans u9.up
      replace rp := rp.up u9.up
      replace rr := rr.up u9.up
      obtain ⟨p0, p1, p2, -⟩ := rp.c3
      obtain ⟨r0, r1, r2, z0, z1, z2⟩ := rr.c3
      clear l0 l1 l2 hne
      generalize u9.world = w9 at *
      go_wp2_with fail
      refine bodyPost_ret (v := .tuple #[progV 0 0 0, .int .i64 9]) (by simp [results, Try.results12, go_sem, progV, *]) rfl ⟨rfl, ?_⟩
      repeat (first | refine Up.setCell ?_ _ _ _ (by first | omega | (simp; done) | (simp; omega)) | refine Up.alloc ?_ _)
      exact hu
    · go_enter Try.func12, Try.ntmps12
      replace hu := (hu.alloc (.cells #[.int .i64 4, .int .i64 u, .int .i64 o] 27)).alloc (.cells #[.int .i64 0, .int .i64 0, .int .i64 0] 27)
      have rp := ((RowAt.made w 27 [.int .i64 4, .int .i64 u, .int .i64 o]).alloc (.cells #[.int .i64 0, .int .i64 0, .int .i64 0] 27))
      have rr := (RowAt.made (w.alloc (.cells #[.int .i64 4, .int .i64 u, .int .i64 o] 27)) 27 [.int .i64 0, .int .i64 0, .int .i64 0])
      simp at rp rr
      go_upto_region 3 with ((with_reducible refine (C1.out _).mono ?_); rintro e w1 ⟨rfl, hw1⟩; replace rp := rp.up hw1; replace rr := rr.up hw1; replace hu := hu.next hw1; clear hw1)
      obtain ⟨p0, p1, p2, -⟩ := rp.c3
      have l0 := Later.cell_of p0; have l1 := Later.cell_of p1; have l2 := Later.cell_of p2
      clear p0 p1 p2
      have hne := later_ne w1
      refine wp_region_later (by kernel_rfl) (by kernel_rfl) ?_
      repeat (go_big_quiet_step ((go_at_call 30; exact Calls.later_same (C2.out _))))
      refine wpQuiet_nil ?_
      intro w9 hw9
      obtain ⟨u9, rfl⟩ := hw9
      replace hu := hu.trans u9.up
      replace rp := rp.up u9.up
      replace rr := rr.up u9.up
      obtain ⟨p0, p1, p2, -⟩ := rp.c3
      obtain ⟨r0, r1, r2, z0, z1, z2⟩ := rr.c3
      clear l0 l1 l2 hne
      generalize u9.world = w9 at *
      go_wp2_with fail
      refine bodyPost_ret (v := .tuple #[progV 0 0 0, .int .i64 9]) (by simp [results, Try.results12, go_sem, progV, *]) rfl ⟨rfl, ?_⟩
      repeat (first | refine Up.setCell ?_ _ _ _ (by first | omega | (simp; done) | (simp; omega)) | refine Up.alloc ?_ _)
      exact hu
    · go_enter Try.func12, Try.ntmps12
      replace hu := (hu.alloc (.cells #[.int .i64 p, .int .i64 u, .int .i64 o] 27)).alloc (.cells #[.int .i64 0, .int .i64 0, .int .i64 0] 27)
      have rp := ((RowAt.made w 27 [.int .i64 p, .int .i64 u, .int .i64 o]).alloc (.cells #[.int .i64 0, .int .i64 0, .int .i64 0] 27))
      have rr := (RowAt.made (w.alloc (.cells #[.int .i64 p, .int .i64 u, .int .i64 o] 27)) 27 [.int .i64 0, .int .i64 0, .int .i64 0])
      simp at rp rr
      go_upto_region 3 with ((with_reducible refine (C1.out _).mono ?_); rintro e w1 ⟨rfl, hw1⟩; replace rp := rp.up hw1; replace rr := rr.up hw1; replace hu := hu.next hw1; clear hw1)
      obtain ⟨p0, p1, p2, -⟩ := rp.c3
      have l0 := Later.cell_of p0; have l1 := Later.cell_of p1; have l2 := Later.cell_of p2
      clear p0 p1 p2
      have hne := later_ne w1
      refine wp_region_later (by kernel_rfl) (by kernel_rfl) ?_
      repeat (go_big_quiet_step ((go_at_call 30; exact Calls.later_same (C2.out _))))
      refine wpQuiet_nil ?_
      intro w9 hw9
      obtain ⟨u9, rfl⟩ := hw9
      replace hu := hu.trans u9.up
      replace rp := rp.up u9.up
      replace rr := rr.up u9.up
      obtain ⟨p0, p1, p2, -⟩ := rp.c3
      obtain ⟨r0, r1, r2, z0, z1, z2⟩ := rr.c3
      clear l0 l1 l2 hne
      generalize u9.world = w9 at *
      go_wp2_with fail
      refine bodyPost_ret (v := .tuple #[progV 0 0 0, .int .i64 9]) (by simp [results, Try.results12, go_sem, progV, *]) rfl ⟨rfl, ?_⟩
      repeat (first | refine Up.setCell ?_ _ _ _ (by first | omega | (simp; done) | (simp; omega)) | refine Up.alloc ?_ _)
      exact hu
    · go_enter Try.func12, Try.ntmps12
      replace hu := (hu.alloc (.cells #[.int .i64 p, .int .i64 1099511627775, .int .i64 0] 27)).alloc (.cells #[.int .i64 0, .int .i64 0, .int .i64 0] 27)
      have rp := ((RowAt.made w 27 [.int .i64 p, .int .i64 1099511627775, .int .i64 0]).alloc (.cells #[.int .i64 0, .int .i64 0, .int .i64 0] 27))
      have rr := (RowAt.made (w.alloc (.cells #[.int .i64 p, .int .i64 1099511627775, .int .i64 0] 27)) 27 [.int .i64 0, .int .i64 0, .int .i64 0])
      simp at rp rr
      go_upto_region 3 with ((with_reducible refine (C1.out _).mono ?_); rintro e w1 ⟨rfl, hw1⟩; replace rp := rp.up hw1; replace rr := rr.up hw1; replace hu := hu.next hw1; clear hw1)
      obtain ⟨p0, p1, p2, -⟩ := rp.c3
      have l0 := Later.cell_of p0; have l1 := Later.cell_of p1; have l2 := Later.cell_of p2
      clear p0 p1 p2
      have hne := later_ne w1
      refine wp_region_later (by kernel_rfl) (by kernel_rfl) ?_
      repeat (go_big_quiet_step ((go_at_call 30; exact Calls.later_same (C2.out _))))
      refine wpQuiet_nil ?_
      intro w9 hw9
      obtain ⟨u9, rfl⟩ := hw9
      replace hu := hu.trans u9.up
      replace rp := rp.up u9.up
      replace rr := rr.up u9.up
      obtain ⟨p0, p1, p2, -⟩ := rp.c3
      obtain ⟨r0, r1, r2, z0, z1, z2⟩ := rr.c3
      clear l0 l1 l2 hne
      generalize u9.world = w9 at *
      go_wp2_with fail
      refine bodyPost_ret (v := .tuple #[progV 0 0 0, .int .i64 9]) (by simp [results, Try.results12, go_sem, progV, *]) rfl ⟨rfl, ?_⟩
      repeat (first | refine Up.setCell ?_ _ _ _ (by first | omega | (simp; done) | (simp; omega)) | refine Up.alloc ?_ _)
      exact hu
    · go_enter Try.func12, Try.ntmps12
      replace hu := (hu.alloc (.cells #[.int .i64 p, .int .i64 u, .int .i64 0] 27)).alloc (.cells #[.int .i64 0, .int .i64 0, .int .i64 0] 27)
      have rp := ((RowAt.made w 27 [.int .i64 p, .int .i64 u, .int .i64 0]).alloc (.cells #[.int .i64 0, .int .i64 0, .int .i64 0] 27))
      have rr := (RowAt.made (w.alloc (.cells #[.int .i64 p, .int .i64 u, .int .i64 0] 27)) 27 [.int .i64 0, .int .i64 0, .int .i64 0])
      simp at rp rr
      go_upto_region 3 with ((with_reducible refine (C1.out _).mono ?_); rintro e w1 ⟨rfl, hw1⟩; replace rp := rp.up hw1; replace rr := rr.up hw1; replace hu := hu.next hw1; clear hw1)
      obtain ⟨p0, p1, p2, -⟩ := rp.c3
      have l0 := Later.cell_of p0; have l1 := Later.cell_of p1; have l2 := Later.cell_of p2
      clear p0 p1 p2
      have hne := later_ne w1
      refine wp_region_later (by kernel_rfl) (by kernel_rfl) ?_
      repeat (go_big_quiet_step ((go_at_call 30; exact Calls.later_same (C2.out _))))
      refine wpQuiet_nil ?_
      intro w9 hw9
      obtain ⟨u9, rfl⟩ := hw9
      replace hu := hu.trans u9.up
      replace rp := rp.up u9.up
      replace rr := rr.up u9.up
      obtain ⟨p0, p1, p2, -⟩ := rp.c3
      obtain ⟨r0, r1, r2, z0, z1, z2⟩ := rr.c3
      clear l0 l1 l2 hne
      generalize u9.world = w9 at *
      go_wp2_with fail
      refine bodyPost_ret (v := .tuple #[progV p u (u + 1), .int .i64 0]) (by simp [results, Try.results12, go_sem, progV, *]) rfl ⟨rfl, ?_⟩
      repeat (first | refine Up.setCell ?_ _ _ _ (by first | omega | (simp; done) | (simp; omega)) | refine Up.alloc ?_ _)
      exact hu


set_option maxHeartbeats 2000000 in
theorem ref20_Less (p u o r v s : Int) (w : World) :
    Calls Try.prog 19 #[progV p u o, progV r v s] w fun e w' => e = .returned (.bool (lessB p u o r v s)) ∧ Below w.heap.size w w' := by
  have c1 := fun w => ref20_Right p u o w
  have c2 := fun w => ref20_Right r v s w
  have hu := Up.refl w
  have hfin : lessB p u o r v s = (rightB p u o && rightB r v s && (if p = r then (if u = v then decide (o < s) else decide (u < v)) else decide (p < r))) := rfl
  generalize lessB p u o r v s = L at *
  generalize rightB p u o = R1 at *
  generalize rightB r v s = R2 at *
  unfold progV at *
  have HF := Lib.hid hfin; clear hfin
  have C1 := Lib.hid c1; clear c1
  have C2 := Lib.hid c2; clear c2
  cases R1
  · go_enter Try.func19, Try.ntmps19
    replace hu := ((hu.alloc (.cells #[.int .i64 p, .int .i64 u, .int .i64 o] 27)).alloc (.cells #[.int .i64 r, .int .i64 v, .int .i64 s] 27))
    have rp := ((RowAt.made w 27 [.int .i64 p, .int .i64 u, .int .i64 o]).alloc (.cells #[.int .i64 r, .int .i64 v, .int .i64 s] 27))
    have rr := (RowAt.made (w.alloc (.cells #[.int .i64 p, .int .i64 u, .int .i64 o] 27)) 27 [.int .i64 r, .int .i64 v, .int .i64 s])
    simp at rp rr
    go_wp2_with (first
      | ((with_reducible refine (C1.out _).mono ?_); rintro e w1 ⟨rfl, hw1⟩; replace rp := rp.up hw1; replace rr := rr.up hw1; obtain ⟨p0, p1, p2, -⟩ := rp.c3; obtain ⟨r0, r1, r2, -⟩ := rr.c3; replace hu := hu.next hw1; clear hw1)
      | ((with_reducible refine (C2.out _).mono ?_); rintro e w2 ⟨rfl, hw1⟩; replace rp := rp.up hw1; replace rr := rr.up hw1; obtain ⟨p0, p1, p2, -⟩ := rp.c3; obtain ⟨r0, r1, r2, -⟩ := rr.c3; replace hu := hu.next hw1; clear hw1))
    go_ret
    refine ⟨?_, hu⟩
    rw [HF.out]
    simp [*]
  cases R2
  · go_enter Try.func19, Try.ntmps19
    replace hu := ((hu.alloc (.cells #[.int .i64 p, .int .i64 u, .int .i64 o] 27)).alloc (.cells #[.int .i64 r, .int .i64 v, .int .i64 s] 27))
    have rp := ((RowAt.made w 27 [.int .i64 p, .int .i64 u, .int .i64 o]).alloc (.cells #[.int .i64 r, .int .i64 v, .int .i64 s] 27))
    have rr := (RowAt.made (w.alloc (.cells #[.int .i64 p, .int .i64 u, .int .i64 o] 27)) 27 [.int .i64 r, .int .i64 v, .int .i64 s])
    simp at rp rr
    go_wp2_with (first
      | ((with_reducible refine (C1.out _).mono ?_); rintro e w1 ⟨rfl, hw1⟩; replace rp := rp.up hw1; replace rr := rr.up hw1; obtain ⟨p0, p1, p2, -⟩ := rp.c3; obtain ⟨r0, r1, r2, -⟩ := rr.c3; replace hu := hu.next hw1; clear hw1)
      | ((with_reducible refine (C2.out _).mono ?_); rintro e w2 ⟨rfl, hw1⟩; replace rp := rp.up hw1; replace rr := rr.up hw1; obtain ⟨p0, p1, p2, -⟩ := rp.c3; obtain ⟨r0, r1, r2, -⟩ := rr.c3; replace hu := hu.next hw1; clear hw1))
    go_ret
    refine ⟨?_, hu⟩
    rw [HF.out]
    simp [*]
  have cs : (p = r ∧ u = v) ∨ (p = r ∧ ¬ u = v ∧ (u == v) = false) ∨ (¬ p = r ∧ (p == r) = false) := by
    simp only [beq_eq_false_iff_ne, ne_eq]; omega
  rcases cs with ⟨rfl, rfl⟩ | ⟨rfl, h1, h2⟩ | ⟨h1, h2⟩
  · go_enter Try.func19, Try.ntmps19
    replace hu := ((hu.alloc (.cells #[.int .i64 p, .int .i64 u, .int .i64 o] 27)).alloc (.cells #[.int .i64 p, .int .i64 u, .int .i64 s] 27))
    have rp := ((RowAt.made w 27 [.int .i64 p, .int .i64 u, .int .i64 o]).alloc (.cells #[.int .i64 p, .int .i64 u, .int .i64 s] 27))
    have rr := (RowAt.made (w.alloc (.cells #[.int .i64 p, .int .i64 u, .int .i64 o] 27)) 27 [.int .i64 p, .int .i64 u, .int .i64 s])
    simp at rp rr
    go_wp2_with (first
      | ((with_reducible refine (C1.out _).mono ?_); rintro e w1 ⟨rfl, hw1⟩; replace rp := rp.up hw1; replace rr := rr.up hw1; obtain ⟨p0, p1, p2, -⟩ := rp.c3; obtain ⟨r0, r1, r2, -⟩ := rr.c3; replace hu := hu.next hw1; clear hw1)
      | ((with_reducible refine (C2.out _).mono ?_); rintro e w2 ⟨rfl, hw1⟩; replace rp := rp.up hw1; replace rr := rr.up hw1; obtain ⟨p0, p1, p2, -⟩ := rp.c3; obtain ⟨r0, r1, r2, -⟩ := rr.c3; replace hu := hu.next hw1; clear hw1))
    go_ret
    refine ⟨?_, hu⟩
    rw [HF.out]
    simp [*]
  · go_enter Try.func19, Try.ntmps19
    replace hu := ((hu.alloc (.cells #[.int .i64 p, .int .i64 u, .int .i64 o] 27)).alloc (.cells #[.int .i64 p, .int .i64 v, .int .i64 s] 27))
    have rp := ((RowAt.made w 27 [.int .i64 p, .int .i64 u, .int .i64 o]).alloc (.cells #[.int .i64 p, .int .i64 v, .int .i64 s] 27))
    have rr := (RowAt.made (w.alloc (.cells #[.int .i64 p, .int .i64 u, .int .i64 o] 27)) 27 [.int .i64 p, .int .i64 v, .int .i64 s])
    simp at rp rr
    go_wp2_with (first
      | ((with_reducible refine (C1.out _).mono ?_); rintro e w1 ⟨rfl, hw1⟩; replace rp := rp.up hw1; replace rr := rr.up hw1; obtain ⟨p0, p1, p2, -⟩ := rp.c3; obtain ⟨r0, r1, r2, -⟩ := rr.c3; replace hu := hu.next hw1; clear hw1)
      | ((with_reducible refine (C2.out _).mono ?_); rintro e w2 ⟨rfl, hw1⟩; replace rp := rp.up hw1; replace rr := rr.up hw1; obtain ⟨p0, p1, p2, -⟩ := rp.c3; obtain ⟨r0, r1, r2, -⟩ := rr.c3; replace hu := hu.next hw1; clear hw1))
    go_ret
    refine ⟨?_, hu⟩
    rw [HF.out]
    simp [*]
  · go_enter Try.func19, Try.ntmps19
    replace hu := ((hu.alloc (.cells #[.int .i64 p, .int .i64 u, .int .i64 o] 27)).alloc (.cells #[.int .i64 r, .int .i64 v, .int .i64 s] 27))
    have rp := ((RowAt.made w 27 [.int .i64 p, .int .i64 u, .int .i64 o]).alloc (.cells #[.int .i64 r, .int .i64 v, .int .i64 s] 27))
    have rr := (RowAt.made (w.alloc (.cells #[.int .i64 p, .int .i64 u, .int .i64 o] 27)) 27 [.int .i64 r, .int .i64 v, .int .i64 s])
    simp at rp rr
    go_wp2_with (first
      | ((with_reducible refine (C1.out _).mono ?_); rintro e w1 ⟨rfl, hw1⟩; replace rp := rp.up hw1; replace rr := rr.up hw1; obtain ⟨p0, p1, p2, -⟩ := rp.c3; obtain ⟨r0, r1, r2, -⟩ := rr.c3; replace hu := hu.next hw1; clear hw1)
      | ((with_reducible refine (C2.out _).mono ?_); rintro e w2 ⟨rfl, hw1⟩; replace rp := rp.up hw1; replace rr := rr.up hw1; obtain ⟨p0, p1, p2, -⟩ := rp.c3; obtain ⟨r0, r1, r2, -⟩ := rr.c3; replace hu := hu.next hw1; clear hw1))
    go_ret
    refine ⟨?_, hu⟩
    rw [HF.out]
    simp [*]

def fwdV (p u o : Int) : Value := if rightB p u o then (if o = 0 then progV p u o else progV p o 0) else progV 0 0 0
def fwdB (p u o : Int) : Bool := rightB p u o && o != 0
def fwdE (p u o : Int) : Int := if rightB p u o then 0 else 1

set_option maxHeartbeats 2000000 in
theorem prog_Forward (p u o : Int) (w : World) (hu1 : -9223372036854775808 ≤ u) :
    Calls Try.prog 15 #[progV p u o] w fun r w' => r = .returned (.tuple #[fwdV p u o, .bool (fwdB p u o), .int .i64 (fwdE p u o)]) ∧ Below w.heap.size w w' := by
  have c1 := fun w => may_none p u o w hu1
  have c2 := fun e w => prog_or p u o e w
  have c3 := fun w => prog_End p u o w hu1
  have hu := Up.refl w
  unfold mayE at c1
  have hB : fwdB p u o = (rightB p u o && o != 0) := rfl
  have hE : fwdE p u o = if rightB p u o then 0 else 1 := rfl
  have hV : fwdV p u o = if rightB p u o then (if o = 0 then progV p u o else progV p o 0) else progV 0 0 0 := rfl
  have hVE : endV p u o = (if rightB p u o then (if o = 0 then progV 0 0 0 else progV p o 0) else progV 0 0 0) ∧ endE p u o = (if rightB p u o then (if o = 0 then 9 else 0) else 1) := by
    unfold endV endE mayE
    by_cases h : o = 0 <;> cases rightB p u o <;> simp [h]
  rw [hVE.1, hVE.2] at c3
  clear hVE
  generalize fwdB p u o = B at *
  generalize fwdE p u o = E at *
  generalize fwdV p u o = V at *
  generalize rightB p u o = R at *
  unfold progV at *
  have rp := ((RowAt.made w 23 [.int .i64 p, .int .i64 u, .int .i64 o]).alloc (.cells #[.int .i64 0, .int .i64 0, .int .i64 0] 23))
  have rr := (RowAt.made (w.alloc (.cells #[.int .i64 p, .int .i64 u, .int .i64 o] 23)) 23 [.int .i64 0, .int .i64 0, .int .i64 0])
  simp at rp rr
  replace hu := (hu.alloc (.cells #[.int .i64 p, .int .i64 u, .int .i64 o] 23)).alloc (.cells #[.int .i64 0, .int .i64 0, .int .i64 0] 23)
  cases R
  · simp at hB hE hV
    subst hB hE hV
    have C1 := Lib.hid c1; clear c1 c3
    have C2 := Lib.hid (c2 1); clear c2
    go_enter Try.func15, Try.ntmps15
    go_wp2_with (first
      | ((with_reducible refine (C1.out _).mono ?_); rintro e w1 ⟨rfl, hw1⟩; replace rp := rp.up hw1; replace rr := rr.up hw1; obtain ⟨p0, p1, p2, -⟩ := rp.c3; obtain ⟨r0, r1, r2, z0, z1, z2⟩ := rr.c3; have hrl := rr.lt; replace hu := hu.next hw1; clear hw1)
      | ((with_reducible refine (C2.out _).mono ?_); rintro e w1 ⟨rfl, hw1⟩; replace rp := rp.up hw1; replace rr := rr.up hw1; obtain ⟨p0, p1, p2, -⟩ := rp.c3; obtain ⟨r0, r1, r2, z0, z1, z2⟩ := rr.c3; have hrl := rr.lt; replace hu := hu.next hw1; clear hw1))
    refine bodyPost_ret (v := .tuple #[progV 0 0 0, .bool false, .int .i64 1]) (by simp [results, Try.results15, go_sem, progV, *]) rfl ⟨rfl, ?_⟩
    repeat (first | refine Up.setCell ?_ _ _ _ (by first | omega | (simp; done) | (simp; omega)) | refine Up.alloc ?_ _)
    exact hu
  by_cases ho : o = 0
  · subst ho
    simp at hB hE hV
    subst hB hE hV
    have C1 := Lib.hid c1; clear c1 c3
    have C2 := Lib.hid (c2 0); clear c2
    go_enter Try.func15, Try.ntmps15
    go_wp2_with (first
      | ((with_reducible refine (C1.out _).mono ?_); rintro e w1 ⟨rfl, hw1⟩; replace rp := rp.up hw1; replace rr := rr.up hw1; obtain ⟨p0, p1, p2, -⟩ := rp.c3; obtain ⟨r0, r1, r2, z0, z1, z2⟩ := rr.c3; have hrl := rr.lt; replace hu := hu.next hw1; clear hw1)
      | ((with_reducible refine (C2.out _).mono ?_); rintro e w1 ⟨rfl, hw1⟩; replace rp := rp.up hw1; replace rr := rr.up hw1; obtain ⟨p0, p1, p2, -⟩ := rp.c3; obtain ⟨r0, r1, r2, z0, z1, z2⟩ := rr.c3; have hrl := rr.lt; replace hu := hu.next hw1; clear hw1))
    refine bodyPost_ret (v := .tuple #[progV p u 0, .bool false, .int .i64 0]) (by simp [results, Try.results15, go_sem, progV, *]) rfl ⟨rfl, ?_⟩
    repeat (first | refine Up.setCell ?_ _ _ _ (by first | omega | (simp; done) | (simp; omega)) | refine Up.alloc ?_ _)
    exact hu
  · simp [ho] at hB hE hV c3
    rw [show (o != 0) = true by simp [ho]] at hB
    subst hB hE hV
    have hob : (o == 0) = false := by simp [ho]
    have C1 := Lib.hid c1; clear c1 c2
    have C3 := Lib.hid c3; clear c3
    go_enter Try.func15, Try.ntmps15
    go_wp2_with (first
      | ((with_reducible refine (C1.out _).mono ?_); rintro e w1 ⟨rfl, hw1⟩; replace rp := rp.up hw1; replace rr := rr.up hw1; obtain ⟨p0, p1, p2, -⟩ := rp.c3; obtain ⟨r0, r1, r2, z0, z1, z2⟩ := rr.c3; have hrl := rr.lt; replace hu := hu.next hw1; clear hw1)
      | ((with_reducible refine (C3.out _).mono ?_); rintro e w1 ⟨rfl, hw1⟩; replace rp := rp.up hw1; replace rr := rr.up hw1; obtain ⟨p0, p1, p2, -⟩ := rp.c3; obtain ⟨r0, r1, r2, z0, z1, z2⟩ := rr.c3; have hrl := rr.lt; replace hu := hu.next hw1; clear hw1))
    refine bodyPost_ret (v := .tuple #[progV p o 0, .bool true, .int .i64 0]) (by simp [results, Try.results15, go_sem, progV, *]) rfl ⟨rfl, ?_⟩
    repeat (first | refine Up.setCell ?_ _ _ _ (by first | omega | (simp; done) | (simp; omega)) | refine Up.alloc ?_ _)
    exact hu
end Go.Proofs.Ytbjnklgicakndaa
