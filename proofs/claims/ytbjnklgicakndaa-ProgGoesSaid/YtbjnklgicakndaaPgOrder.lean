import Derived.Test.YtbjnklgicakndaaPgFixed
namespace Go.Proofs.Ytbjnklgicakndaa
open Go.RowKit Bw
set_option linter.unusedVariables false

theorem less_tri {p u o r v s : Int} (h1 : rightB p u o = true) (h2 : rightB r v s = true) (hne : ¬ (p = r ∧ u = v ∧ o = s)) :
    (lessB p u o r v s = true ∧ lessB r v s p u o = false) ∨ (lessB p u o r v s = false ∧ lessB r v s p u o = true) := by
  simp only [lessB, h1, h2, Bool.true_and]
  by_cases e1 : p = r
  · subst e1
    simp only [if_true]
    by_cases e2 : u = v
    · subst e2
      simp only [if_true, decide_eq_true_eq, decide_eq_false_iff_not]; omega
    · rw [if_neg e2, if_neg (fun h => e2 h.symm)]
      simp only [decide_eq_true_eq, decide_eq_false_iff_not]; omega
  · rw [if_neg e1, if_neg (fun h => e1 h.symm)]
    simp only [decide_eq_true_eq, decide_eq_false_iff_not]; omega
theorem less_irrefl (p u o : Int) : lessB p u o p u o = false := by simp [lessB]
theorem less_trans {p u o r v s x y z : Int} (h1 : lessB p u o r v s = true) (h2 : lessB r v s x y z = true) : lessB p u o x y z = true := by
  simp only [lessB, Bool.and_eq_true] at h1 h2 ⊢
  obtain ⟨⟨a1, a2⟩, a3⟩ := h1
  obtain ⟨⟨b1, b2⟩, b3⟩ := h2
  refine ⟨⟨a1, b2⟩, ?_⟩
  by_cases e1 : p = r
  · subst e1
    by_cases e2 : p = x
    · subst e2
      simp only [if_true] at a3 b3 ⊢
      split at a3 <;> split at b3 <;> split <;> simp only [decide_eq_true_eq] at * <;> omega
    · rw [if_neg e2] at b3 ⊢; exact b3
  · rw [if_neg e1] at a3
    by_cases e2 : r = x
    · subst e2; rw [if_neg e1]; exact a3
    · rw [if_neg e2] at b3
      simp only [decide_eq_true_eq] at a3 b3
      rw [if_neg (by omega)]; simp only [decide_eq_true_eq]; omega






set_option maxHeartbeats 8000000 in
set_option maxRecDepth 100000 in
theorem order_walk (p u o r v s x y z : Int) (w : World) (hu1 : -9223372036854775808 ≤ u) (hu2 : -9223372036854775808 ≤ v) (hu3 : -9223372036854775808 ≤ y) :
    Calls Try.prog 6 #[progV p u o, progV r v s, progV x y z] w fun e w' => e = .returned (.bool true) ∧ Below w.heap.size w w' := by
  have c1 := fun w => prog_Right p u o w hu1
  have c2 := fun w => prog_Right r v s w hu2
  have c3 := fun w => prog_Right x y z w hu3
  have d1 := fun w => prog_Less p u o r v s w hu1 hu2
  have d2 := fun w => prog_Less r v s p u o w hu2 hu1
  have d3 := fun w => prog_Less r v s x y z w hu2 hu3
  have d4 := fun w => prog_Less p u o x y z w hu1 hu3
  have D5 := Lib.hid law20_fixed
  have hu := Up.refl w
  replace hu := ((hu.alloc (.cells #[.int .i64 p, .int .i64 u, .int .i64 o] 23)).alloc (.cells #[.int .i64 r, .int .i64 v, .int .i64 s] 23)).alloc (.cells #[.int .i64 x, .int .i64 y, .int .i64 z] 23)
  have ra := ((RowAt.made w 23 [.int .i64 p, .int .i64 u, .int .i64 o]).alloc (.cells #[.int .i64 r, .int .i64 v, .int .i64 s] 23)).alloc (.cells #[.int .i64 x, .int .i64 y, .int .i64 z] 23)
  have rb := (RowAt.made (w.alloc (.cells #[.int .i64 p, .int .i64 u, .int .i64 o] 23)) 23 [.int .i64 r, .int .i64 v, .int .i64 s]).alloc (.cells #[.int .i64 x, .int .i64 y, .int .i64 z] 23)
  have rc := (RowAt.made ((w.alloc (.cells #[.int .i64 p, .int .i64 u, .int .i64 o] 23)).alloc (.cells #[.int .i64 r, .int .i64 v, .int .i64 s] 23)) 23 [.int .i64 x, .int .i64 y, .int .i64 z])
  simp at ra rb rc
  unfold progV at *
  cases h1 : rightB p u o
  · rw [h1] at c1
    clear d1 d2 d3 d4
    have C1 := Lib.hid c1; clear c1
    have C2 := Lib.hid c2; clear c2
    have C3 := Lib.hid c3; clear c3
    go_enter Try.func6, Try.ntmps6
    go_wp2_with (first
      | ((with_reducible refine (C1.out _).mono ?_); rintro e w1 ⟨rfl, hw⟩; replace ra := ra.up hw; replace rb := rb.up hw; replace rc := rc.up hw; obtain ⟨a0, a1, a2, -⟩ := ra.c3; obtain ⟨b0, b1, b2, -⟩ := rb.c3; obtain ⟨c0, c1, c2, -⟩ := rc.c3; replace hu := hu.next hw; clear hw)
      | ((with_reducible refine (C2.out _).mono ?_); rintro e w1 ⟨rfl, hw⟩; replace ra := ra.up hw; replace rb := rb.up hw; replace rc := rc.up hw; obtain ⟨a0, a1, a2, -⟩ := ra.c3; obtain ⟨b0, b1, b2, -⟩ := rb.c3; obtain ⟨c0, c1, c2, -⟩ := rc.c3; replace hu := hu.next hw; clear hw)
      | ((with_reducible refine (C3.out _).mono ?_); rintro e w1 ⟨rfl, hw⟩; replace ra := ra.up hw; replace rb := rb.up hw; replace rc := rc.up hw; obtain ⟨a0, a1, a2, -⟩ := ra.c3; obtain ⟨b0, b1, b2, -⟩ := rb.c3; obtain ⟨c0, c1, c2, -⟩ := rc.c3; replace hu := hu.next hw; clear hw)
      | ((with_reducible refine (D5.out _).mono ?_); rintro e w1 ⟨rfl, hw⟩; replace hu := hu.next hw; clear hw))
    go_ret
    exact ⟨rfl, hu⟩
  cases h2 : rightB r v s
  · rw [h1] at c1
    rw [h2] at c2
    clear d1 d2 d3 d4
    have C1 := Lib.hid c1; clear c1
    have C2 := Lib.hid c2; clear c2
    have C3 := Lib.hid c3; clear c3
    go_enter Try.func6, Try.ntmps6
    go_wp2_with (first
      | ((with_reducible refine (C1.out _).mono ?_); rintro e w1 ⟨rfl, hw⟩; replace ra := ra.up hw; replace rb := rb.up hw; replace rc := rc.up hw; obtain ⟨a0, a1, a2, -⟩ := ra.c3; obtain ⟨b0, b1, b2, -⟩ := rb.c3; obtain ⟨c0, c1, c2, -⟩ := rc.c3; replace hu := hu.next hw; clear hw)
      | ((with_reducible refine (C2.out _).mono ?_); rintro e w1 ⟨rfl, hw⟩; replace ra := ra.up hw; replace rb := rb.up hw; replace rc := rc.up hw; obtain ⟨a0, a1, a2, -⟩ := ra.c3; obtain ⟨b0, b1, b2, -⟩ := rb.c3; obtain ⟨c0, c1, c2, -⟩ := rc.c3; replace hu := hu.next hw; clear hw)
      | ((with_reducible refine (C3.out _).mono ?_); rintro e w1 ⟨rfl, hw⟩; replace ra := ra.up hw; replace rb := rb.up hw; replace rc := rc.up hw; obtain ⟨a0, a1, a2, -⟩ := ra.c3; obtain ⟨b0, b1, b2, -⟩ := rb.c3; obtain ⟨c0, c1, c2, -⟩ := rc.c3; replace hu := hu.next hw; clear hw)
      | ((with_reducible refine (D5.out _).mono ?_); rintro e w1 ⟨rfl, hw⟩; replace hu := hu.next hw; clear hw))
    go_ret
    exact ⟨rfl, hu⟩
  cases h3 : rightB x y z
  · rw [h1] at c1
    rw [h2] at c2
    rw [h3] at c3
    clear d1 d2 d3 d4
    have C1 := Lib.hid c1; clear c1
    have C2 := Lib.hid c2; clear c2
    have C3 := Lib.hid c3; clear c3
    go_enter Try.func6, Try.ntmps6
    go_wp2_with (first
      | ((with_reducible refine (C1.out _).mono ?_); rintro e w1 ⟨rfl, hw⟩; replace ra := ra.up hw; replace rb := rb.up hw; replace rc := rc.up hw; obtain ⟨a0, a1, a2, -⟩ := ra.c3; obtain ⟨b0, b1, b2, -⟩ := rb.c3; obtain ⟨c0, c1, c2, -⟩ := rc.c3; replace hu := hu.next hw; clear hw)
      | ((with_reducible refine (C2.out _).mono ?_); rintro e w1 ⟨rfl, hw⟩; replace ra := ra.up hw; replace rb := rb.up hw; replace rc := rc.up hw; obtain ⟨a0, a1, a2, -⟩ := ra.c3; obtain ⟨b0, b1, b2, -⟩ := rb.c3; obtain ⟨c0, c1, c2, -⟩ := rc.c3; replace hu := hu.next hw; clear hw)
      | ((with_reducible refine (C3.out _).mono ?_); rintro e w1 ⟨rfl, hw⟩; replace ra := ra.up hw; replace rb := rb.up hw; replace rc := rc.up hw; obtain ⟨a0, a1, a2, -⟩ := ra.c3; obtain ⟨b0, b1, b2, -⟩ := rb.c3; obtain ⟨c0, c1, c2, -⟩ := rc.c3; replace hu := hu.next hw; clear hw)
      | ((with_reducible refine (D5.out _).mono ?_); rintro e w1 ⟨rfl, hw⟩; replace hu := hu.next hw; clear hw))
    go_ret
    exact ⟨rfl, hu⟩
  rw [h1] at c1; rw [h2] at c2; rw [h3] at c3
  by_cases heq : p = r ∧ u = v ∧ o = s
  · obtain ⟨rfl, rfl, rfl⟩ := heq
    rw [less_irrefl] at d1
    have D1 := Lib.hid d1; have D2 := D1; have D3 := Lib.hid d3; have D4 := Lib.hid d4
    clear d1 d2 d3 d4 h1 h2 h3
    have C1 := Lib.hid c1; clear c1
    have C2 := Lib.hid c2; clear c2
    have C3 := Lib.hid c3; clear c3
    go_enter Try.func6, Try.ntmps6
    go_upto_region 3 with (first
      | ((with_reducible refine (C1.out _).mono ?_); rintro e w1 ⟨rfl, hw⟩; replace ra := ra.up hw; replace rb := rb.up hw; replace rc := rc.up hw; obtain ⟨a0, a1, a2, -⟩ := ra.c3; obtain ⟨b0, b1, b2, -⟩ := rb.c3; obtain ⟨c0, c1, c2, -⟩ := rc.c3; replace hu := hu.next hw; clear hw)
      | ((with_reducible refine (C2.out _).mono ?_); rintro e w1 ⟨rfl, hw⟩; replace ra := ra.up hw; replace rb := rb.up hw; replace rc := rc.up hw; obtain ⟨a0, a1, a2, -⟩ := ra.c3; obtain ⟨b0, b1, b2, -⟩ := rb.c3; obtain ⟨c0, c1, c2, -⟩ := rc.c3; replace hu := hu.next hw; clear hw)
      | ((with_reducible refine (C3.out _).mono ?_); rintro e w1 ⟨rfl, hw⟩; replace ra := ra.up hw; replace rb := rb.up hw; replace rc := rc.up hw; obtain ⟨a0, a1, a2, -⟩ := ra.c3; obtain ⟨b0, b1, b2, -⟩ := rb.c3; obtain ⟨c0, c1, c2, -⟩ := rc.c3; replace hu := hu.next hw; clear hw))
    have l0 := Later.cell_of a0; have l1 := Later.cell_of a1; have l2 := Later.cell_of a2
    have l3 := Later.cell_of b0; have l4 := Later.cell_of b1; have l5 := Later.cell_of b2
    have l6 := Later.cell_of c0; have l7 := Later.cell_of c1; have l8 := Later.cell_of c2
    clear a0 a1 a2 b0 b1 b2 c0 c1 c2
    have hne := later_ne w1
    refine wp_region_later (by kernel_rfl) (by kernel_rfl) ?_
    repeat (go_big_quiet_step (first
      | (go_at_call 18; with_reducible exact Calls.later (D1.out _))
      | (go_at_call 18; with_reducible exact Calls.later (D2.out _))
      | (go_at_call 18; with_reducible exact Calls.later (D3.out _))
      | (go_at_call 18; with_reducible exact Calls.later (D4.out _))
      | (go_at_call 20; with_reducible exact Calls.later (D5.out _))))
    refine wpQuiet_nil ?_
    intro w9 hw9
    obtain ⟨u9, rfl⟩ := hw9
    replace hu := hu.trans u9.up
    generalize u9.world = w9 at *
    go_wp2_with fail
    go_ret
    exact ⟨rfl, hu⟩
  · have cs : (lessB p u o r v s = false ∧ lessB r v s p u o = true) ∨ (lessB p u o r v s = true ∧ lessB r v s p u o = false ∧ lessB r v s x y z = true ∧ lessB p u o x y z = true) ∨ (lessB p u o r v s = true ∧ lessB r v s p u o = false ∧ lessB r v s x y z = false) := by
      rcases less_tri h1 h2 heq with ⟨g1, g2⟩ | ⟨g1, g2⟩
      · right
        cases g3 : lessB r v s x y z
        · exact .inr ⟨g1, g2, rfl⟩
        · exact .inl ⟨g1, g2, rfl, less_trans g1 g3⟩
      · exact .inl ⟨g1, g2⟩
    have ce : (p == r) = false ∨ ((p == r) = true ∧ (u == v) = false) ∨ ((p == r) = true ∧ (u == v) = true ∧ (o == s) = false) := by
      simp only [beq_iff_eq, beq_eq_false_iff_ne, ne_eq]; omega
    clear h1 h2 h3 heq
    rcases ce with k1 | ⟨k1, k2⟩ | ⟨k1, k2, k3⟩
    · rcases cs with ⟨g1, g2⟩ | ⟨g1, g2, g3, g4⟩ | ⟨g1, g2, g3⟩
      · rw [g1] at d1; rw [g2] at d2
        have D1 := Lib.hid d1; have D2 := Lib.hid d2; have D3 := Lib.hid d3; have D4 := Lib.hid d4
        clear d1 d2 d3 d4
        have C1 := Lib.hid c1; clear c1
        have C2 := Lib.hid c2; clear c2
        have C3 := Lib.hid c3; clear c3
        go_enter Try.func6, Try.ntmps6
        go_upto_region 3 with (first
          | ((with_reducible refine (C1.out _).mono ?_); rintro e w1 ⟨rfl, hw⟩; replace ra := ra.up hw; replace rb := rb.up hw; replace rc := rc.up hw; obtain ⟨a0, a1, a2, -⟩ := ra.c3; obtain ⟨b0, b1, b2, -⟩ := rb.c3; obtain ⟨c0, c1, c2, -⟩ := rc.c3; replace hu := hu.next hw; clear hw)
          | ((with_reducible refine (C2.out _).mono ?_); rintro e w1 ⟨rfl, hw⟩; replace ra := ra.up hw; replace rb := rb.up hw; replace rc := rc.up hw; obtain ⟨a0, a1, a2, -⟩ := ra.c3; obtain ⟨b0, b1, b2, -⟩ := rb.c3; obtain ⟨c0, c1, c2, -⟩ := rc.c3; replace hu := hu.next hw; clear hw)
          | ((with_reducible refine (C3.out _).mono ?_); rintro e w1 ⟨rfl, hw⟩; replace ra := ra.up hw; replace rb := rb.up hw; replace rc := rc.up hw; obtain ⟨a0, a1, a2, -⟩ := ra.c3; obtain ⟨b0, b1, b2, -⟩ := rb.c3; obtain ⟨c0, c1, c2, -⟩ := rc.c3; replace hu := hu.next hw; clear hw))
        have l0 := Later.cell_of a0; have l1 := Later.cell_of a1; have l2 := Later.cell_of a2
        have l3 := Later.cell_of b0; have l4 := Later.cell_of b1; have l5 := Later.cell_of b2
        have l6 := Later.cell_of c0; have l7 := Later.cell_of c1; have l8 := Later.cell_of c2
        clear a0 a1 a2 b0 b1 b2 c0 c1 c2
        have hne := later_ne w1
        refine wp_region_later (by kernel_rfl) (by kernel_rfl) ?_
        repeat (go_big_quiet_step (first
          | (go_at_call 18; with_reducible exact Calls.later (D1.out _))
          | (go_at_call 18; with_reducible exact Calls.later (D2.out _))
          | (go_at_call 18; with_reducible exact Calls.later (D3.out _))
          | (go_at_call 18; with_reducible exact Calls.later (D4.out _))
          | (go_at_call 20; with_reducible exact Calls.later (D5.out _))))
        refine wpQuiet_nil ?_
        intro w9 hw9
        obtain ⟨u9, rfl⟩ := hw9
        replace hu := hu.trans u9.up
        generalize u9.world = w9 at *
        go_wp2_with fail
        go_ret
        exact ⟨rfl, hu⟩
      · rw [g1] at d1; rw [g2] at d2; rw [g3] at d3; rw [g4] at d4
        have D1 := Lib.hid d1; have D2 := Lib.hid d2; have D3 := Lib.hid d3; have D4 := Lib.hid d4
        clear d1 d2 d3 d4
        have C1 := Lib.hid c1; clear c1
        have C2 := Lib.hid c2; clear c2
        have C3 := Lib.hid c3; clear c3
        go_enter Try.func6, Try.ntmps6
        go_upto_region 3 with (first
          | ((with_reducible refine (C1.out _).mono ?_); rintro e w1 ⟨rfl, hw⟩; replace ra := ra.up hw; replace rb := rb.up hw; replace rc := rc.up hw; obtain ⟨a0, a1, a2, -⟩ := ra.c3; obtain ⟨b0, b1, b2, -⟩ := rb.c3; obtain ⟨c0, c1, c2, -⟩ := rc.c3; replace hu := hu.next hw; clear hw)
          | ((with_reducible refine (C2.out _).mono ?_); rintro e w1 ⟨rfl, hw⟩; replace ra := ra.up hw; replace rb := rb.up hw; replace rc := rc.up hw; obtain ⟨a0, a1, a2, -⟩ := ra.c3; obtain ⟨b0, b1, b2, -⟩ := rb.c3; obtain ⟨c0, c1, c2, -⟩ := rc.c3; replace hu := hu.next hw; clear hw)
          | ((with_reducible refine (C3.out _).mono ?_); rintro e w1 ⟨rfl, hw⟩; replace ra := ra.up hw; replace rb := rb.up hw; replace rc := rc.up hw; obtain ⟨a0, a1, a2, -⟩ := ra.c3; obtain ⟨b0, b1, b2, -⟩ := rb.c3; obtain ⟨c0, c1, c2, -⟩ := rc.c3; replace hu := hu.next hw; clear hw))
        have l0 := Later.cell_of a0; have l1 := Later.cell_of a1; have l2 := Later.cell_of a2
        have l3 := Later.cell_of b0; have l4 := Later.cell_of b1; have l5 := Later.cell_of b2
        have l6 := Later.cell_of c0; have l7 := Later.cell_of c1; have l8 := Later.cell_of c2
        clear a0 a1 a2 b0 b1 b2 c0 c1 c2
        have hne := later_ne w1
        refine wp_region_later (by kernel_rfl) (by kernel_rfl) ?_
        repeat (go_big_quiet_step (first
          | (go_at_call 18; with_reducible exact Calls.later (D1.out _))
          | (go_at_call 18; with_reducible exact Calls.later (D2.out _))
          | (go_at_call 18; with_reducible exact Calls.later (D3.out _))
          | (go_at_call 18; with_reducible exact Calls.later (D4.out _))
          | (go_at_call 20; with_reducible exact Calls.later (D5.out _))))
        refine wpQuiet_nil ?_
        intro w9 hw9
        obtain ⟨u9, rfl⟩ := hw9
        replace hu := hu.trans u9.up
        generalize u9.world = w9 at *
        go_wp2_with fail
        go_ret
        exact ⟨rfl, hu⟩
      · rw [g1] at d1; rw [g2] at d2; rw [g3] at d3
        have D1 := Lib.hid d1; have D2 := Lib.hid d2; have D3 := Lib.hid d3; have D4 := Lib.hid d4
        clear d1 d2 d3 d4
        have C1 := Lib.hid c1; clear c1
        have C2 := Lib.hid c2; clear c2
        have C3 := Lib.hid c3; clear c3
        go_enter Try.func6, Try.ntmps6
        go_upto_region 3 with (first
          | ((with_reducible refine (C1.out _).mono ?_); rintro e w1 ⟨rfl, hw⟩; replace ra := ra.up hw; replace rb := rb.up hw; replace rc := rc.up hw; obtain ⟨a0, a1, a2, -⟩ := ra.c3; obtain ⟨b0, b1, b2, -⟩ := rb.c3; obtain ⟨c0, c1, c2, -⟩ := rc.c3; replace hu := hu.next hw; clear hw)
          | ((with_reducible refine (C2.out _).mono ?_); rintro e w1 ⟨rfl, hw⟩; replace ra := ra.up hw; replace rb := rb.up hw; replace rc := rc.up hw; obtain ⟨a0, a1, a2, -⟩ := ra.c3; obtain ⟨b0, b1, b2, -⟩ := rb.c3; obtain ⟨c0, c1, c2, -⟩ := rc.c3; replace hu := hu.next hw; clear hw)
          | ((with_reducible refine (C3.out _).mono ?_); rintro e w1 ⟨rfl, hw⟩; replace ra := ra.up hw; replace rb := rb.up hw; replace rc := rc.up hw; obtain ⟨a0, a1, a2, -⟩ := ra.c3; obtain ⟨b0, b1, b2, -⟩ := rb.c3; obtain ⟨c0, c1, c2, -⟩ := rc.c3; replace hu := hu.next hw; clear hw))
        have l0 := Later.cell_of a0; have l1 := Later.cell_of a1; have l2 := Later.cell_of a2
        have l3 := Later.cell_of b0; have l4 := Later.cell_of b1; have l5 := Later.cell_of b2
        have l6 := Later.cell_of c0; have l7 := Later.cell_of c1; have l8 := Later.cell_of c2
        clear a0 a1 a2 b0 b1 b2 c0 c1 c2
        have hne := later_ne w1
        refine wp_region_later (by kernel_rfl) (by kernel_rfl) ?_
        repeat (go_big_quiet_step (first
          | (go_at_call 18; with_reducible exact Calls.later (D1.out _))
          | (go_at_call 18; with_reducible exact Calls.later (D2.out _))
          | (go_at_call 18; with_reducible exact Calls.later (D3.out _))
          | (go_at_call 18; with_reducible exact Calls.later (D4.out _))
          | (go_at_call 20; with_reducible exact Calls.later (D5.out _))))
        refine wpQuiet_nil ?_
        intro w9 hw9
        obtain ⟨u9, rfl⟩ := hw9
        replace hu := hu.trans u9.up
        generalize u9.world = w9 at *
        go_wp2_with fail
        go_ret
        exact ⟨rfl, hu⟩
    · rcases cs with ⟨g1, g2⟩ | ⟨g1, g2, g3, g4⟩ | ⟨g1, g2, g3⟩
      · rw [g1] at d1; rw [g2] at d2
        have D1 := Lib.hid d1; have D2 := Lib.hid d2; have D3 := Lib.hid d3; have D4 := Lib.hid d4
        clear d1 d2 d3 d4
        have C1 := Lib.hid c1; clear c1
        have C2 := Lib.hid c2; clear c2
        have C3 := Lib.hid c3; clear c3
        go_enter Try.func6, Try.ntmps6
        go_upto_region 3 with (first
          | ((with_reducible refine (C1.out _).mono ?_); rintro e w1 ⟨rfl, hw⟩; replace ra := ra.up hw; replace rb := rb.up hw; replace rc := rc.up hw; obtain ⟨a0, a1, a2, -⟩ := ra.c3; obtain ⟨b0, b1, b2, -⟩ := rb.c3; obtain ⟨c0, c1, c2, -⟩ := rc.c3; replace hu := hu.next hw; clear hw)
          | ((with_reducible refine (C2.out _).mono ?_); rintro e w1 ⟨rfl, hw⟩; replace ra := ra.up hw; replace rb := rb.up hw; replace rc := rc.up hw; obtain ⟨a0, a1, a2, -⟩ := ra.c3; obtain ⟨b0, b1, b2, -⟩ := rb.c3; obtain ⟨c0, c1, c2, -⟩ := rc.c3; replace hu := hu.next hw; clear hw)
          | ((with_reducible refine (C3.out _).mono ?_); rintro e w1 ⟨rfl, hw⟩; replace ra := ra.up hw; replace rb := rb.up hw; replace rc := rc.up hw; obtain ⟨a0, a1, a2, -⟩ := ra.c3; obtain ⟨b0, b1, b2, -⟩ := rb.c3; obtain ⟨c0, c1, c2, -⟩ := rc.c3; replace hu := hu.next hw; clear hw))
        have l0 := Later.cell_of a0; have l1 := Later.cell_of a1; have l2 := Later.cell_of a2
        have l3 := Later.cell_of b0; have l4 := Later.cell_of b1; have l5 := Later.cell_of b2
        have l6 := Later.cell_of c0; have l7 := Later.cell_of c1; have l8 := Later.cell_of c2
        clear a0 a1 a2 b0 b1 b2 c0 c1 c2
        have hne := later_ne w1
        refine wp_region_later (by kernel_rfl) (by kernel_rfl) ?_
        repeat (go_big_quiet_step (first
          | (go_at_call 18; with_reducible exact Calls.later (D1.out _))
          | (go_at_call 18; with_reducible exact Calls.later (D2.out _))
          | (go_at_call 18; with_reducible exact Calls.later (D3.out _))
          | (go_at_call 18; with_reducible exact Calls.later (D4.out _))
          | (go_at_call 20; with_reducible exact Calls.later (D5.out _))))
        refine wpQuiet_nil ?_
        intro w9 hw9
        obtain ⟨u9, rfl⟩ := hw9
        replace hu := hu.trans u9.up
        generalize u9.world = w9 at *
        go_wp2_with fail
        go_ret
        exact ⟨rfl, hu⟩
      · rw [g1] at d1; rw [g2] at d2; rw [g3] at d3; rw [g4] at d4
        have D1 := Lib.hid d1; have D2 := Lib.hid d2; have D3 := Lib.hid d3; have D4 := Lib.hid d4
        clear d1 d2 d3 d4
        have C1 := Lib.hid c1; clear c1
        have C2 := Lib.hid c2; clear c2
        have C3 := Lib.hid c3; clear c3
        go_enter Try.func6, Try.ntmps6
        go_upto_region 3 with (first
          | ((with_reducible refine (C1.out _).mono ?_); rintro e w1 ⟨rfl, hw⟩; replace ra := ra.up hw; replace rb := rb.up hw; replace rc := rc.up hw; obtain ⟨a0, a1, a2, -⟩ := ra.c3; obtain ⟨b0, b1, b2, -⟩ := rb.c3; obtain ⟨c0, c1, c2, -⟩ := rc.c3; replace hu := hu.next hw; clear hw)
          | ((with_reducible refine (C2.out _).mono ?_); rintro e w1 ⟨rfl, hw⟩; replace ra := ra.up hw; replace rb := rb.up hw; replace rc := rc.up hw; obtain ⟨a0, a1, a2, -⟩ := ra.c3; obtain ⟨b0, b1, b2, -⟩ := rb.c3; obtain ⟨c0, c1, c2, -⟩ := rc.c3; replace hu := hu.next hw; clear hw)
          | ((with_reducible refine (C3.out _).mono ?_); rintro e w1 ⟨rfl, hw⟩; replace ra := ra.up hw; replace rb := rb.up hw; replace rc := rc.up hw; obtain ⟨a0, a1, a2, -⟩ := ra.c3; obtain ⟨b0, b1, b2, -⟩ := rb.c3; obtain ⟨c0, c1, c2, -⟩ := rc.c3; replace hu := hu.next hw; clear hw))
        have l0 := Later.cell_of a0; have l1 := Later.cell_of a1; have l2 := Later.cell_of a2
        have l3 := Later.cell_of b0; have l4 := Later.cell_of b1; have l5 := Later.cell_of b2
        have l6 := Later.cell_of c0; have l7 := Later.cell_of c1; have l8 := Later.cell_of c2
        clear a0 a1 a2 b0 b1 b2 c0 c1 c2
        have hne := later_ne w1
        refine wp_region_later (by kernel_rfl) (by kernel_rfl) ?_
        repeat (go_big_quiet_step (first
          | (go_at_call 18; with_reducible exact Calls.later (D1.out _))
          | (go_at_call 18; with_reducible exact Calls.later (D2.out _))
          | (go_at_call 18; with_reducible exact Calls.later (D3.out _))
          | (go_at_call 18; with_reducible exact Calls.later (D4.out _))
          | (go_at_call 20; with_reducible exact Calls.later (D5.out _))))
        refine wpQuiet_nil ?_
        intro w9 hw9
        obtain ⟨u9, rfl⟩ := hw9
        replace hu := hu.trans u9.up
        generalize u9.world = w9 at *
        go_wp2_with fail
        go_ret
        exact ⟨rfl, hu⟩
      · rw [g1] at d1; rw [g2] at d2; rw [g3] at d3
        have D1 := Lib.hid d1; have D2 := Lib.hid d2; have D3 := Lib.hid d3; have D4 := Lib.hid d4
        clear d1 d2 d3 d4
        have C1 := Lib.hid c1; clear c1
        have C2 := Lib.hid c2; clear c2
        have C3 := Lib.hid c3; clear c3
        go_enter Try.func6, Try.ntmps6
        go_upto_region 3 with (first
          | ((with_reducible refine (C1.out _).mono ?_); rintro e w1 ⟨rfl, hw⟩; replace ra := ra.up hw; replace rb := rb.up hw; replace rc := rc.up hw; obtain ⟨a0, a1, a2, -⟩ := ra.c3; obtain ⟨b0, b1, b2, -⟩ := rb.c3; obtain ⟨c0, c1, c2, -⟩ := rc.c3; replace hu := hu.next hw; clear hw)
          | ((with_reducible refine (C2.out _).mono ?_); rintro e w1 ⟨rfl, hw⟩; replace ra := ra.up hw; replace rb := rb.up hw; replace rc := rc.up hw; obtain ⟨a0, a1, a2, -⟩ := ra.c3; obtain ⟨b0, b1, b2, -⟩ := rb.c3; obtain ⟨c0, c1, c2, -⟩ := rc.c3; replace hu := hu.next hw; clear hw)
          | ((with_reducible refine (C3.out _).mono ?_); rintro e w1 ⟨rfl, hw⟩; replace ra := ra.up hw; replace rb := rb.up hw; replace rc := rc.up hw; obtain ⟨a0, a1, a2, -⟩ := ra.c3; obtain ⟨b0, b1, b2, -⟩ := rb.c3; obtain ⟨c0, c1, c2, -⟩ := rc.c3; replace hu := hu.next hw; clear hw))
        have l0 := Later.cell_of a0; have l1 := Later.cell_of a1; have l2 := Later.cell_of a2
        have l3 := Later.cell_of b0; have l4 := Later.cell_of b1; have l5 := Later.cell_of b2
        have l6 := Later.cell_of c0; have l7 := Later.cell_of c1; have l8 := Later.cell_of c2
        clear a0 a1 a2 b0 b1 b2 c0 c1 c2
        have hne := later_ne w1
        refine wp_region_later (by kernel_rfl) (by kernel_rfl) ?_
        repeat (go_big_quiet_step (first
          | (go_at_call 18; with_reducible exact Calls.later (D1.out _))
          | (go_at_call 18; with_reducible exact Calls.later (D2.out _))
          | (go_at_call 18; with_reducible exact Calls.later (D3.out _))
          | (go_at_call 18; with_reducible exact Calls.later (D4.out _))
          | (go_at_call 20; with_reducible exact Calls.later (D5.out _))))
        refine wpQuiet_nil ?_
        intro w9 hw9
        obtain ⟨u9, rfl⟩ := hw9
        replace hu := hu.trans u9.up
        generalize u9.world = w9 at *
        go_wp2_with fail
        go_ret
        exact ⟨rfl, hu⟩
    · rcases cs with ⟨g1, g2⟩ | ⟨g1, g2, g3, g4⟩ | ⟨g1, g2, g3⟩
      · rw [g1] at d1; rw [g2] at d2
        have D1 := Lib.hid d1; have D2 := Lib.hid d2; have D3 := Lib.hid d3; have D4 := Lib.hid d4
        clear d1 d2 d3 d4
        have C1 := Lib.hid c1; clear c1
        have C2 := Lib.hid c2; clear c2
        have C3 := Lib.hid c3; clear c3
        go_enter Try.func6, Try.ntmps6
        go_upto_region 3 with (first
          | ((with_reducible refine (C1.out _).mono ?_); rintro e w1 ⟨rfl, hw⟩; replace ra := ra.up hw; replace rb := rb.up hw; replace rc := rc.up hw; obtain ⟨a0, a1, a2, -⟩ := ra.c3; obtain ⟨b0, b1, b2, -⟩ := rb.c3; obtain ⟨c0, c1, c2, -⟩ := rc.c3; replace hu := hu.next hw; clear hw)
          | ((with_reducible refine (C2.out _).mono ?_); rintro e w1 ⟨rfl, hw⟩; replace ra := ra.up hw; replace rb := rb.up hw; replace rc := rc.up hw; obtain ⟨a0, a1, a2, -⟩ := ra.c3; obtain ⟨b0, b1, b2, -⟩ := rb.c3; obtain ⟨c0, c1, c2, -⟩ := rc.c3; replace hu := hu.next hw; clear hw)
          | ((with_reducible refine (C3.out _).mono ?_); rintro e w1 ⟨rfl, hw⟩; replace ra := ra.up hw; replace rb := rb.up hw; replace rc := rc.up hw; obtain ⟨a0, a1, a2, -⟩ := ra.c3; obtain ⟨b0, b1, b2, -⟩ := rb.c3; obtain ⟨c0, c1, c2, -⟩ := rc.c3; replace hu := hu.next hw; clear hw))
        have l0 := Later.cell_of a0; have l1 := Later.cell_of a1; have l2 := Later.cell_of a2
        have l3 := Later.cell_of b0; have l4 := Later.cell_of b1; have l5 := Later.cell_of b2
        have l6 := Later.cell_of c0; have l7 := Later.cell_of c1; have l8 := Later.cell_of c2
        clear a0 a1 a2 b0 b1 b2 c0 c1 c2
        have hne := later_ne w1
        refine wp_region_later (by kernel_rfl) (by kernel_rfl) ?_
        repeat (go_big_quiet_step (first
          | (go_at_call 18; with_reducible exact Calls.later (D1.out _))
          | (go_at_call 18; with_reducible exact Calls.later (D2.out _))
          | (go_at_call 18; with_reducible exact Calls.later (D3.out _))
          | (go_at_call 18; with_reducible exact Calls.later (D4.out _))
          | (go_at_call 20; with_reducible exact Calls.later (D5.out _))))
        refine wpQuiet_nil ?_
        intro w9 hw9
        obtain ⟨u9, rfl⟩ := hw9
        replace hu := hu.trans u9.up
        generalize u9.world = w9 at *
        go_wp2_with fail
        go_ret
        exact ⟨rfl, hu⟩
      · rw [g1] at d1; rw [g2] at d2; rw [g3] at d3; rw [g4] at d4
        have D1 := Lib.hid d1; have D2 := Lib.hid d2; have D3 := Lib.hid d3; have D4 := Lib.hid d4
        clear d1 d2 d3 d4
        have C1 := Lib.hid c1; clear c1
        have C2 := Lib.hid c2; clear c2
        have C3 := Lib.hid c3; clear c3
        go_enter Try.func6, Try.ntmps6
        go_upto_region 3 with (first
          | ((with_reducible refine (C1.out _).mono ?_); rintro e w1 ⟨rfl, hw⟩; replace ra := ra.up hw; replace rb := rb.up hw; replace rc := rc.up hw; obtain ⟨a0, a1, a2, -⟩ := ra.c3; obtain ⟨b0, b1, b2, -⟩ := rb.c3; obtain ⟨c0, c1, c2, -⟩ := rc.c3; replace hu := hu.next hw; clear hw)
          | ((with_reducible refine (C2.out _).mono ?_); rintro e w1 ⟨rfl, hw⟩; replace ra := ra.up hw; replace rb := rb.up hw; replace rc := rc.up hw; obtain ⟨a0, a1, a2, -⟩ := ra.c3; obtain ⟨b0, b1, b2, -⟩ := rb.c3; obtain ⟨c0, c1, c2, -⟩ := rc.c3; replace hu := hu.next hw; clear hw)
          | ((with_reducible refine (C3.out _).mono ?_); rintro e w1 ⟨rfl, hw⟩; replace ra := ra.up hw; replace rb := rb.up hw; replace rc := rc.up hw; obtain ⟨a0, a1, a2, -⟩ := ra.c3; obtain ⟨b0, b1, b2, -⟩ := rb.c3; obtain ⟨c0, c1, c2, -⟩ := rc.c3; replace hu := hu.next hw; clear hw))
        have l0 := Later.cell_of a0; have l1 := Later.cell_of a1; have l2 := Later.cell_of a2
        have l3 := Later.cell_of b0; have l4 := Later.cell_of b1; have l5 := Later.cell_of b2
        have l6 := Later.cell_of c0; have l7 := Later.cell_of c1; have l8 := Later.cell_of c2
        clear a0 a1 a2 b0 b1 b2 c0 c1 c2
        have hne := later_ne w1
        refine wp_region_later (by kernel_rfl) (by kernel_rfl) ?_
        repeat (go_big_quiet_step (first
          | (go_at_call 18; with_reducible exact Calls.later (D1.out _))
          | (go_at_call 18; with_reducible exact Calls.later (D2.out _))
          | (go_at_call 18; with_reducible exact Calls.later (D3.out _))
          | (go_at_call 18; with_reducible exact Calls.later (D4.out _))
          | (go_at_call 20; with_reducible exact Calls.later (D5.out _))))
        refine wpQuiet_nil ?_
        intro w9 hw9
        obtain ⟨u9, rfl⟩ := hw9
        replace hu := hu.trans u9.up
        generalize u9.world = w9 at *
        go_wp2_with fail
        go_ret
        exact ⟨rfl, hu⟩
      · rw [g1] at d1; rw [g2] at d2; rw [g3] at d3
        have D1 := Lib.hid d1; have D2 := Lib.hid d2; have D3 := Lib.hid d3; have D4 := Lib.hid d4
        clear d1 d2 d3 d4
        have C1 := Lib.hid c1; clear c1
        have C2 := Lib.hid c2; clear c2
        have C3 := Lib.hid c3; clear c3
        go_enter Try.func6, Try.ntmps6
        go_upto_region 3 with (first
          | ((with_reducible refine (C1.out _).mono ?_); rintro e w1 ⟨rfl, hw⟩; replace ra := ra.up hw; replace rb := rb.up hw; replace rc := rc.up hw; obtain ⟨a0, a1, a2, -⟩ := ra.c3; obtain ⟨b0, b1, b2, -⟩ := rb.c3; obtain ⟨c0, c1, c2, -⟩ := rc.c3; replace hu := hu.next hw; clear hw)
          | ((with_reducible refine (C2.out _).mono ?_); rintro e w1 ⟨rfl, hw⟩; replace ra := ra.up hw; replace rb := rb.up hw; replace rc := rc.up hw; obtain ⟨a0, a1, a2, -⟩ := ra.c3; obtain ⟨b0, b1, b2, -⟩ := rb.c3; obtain ⟨c0, c1, c2, -⟩ := rc.c3; replace hu := hu.next hw; clear hw)
          | ((with_reducible refine (C3.out _).mono ?_); rintro e w1 ⟨rfl, hw⟩; replace ra := ra.up hw; replace rb := rb.up hw; replace rc := rc.up hw; obtain ⟨a0, a1, a2, -⟩ := ra.c3; obtain ⟨b0, b1, b2, -⟩ := rb.c3; obtain ⟨c0, c1, c2, -⟩ := rc.c3; replace hu := hu.next hw; clear hw))
        have l0 := Later.cell_of a0; have l1 := Later.cell_of a1; have l2 := Later.cell_of a2
        have l3 := Later.cell_of b0; have l4 := Later.cell_of b1; have l5 := Later.cell_of b2
        have l6 := Later.cell_of c0; have l7 := Later.cell_of c1; have l8 := Later.cell_of c2
        clear a0 a1 a2 b0 b1 b2 c0 c1 c2
        have hne := later_ne w1
        refine wp_region_later (by kernel_rfl) (by kernel_rfl) ?_
        repeat (go_big_quiet_step (first
          | (go_at_call 18; with_reducible exact Calls.later (D1.out _))
          | (go_at_call 18; with_reducible exact Calls.later (D2.out _))
          | (go_at_call 18; with_reducible exact Calls.later (D3.out _))
          | (go_at_call 18; with_reducible exact Calls.later (D4.out _))
          | (go_at_call 20; with_reducible exact Calls.later (D5.out _))))
        refine wpQuiet_nil ?_
        intro w9 hw9
        obtain ⟨u9, rfl⟩ := hw9
        replace hu := hu.trans u9.up
        generalize u9.world = w9 at *
        go_wp2_with fail
        go_ret
        exact ⟨rfl, hu⟩
end Go.Proofs.Ytbjnklgicakndaa
