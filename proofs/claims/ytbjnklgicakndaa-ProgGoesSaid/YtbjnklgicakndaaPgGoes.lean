import Derived.Test.YtbjnklgicakndaaPgOrder
import Derived.OpenShut
namespace Go.Proofs.Ytbjnklgicakndaa
open Go.RowKit Bw
set_option linter.unusedVariables false

theorem nextV_form (p u o : Int) : ∃ x y z, nextV p u o = progV x y z := by unfold nextV; split <;> exact ⟨_, _, _, rfl⟩
theorem beginV_form (p u o : Int) : ∃ x y z, beginV p u o = progV x y z := by unfold beginV; split <;> exact ⟨_, _, _, rfl⟩
theorem endV_form (p u o : Int) : ∃ x y z, endV p u o = progV x y z := by unfold endV; split <;> exact ⟨_, _, _, rfl⟩

set_option maxHeartbeats 8000000 in
set_option maxRecDepth 100000 in
theorem goes_wrong (p u o a b c : Int) (hR : rightB p u o = false) (w : World) (hu1 : -9223372036854775808 ≤ u) (hu2 : -9223372036854775808 ≤ b) :
    Calls Try.prog 3 #[progV p u o, progV a b c] w fun e w' => e = .returned (.bool true) ∧ Below w.heap.size w w' := by
  obtain ⟨nx, ny, nz, hN⟩ := nextV_form p u o
  obtain ⟨bx, by', bz, hB⟩ := beginV_form p u o
  have c1 := fun w => prog_Next p u o w hu1
  have c2 := fun w => ref20_Next p u o w
  have c3 := fun w => prog_Begin p u o w hu1
  have c4 := fun w => ref20_Begin p u o w
  have c5 := fun w => prog_End p u o w hu1
  have c6 := fun w => ref20_End p u o w
  have c7 := fun w => prog_Forward p u o w hu1
  have c8 := fun w => prog_Right p u o w hu1
  have c9 := fun w => ref20_Right p u o w
  have c10 := fun w => prog_Less p u o a b c w hu1 hu2
  have c11 := fun w => ref20_Less p u o a b c w
  have C12 := Lib.hid law20_fixed
  have C13 := Lib.hid law20_ref
  rw [hN] at c1 c2; rw [hB] at c3 c4
  have hE : endV p u o = progV 0 0 0 ∧ fwdV p u o = progV 0 0 0 ∧ fwdB p u o = false ∧ fwdE p u o = 1 := by
    simp [endV, endE, mayE, fwdV, fwdB, fwdE, hR]
  rw [hE.1] at c5 c6; rw [hE.2.1, hE.2.2.1, hE.2.2.2] at c7; rw [hR] at c8 c9
  clear hE hN hB hR
  generalize nextE p u o = NE at *; generalize beginE p u o = BE at *; generalize endE p u o = EE at *; generalize lessB p u o a b c = LL at *
  unfold progV at *
  have C1 := Lib.hid c1; clear c1
  have C2 := Lib.hid c2; clear c2
  have C3 := Lib.hid c3; clear c3
  have C4 := Lib.hid c4; clear c4
  have C5 := Lib.hid c5; clear c5
  have C6 := Lib.hid c6; clear c6
  have C7 := Lib.hid c7; clear c7
  have C8 := Lib.hid c8; clear c8
  have C9 := Lib.hid c9; clear c9
  have C10 := Lib.hid c10; clear c10
  have C11 := Lib.hid c11; clear c11
  have hu := Up.refl w
  go_enter Try.func3, Try.ntmps3
  go_upto_region 1 with fail
  have ra := (RowAt.made w 23 [.int .i64 p, .int .i64 u, .int .i64 o]).alloc (.cells #[.int .i64 a, .int .i64 b, .int .i64 c] 23)
  have rb := (RowAt.made (w.alloc (.cells #[.int .i64 p, .int .i64 u, .int .i64 o] 23)) 23 [.int .i64 a, .int .i64 b, .int .i64 c])
  simp at ra rb
  replace hu := (hu.alloc (.cells #[.int .i64 p, .int .i64 u, .int .i64 o] 23)).alloc (.cells #[.int .i64 a, .int .i64 b, .int .i64 c] 23)
  generalize (w.alloc (.cells #[.int .i64 p, .int .i64 u, .int .i64 o] 23)).alloc (.cells #[.int .i64 a, .int .i64 b, .int .i64 c] 23) = x0 at *
  obtain ⟨a0, a1, a2, -⟩ := ra.c3
  go_upto_region 2 with (first | ((with_reducible refine (C1.out _).mono ?_); rintro e wv0 ⟨rfl, hw⟩; replace ra := ra.up hw; replace rb := rb.up hw; replace hu := hu.next hw; clear hw))
  clear a0 a1 a2
  have r5 := RowAt.made wv0 23 [.int .i64 nx, .int .i64 ny, .int .i64 nz]
  replace hu := hu.alloc (.cells #[.int .i64 nx, .int .i64 ny, .int .i64 nz] 23)
  replace ra := ra.alloc (.cells #[.int .i64 nx, .int .i64 ny, .int .i64 nz] 23)
  replace rb := rb.alloc (.cells #[.int .i64 nx, .int .i64 ny, .int .i64 nz] 23)
  generalize wv0.heap.size = gv0 at *
  generalize wv0.alloc (.cells #[.int .i64 nx, .int .i64 ny, .int .i64 nz] 23) = xv0 at *
  obtain ⟨a0, a1, a2, -⟩ := ra.c3
  go_upto_region 3 with (first | ((with_reducible refine (C13.out _ _ _ _).mono ?_); rintro e wu ⟨rfl, hw⟩; replace ra := ra.up hw; replace rb := rb.up hw; replace r5 := r5.up hw; replace hu := hu.next hw; clear hw) | ((with_reducible refine (C2.out _).mono ?_); rintro e wv1 ⟨rfl, hw⟩; replace ra := ra.up hw; replace rb := rb.up hw; replace r5 := r5.up hw; replace hu := hu.next hw; clear hw))
  clear a0 a1 a2
  have r7 := RowAt.made wv1 27 [.int .i64 nx, .int .i64 ny, .int .i64 nz]
  replace hu := hu.alloc (.cells #[.int .i64 nx, .int .i64 ny, .int .i64 nz] 27)
  replace ra := ra.alloc (.cells #[.int .i64 nx, .int .i64 ny, .int .i64 nz] 27)
  replace rb := rb.alloc (.cells #[.int .i64 nx, .int .i64 ny, .int .i64 nz] 27)
  replace r5 := r5.alloc (.cells #[.int .i64 nx, .int .i64 ny, .int .i64 nz] 27)
  generalize wv1.heap.size = gv1 at *
  generalize wv1.alloc (.cells #[.int .i64 nx, .int .i64 ny, .int .i64 nz] 27) = xv1 at *
  obtain ⟨a0, a1, a2, -⟩ := ra.c3
  go_upto_region 4 with (first | ((with_reducible refine (C3.out _).mono ?_); rintro e wv2 ⟨rfl, hw⟩; replace ra := ra.up hw; replace rb := rb.up hw; replace r5 := r5.up hw; replace r7 := r7.up hw; replace hu := hu.next hw; clear hw))
  clear a0 a1 a2
  have r9 := RowAt.made wv2 23 [.int .i64 bx, .int .i64 by', .int .i64 bz]
  replace hu := hu.alloc (.cells #[.int .i64 bx, .int .i64 by', .int .i64 bz] 23)
  replace ra := ra.alloc (.cells #[.int .i64 bx, .int .i64 by', .int .i64 bz] 23)
  replace rb := rb.alloc (.cells #[.int .i64 bx, .int .i64 by', .int .i64 bz] 23)
  replace r5 := r5.alloc (.cells #[.int .i64 bx, .int .i64 by', .int .i64 bz] 23)
  replace r7 := r7.alloc (.cells #[.int .i64 bx, .int .i64 by', .int .i64 bz] 23)
  generalize wv2.heap.size = gv2 at *
  generalize wv2.alloc (.cells #[.int .i64 bx, .int .i64 by', .int .i64 bz] 23) = xv2 at *
  obtain ⟨a0, a1, a2, -⟩ := ra.c3
  go_upto_region 5 with (first | ((with_reducible refine (C13.out _ _ _ _).mono ?_); rintro e wu ⟨rfl, hw⟩; replace ra := ra.up hw; replace rb := rb.up hw; replace r5 := r5.up hw; replace r7 := r7.up hw; replace r9 := r9.up hw; replace hu := hu.next hw; clear hw) | ((with_reducible refine (C4.out _).mono ?_); rintro e wv3 ⟨rfl, hw⟩; replace ra := ra.up hw; replace rb := rb.up hw; replace r5 := r5.up hw; replace r7 := r7.up hw; replace r9 := r9.up hw; replace hu := hu.next hw; clear hw))
  clear a0 a1 a2
  have r11 := RowAt.made wv3 27 [.int .i64 bx, .int .i64 by', .int .i64 bz]
  replace hu := hu.alloc (.cells #[.int .i64 bx, .int .i64 by', .int .i64 bz] 27)
  replace ra := ra.alloc (.cells #[.int .i64 bx, .int .i64 by', .int .i64 bz] 27)
  replace rb := rb.alloc (.cells #[.int .i64 bx, .int .i64 by', .int .i64 bz] 27)
  replace r5 := r5.alloc (.cells #[.int .i64 bx, .int .i64 by', .int .i64 bz] 27)
  replace r7 := r7.alloc (.cells #[.int .i64 bx, .int .i64 by', .int .i64 bz] 27)
  replace r9 := r9.alloc (.cells #[.int .i64 bx, .int .i64 by', .int .i64 bz] 27)
  generalize wv3.heap.size = gv3 at *
  generalize wv3.alloc (.cells #[.int .i64 bx, .int .i64 by', .int .i64 bz] 27) = xv3 at *
  obtain ⟨a0, a1, a2, -⟩ := ra.c3
  go_upto_region 6 with (first | ((with_reducible refine (C5.out _).mono ?_); rintro e wv4 ⟨rfl, hw⟩; replace ra := ra.up hw; replace rb := rb.up hw; replace r5 := r5.up hw; replace r7 := r7.up hw; replace r9 := r9.up hw; replace r11 := r11.up hw; replace hu := hu.next hw; clear hw))
  clear a0 a1 a2
  have r13 := RowAt.made wv4 23 [.int .i64 0, .int .i64 0, .int .i64 0]
  replace hu := hu.alloc (.cells #[.int .i64 0, .int .i64 0, .int .i64 0] 23)
  replace ra := ra.alloc (.cells #[.int .i64 0, .int .i64 0, .int .i64 0] 23)
  replace rb := rb.alloc (.cells #[.int .i64 0, .int .i64 0, .int .i64 0] 23)
  replace r5 := r5.alloc (.cells #[.int .i64 0, .int .i64 0, .int .i64 0] 23)
  replace r7 := r7.alloc (.cells #[.int .i64 0, .int .i64 0, .int .i64 0] 23)
  replace r9 := r9.alloc (.cells #[.int .i64 0, .int .i64 0, .int .i64 0] 23)
  replace r11 := r11.alloc (.cells #[.int .i64 0, .int .i64 0, .int .i64 0] 23)
  generalize wv4.heap.size = gv4 at *
  generalize wv4.alloc (.cells #[.int .i64 0, .int .i64 0, .int .i64 0] 23) = xv4 at *
  obtain ⟨a0, a1, a2, -⟩ := ra.c3
  go_upto_region 7 with (first | ((with_reducible refine (C13.out _ _ _ _).mono ?_); rintro e wu ⟨rfl, hw⟩; replace ra := ra.up hw; replace rb := rb.up hw; replace r5 := r5.up hw; replace r7 := r7.up hw; replace r9 := r9.up hw; replace r11 := r11.up hw; replace r13 := r13.up hw; replace hu := hu.next hw; clear hw) | ((with_reducible refine (C6.out _).mono ?_); rintro e wv5 ⟨rfl, hw⟩; replace ra := ra.up hw; replace rb := rb.up hw; replace r5 := r5.up hw; replace r7 := r7.up hw; replace r9 := r9.up hw; replace r11 := r11.up hw; replace r13 := r13.up hw; replace hu := hu.next hw; clear hw))
  clear a0 a1 a2
  have r15 := RowAt.made wv5 27 [.int .i64 0, .int .i64 0, .int .i64 0]
  replace hu := hu.alloc (.cells #[.int .i64 0, .int .i64 0, .int .i64 0] 27)
  replace ra := ra.alloc (.cells #[.int .i64 0, .int .i64 0, .int .i64 0] 27)
  replace rb := rb.alloc (.cells #[.int .i64 0, .int .i64 0, .int .i64 0] 27)
  replace r5 := r5.alloc (.cells #[.int .i64 0, .int .i64 0, .int .i64 0] 27)
  replace r7 := r7.alloc (.cells #[.int .i64 0, .int .i64 0, .int .i64 0] 27)
  replace r9 := r9.alloc (.cells #[.int .i64 0, .int .i64 0, .int .i64 0] 27)
  replace r11 := r11.alloc (.cells #[.int .i64 0, .int .i64 0, .int .i64 0] 27)
  replace r13 := r13.alloc (.cells #[.int .i64 0, .int .i64 0, .int .i64 0] 27)
  generalize wv5.heap.size = gv5 at *
  generalize wv5.alloc (.cells #[.int .i64 0, .int .i64 0, .int .i64 0] 27) = xv5 at *
  obtain ⟨a0, a1, a2, -⟩ := ra.c3
  go_upto_region 8 with (first | ((with_reducible refine (C7.out _).mono ?_); rintro e wv6 ⟨rfl, hw⟩; replace ra := ra.up hw; replace rb := rb.up hw; replace r5 := r5.up hw; replace r7 := r7.up hw; replace r9 := r9.up hw; replace r11 := r11.up hw; replace r13 := r13.up hw; replace r15 := r15.up hw; replace hu := hu.next hw; clear hw))
  clear a0 a1 a2
  have r17 := RowAt.made wv6 23 [.int .i64 0, .int .i64 0, .int .i64 0]
  replace hu := hu.alloc (.cells #[.int .i64 0, .int .i64 0, .int .i64 0] 23)
  replace ra := ra.alloc (.cells #[.int .i64 0, .int .i64 0, .int .i64 0] 23)
  replace rb := rb.alloc (.cells #[.int .i64 0, .int .i64 0, .int .i64 0] 23)
  replace r5 := r5.alloc (.cells #[.int .i64 0, .int .i64 0, .int .i64 0] 23)
  replace r7 := r7.alloc (.cells #[.int .i64 0, .int .i64 0, .int .i64 0] 23)
  replace r9 := r9.alloc (.cells #[.int .i64 0, .int .i64 0, .int .i64 0] 23)
  replace r11 := r11.alloc (.cells #[.int .i64 0, .int .i64 0, .int .i64 0] 23)
  replace r13 := r13.alloc (.cells #[.int .i64 0, .int .i64 0, .int .i64 0] 23)
  replace r15 := r15.alloc (.cells #[.int .i64 0, .int .i64 0, .int .i64 0] 23)
  generalize wv6.heap.size = gv6 at *
  generalize wv6.alloc (.cells #[.int .i64 0, .int .i64 0, .int .i64 0] 23) = xv6 at *
  obtain ⟨ra_0, ra_1, ra_2, -⟩ := ra.c3; obtain ⟨rb_0, rb_1, rb_2, -⟩ := rb.c3; obtain ⟨r5_0, r5_1, r5_2, -⟩ := r5.c3; obtain ⟨r7_0, r7_1, r7_2, -⟩ := r7.c3; obtain ⟨r9_0, r9_1, r9_2, -⟩ := r9.c3; obtain ⟨r11_0, r11_1, r11_2, -⟩ := r11.c3; obtain ⟨r13_0, r13_1, r13_2, -⟩ := r13.c3; obtain ⟨r15_0, r15_1, r15_2, -⟩ := r15.c3; obtain ⟨r17_0, r17_1, r17_2, -⟩ := r17.c3
  have lra_0 := Later.cell_of ra_0; have lra_1 := Later.cell_of ra_1; have lra_2 := Later.cell_of ra_2
  have lrb_0 := Later.cell_of rb_0; have lrb_1 := Later.cell_of rb_1; have lrb_2 := Later.cell_of rb_2
  have lr5_0 := Later.cell_of r5_0; have lr5_1 := Later.cell_of r5_1; have lr5_2 := Later.cell_of r5_2
  have lr7_0 := Later.cell_of r7_0; have lr7_1 := Later.cell_of r7_1; have lr7_2 := Later.cell_of r7_2
  have lr9_0 := Later.cell_of r9_0; have lr9_1 := Later.cell_of r9_1; have lr9_2 := Later.cell_of r9_2
  have lr11_0 := Later.cell_of r11_0; have lr11_1 := Later.cell_of r11_1; have lr11_2 := Later.cell_of r11_2
  have lr13_0 := Later.cell_of r13_0; have lr13_1 := Later.cell_of r13_1; have lr13_2 := Later.cell_of r13_2
  have lr15_0 := Later.cell_of r15_0; have lr15_1 := Later.cell_of r15_1; have lr15_2 := Later.cell_of r15_2
  have lr17_0 := Later.cell_of r17_0; have lr17_1 := Later.cell_of r17_1; have lr17_2 := Later.cell_of r17_2
  clear ra_0 ra_1 ra_2 rb_0 rb_1 rb_2 r5_0 r5_1 r5_2 r7_0 r7_1 r7_2 r9_0 r9_1 r9_2 r11_0 r11_1 r11_2 r13_0 r13_1 r13_2 r15_0 r15_1 r15_2 r17_0 r17_1 r17_2
  have hne := later_ne xv6
  refine wp_region_later (by kernel_rfl) (by kernel_rfl) ?_
  repeat (go_big_quiet_step (first | (go_at_call 10; with_reducible exact Calls.later (C13.out _ _ _ _)) | (go_at_call 16; with_reducible exact Calls.later (C8.out _)) | (go_at_call 17; with_reducible exact Calls.later (C9.out _)) | (go_at_call 18; with_reducible exact Calls.later (C10.out _)) | (go_at_call 19; with_reducible exact Calls.later (C11.out _)) | (go_at_call 20; with_reducible exact Calls.later (C12.out _))))
  refine wpQuiet_nil ?_
  intro w9 hw9
  obtain ⟨u9, rfl⟩ := hw9
  replace ra := ra.up u9.up
  replace rb := rb.up u9.up
  replace r5 := r5.up u9.up
  replace r7 := r7.up u9.up
  replace r9 := r9.up u9.up
  replace r11 := r11.up u9.up
  replace r13 := r13.up u9.up
  replace r15 := r15.up u9.up
  replace r17 := r17.up u9.up
  replace hu := hu.trans u9.up
  clear hne lra_0 lra_1 lra_2 lrb_0 lrb_1 lrb_2 lr5_0 lr5_1 lr5_2 lr7_0 lr7_1 lr7_2 lr9_0 lr9_1 lr9_2 lr11_0 lr11_1 lr11_2 lr13_0 lr13_1 lr13_2 lr15_0 lr15_1 lr15_2 lr17_0 lr17_1 lr17_2
  generalize u9.world = w9 at *
  obtain ⟨ra_0, ra_1, ra_2, -⟩ := ra.c3; obtain ⟨rb_0, rb_1, rb_2, -⟩ := rb.c3; obtain ⟨r5_0, r5_1, r5_2, -⟩ := r5.c3; obtain ⟨r7_0, r7_1, r7_2, -⟩ := r7.c3; obtain ⟨r9_0, r9_1, r9_2, -⟩ := r9.c3; obtain ⟨r11_0, r11_1, r11_2, -⟩ := r11.c3; obtain ⟨r13_0, r13_1, r13_2, -⟩ := r13.c3; obtain ⟨r15_0, r15_1, r15_2, -⟩ := r15.c3; obtain ⟨r17_0, r17_1, r17_2, -⟩ := r17.c3
  go_wp2_with (first | ((with_reducible refine (C13.out _ _ _ _).mono ?_); rintro e wz ⟨rfl, hw⟩; replace ra := ra.up hw; replace rb := rb.up hw; replace r5 := r5.up hw; replace r7 := r7.up hw; replace r9 := r9.up hw; replace r11 := r11.up hw; replace r13 := r13.up hw; replace r15 := r15.up hw; replace r17 := r17.up hw; replace hu := hu.next hw; clear hw; obtain ⟨ra_0, ra_1, ra_2, -⟩ := ra.c3; obtain ⟨rb_0, rb_1, rb_2, -⟩ := rb.c3; obtain ⟨r5_0, r5_1, r5_2, -⟩ := r5.c3; obtain ⟨r7_0, r7_1, r7_2, -⟩ := r7.c3; obtain ⟨r9_0, r9_1, r9_2, -⟩ := r9.c3; obtain ⟨r11_0, r11_1, r11_2, -⟩ := r11.c3; obtain ⟨r13_0, r13_1, r13_2, -⟩ := r13.c3; obtain ⟨r15_0, r15_1, r15_2, -⟩ := r15.c3; obtain ⟨r17_0, r17_1, r17_2, -⟩ := r17.c3) | ((with_reducible refine (C9.out _).mono ?_); rintro e wz ⟨rfl, hw⟩; replace ra := ra.up hw; replace rb := rb.up hw; replace r5 := r5.up hw; replace r7 := r7.up hw; replace r9 := r9.up hw; replace r11 := r11.up hw; replace r13 := r13.up hw; replace r15 := r15.up hw; replace r17 := r17.up hw; replace hu := hu.next hw; clear hw; obtain ⟨ra_0, ra_1, ra_2, -⟩ := ra.c3; obtain ⟨rb_0, rb_1, rb_2, -⟩ := rb.c3; obtain ⟨r5_0, r5_1, r5_2, -⟩ := r5.c3; obtain ⟨r7_0, r7_1, r7_2, -⟩ := r7.c3; obtain ⟨r9_0, r9_1, r9_2, -⟩ := r9.c3; obtain ⟨r11_0, r11_1, r11_2, -⟩ := r11.c3; obtain ⟨r13_0, r13_1, r13_2, -⟩ := r13.c3; obtain ⟨r15_0, r15_1, r15_2, -⟩ := r15.c3; obtain ⟨r17_0, r17_1, r17_2, -⟩ := r17.c3) | ((with_reducible refine (C12.out _).mono ?_); rintro e wz ⟨rfl, hw⟩; replace ra := ra.up hw; replace rb := rb.up hw; replace r5 := r5.up hw; replace r7 := r7.up hw; replace r9 := r9.up hw; replace r11 := r11.up hw; replace r13 := r13.up hw; replace r15 := r15.up hw; replace r17 := r17.up hw; replace hu := hu.next hw; clear hw; obtain ⟨ra_0, ra_1, ra_2, -⟩ := ra.c3; obtain ⟨rb_0, rb_1, rb_2, -⟩ := rb.c3; obtain ⟨r5_0, r5_1, r5_2, -⟩ := r5.c3; obtain ⟨r7_0, r7_1, r7_2, -⟩ := r7.c3; obtain ⟨r9_0, r9_1, r9_2, -⟩ := r9.c3; obtain ⟨r11_0, r11_1, r11_2, -⟩ := r11.c3; obtain ⟨r13_0, r13_1, r13_2, -⟩ := r13.c3; obtain ⟨r15_0, r15_1, r15_2, -⟩ := r15.c3; obtain ⟨r17_0, r17_1, r17_2, -⟩ := r17.c3))
  go_ret
  exact ⟨rfl, hu⟩

set_option maxHeartbeats 8000000 in
set_option maxRecDepth 100000 in
theorem goes_still (p u a b c : Int) (hR : rightB p u 0 = true) (w : World) (hu1 : -9223372036854775808 ≤ u) (hu2 : -9223372036854775808 ≤ b) :
    Calls Try.prog 3 #[progV p u 0, progV a b c] w fun e w' => e = .returned (.bool true) ∧ Below w.heap.size w w' := by
  obtain ⟨nx, ny, nz, hN⟩ := nextV_form p u 0
  obtain ⟨bx, by', bz, hB⟩ := beginV_form p u 0
  have c1 := fun w => prog_Next p u 0 w hu1
  have c2 := fun w => ref20_Next p u 0 w
  have c3 := fun w => prog_Begin p u 0 w hu1
  have c4 := fun w => ref20_Begin p u 0 w
  have c5 := fun w => prog_End p u 0 w hu1
  have c6 := fun w => ref20_End p u 0 w
  have c7 := fun w => prog_Forward p u 0 w hu1
  have c8 := fun w => prog_Right p u 0 w hu1
  have c9 := fun w => ref20_Right p u 0 w
  have c10 := fun w => prog_Less p u 0 a b c w hu1 hu2
  have c11 := fun w => ref20_Less p u 0 a b c w
  have C12 := Lib.hid law20_fixed
  have C13 := Lib.hid law20_ref
  rw [hN] at c1 c2; rw [hB] at c3 c4
  have hE : endV p u 0 = progV 0 0 0 ∧ fwdV p u 0 = progV p u 0 ∧ fwdB p u 0 = false ∧ fwdE p u 0 = 0 := by
    simp [endV, endE, mayE, fwdV, fwdB, fwdE, hR]
  rw [hE.1] at c5 c6; rw [hE.2.1, hE.2.2.1, hE.2.2.2] at c7; rw [hR] at c8 c9
  clear hE hN hB hR
  generalize nextE p u 0 = NE at *; generalize beginE p u 0 = BE at *; generalize endE p u 0 = EE at *; generalize lessB p u 0 a b c = LL at *
  unfold progV at *
  have C1 := Lib.hid c1; clear c1
  have C2 := Lib.hid c2; clear c2
  have C3 := Lib.hid c3; clear c3
  have C4 := Lib.hid c4; clear c4
  have C5 := Lib.hid c5; clear c5
  have C6 := Lib.hid c6; clear c6
  have C7 := Lib.hid c7; clear c7
  have C8 := Lib.hid c8; clear c8
  have C9 := Lib.hid c9; clear c9
  have C10 := Lib.hid c10; clear c10
  have C11 := Lib.hid c11; clear c11
  have hu := Up.refl w
  go_enter Try.func3, Try.ntmps3
  go_upto_region 1 with fail
  have ra := (RowAt.made w 23 [.int .i64 p, .int .i64 u, .int .i64 0]).alloc (.cells #[.int .i64 a, .int .i64 b, .int .i64 c] 23)
  have rb := (RowAt.made (w.alloc (.cells #[.int .i64 p, .int .i64 u, .int .i64 0] 23)) 23 [.int .i64 a, .int .i64 b, .int .i64 c])
  simp at ra rb
  replace hu := (hu.alloc (.cells #[.int .i64 p, .int .i64 u, .int .i64 0] 23)).alloc (.cells #[.int .i64 a, .int .i64 b, .int .i64 c] 23)
  generalize (w.alloc (.cells #[.int .i64 p, .int .i64 u, .int .i64 0] 23)).alloc (.cells #[.int .i64 a, .int .i64 b, .int .i64 c] 23) = x0 at *
  obtain ⟨a0, a1, a2, -⟩ := ra.c3
  go_upto_region 2 with (first | ((with_reducible refine (C1.out _).mono ?_); rintro e wv0 ⟨rfl, hw⟩; replace ra := ra.up hw; replace rb := rb.up hw; replace hu := hu.next hw; clear hw))
  clear a0 a1 a2
  have r5 := RowAt.made wv0 23 [.int .i64 nx, .int .i64 ny, .int .i64 nz]
  replace hu := hu.alloc (.cells #[.int .i64 nx, .int .i64 ny, .int .i64 nz] 23)
  replace ra := ra.alloc (.cells #[.int .i64 nx, .int .i64 ny, .int .i64 nz] 23)
  replace rb := rb.alloc (.cells #[.int .i64 nx, .int .i64 ny, .int .i64 nz] 23)
  generalize wv0.heap.size = gv0 at *
  generalize wv0.alloc (.cells #[.int .i64 nx, .int .i64 ny, .int .i64 nz] 23) = xv0 at *
  obtain ⟨a0, a1, a2, -⟩ := ra.c3
  go_upto_region 3 with (first | ((with_reducible refine (C13.out _ _ _ _).mono ?_); rintro e wu ⟨rfl, hw⟩; replace ra := ra.up hw; replace rb := rb.up hw; replace r5 := r5.up hw; replace hu := hu.next hw; clear hw) | ((with_reducible refine (C2.out _).mono ?_); rintro e wv1 ⟨rfl, hw⟩; replace ra := ra.up hw; replace rb := rb.up hw; replace r5 := r5.up hw; replace hu := hu.next hw; clear hw))
  clear a0 a1 a2
  have r7 := RowAt.made wv1 27 [.int .i64 nx, .int .i64 ny, .int .i64 nz]
  replace hu := hu.alloc (.cells #[.int .i64 nx, .int .i64 ny, .int .i64 nz] 27)
  replace ra := ra.alloc (.cells #[.int .i64 nx, .int .i64 ny, .int .i64 nz] 27)
  replace rb := rb.alloc (.cells #[.int .i64 nx, .int .i64 ny, .int .i64 nz] 27)
  replace r5 := r5.alloc (.cells #[.int .i64 nx, .int .i64 ny, .int .i64 nz] 27)
  generalize wv1.heap.size = gv1 at *
  generalize wv1.alloc (.cells #[.int .i64 nx, .int .i64 ny, .int .i64 nz] 27) = xv1 at *
  obtain ⟨a0, a1, a2, -⟩ := ra.c3
  go_upto_region 4 with (first | ((with_reducible refine (C3.out _).mono ?_); rintro e wv2 ⟨rfl, hw⟩; replace ra := ra.up hw; replace rb := rb.up hw; replace r5 := r5.up hw; replace r7 := r7.up hw; replace hu := hu.next hw; clear hw))
  clear a0 a1 a2
  have r9 := RowAt.made wv2 23 [.int .i64 bx, .int .i64 by', .int .i64 bz]
  replace hu := hu.alloc (.cells #[.int .i64 bx, .int .i64 by', .int .i64 bz] 23)
  replace ra := ra.alloc (.cells #[.int .i64 bx, .int .i64 by', .int .i64 bz] 23)
  replace rb := rb.alloc (.cells #[.int .i64 bx, .int .i64 by', .int .i64 bz] 23)
  replace r5 := r5.alloc (.cells #[.int .i64 bx, .int .i64 by', .int .i64 bz] 23)
  replace r7 := r7.alloc (.cells #[.int .i64 bx, .int .i64 by', .int .i64 bz] 23)
  generalize wv2.heap.size = gv2 at *
  generalize wv2.alloc (.cells #[.int .i64 bx, .int .i64 by', .int .i64 bz] 23) = xv2 at *
  obtain ⟨a0, a1, a2, -⟩ := ra.c3
  go_upto_region 5 with (first | ((with_reducible refine (C13.out _ _ _ _).mono ?_); rintro e wu ⟨rfl, hw⟩; replace ra := ra.up hw; replace rb := rb.up hw; replace r5 := r5.up hw; replace r7 := r7.up hw; replace r9 := r9.up hw; replace hu := hu.next hw; clear hw) | ((with_reducible refine (C4.out _).mono ?_); rintro e wv3 ⟨rfl, hw⟩; replace ra := ra.up hw; replace rb := rb.up hw; replace r5 := r5.up hw; replace r7 := r7.up hw; replace r9 := r9.up hw; replace hu := hu.next hw; clear hw))
  clear a0 a1 a2
  have r11 := RowAt.made wv3 27 [.int .i64 bx, .int .i64 by', .int .i64 bz]
  replace hu := hu.alloc (.cells #[.int .i64 bx, .int .i64 by', .int .i64 bz] 27)
  replace ra := ra.alloc (.cells #[.int .i64 bx, .int .i64 by', .int .i64 bz] 27)
  replace rb := rb.alloc (.cells #[.int .i64 bx, .int .i64 by', .int .i64 bz] 27)
  replace r5 := r5.alloc (.cells #[.int .i64 bx, .int .i64 by', .int .i64 bz] 27)
  replace r7 := r7.alloc (.cells #[.int .i64 bx, .int .i64 by', .int .i64 bz] 27)
  replace r9 := r9.alloc (.cells #[.int .i64 bx, .int .i64 by', .int .i64 bz] 27)
  generalize wv3.heap.size = gv3 at *
  generalize wv3.alloc (.cells #[.int .i64 bx, .int .i64 by', .int .i64 bz] 27) = xv3 at *
  obtain ⟨a0, a1, a2, -⟩ := ra.c3
  go_upto_region 6 with (first | ((with_reducible refine (C5.out _).mono ?_); rintro e wv4 ⟨rfl, hw⟩; replace ra := ra.up hw; replace rb := rb.up hw; replace r5 := r5.up hw; replace r7 := r7.up hw; replace r9 := r9.up hw; replace r11 := r11.up hw; replace hu := hu.next hw; clear hw))
  clear a0 a1 a2
  have r13 := RowAt.made wv4 23 [.int .i64 0, .int .i64 0, .int .i64 0]
  replace hu := hu.alloc (.cells #[.int .i64 0, .int .i64 0, .int .i64 0] 23)
  replace ra := ra.alloc (.cells #[.int .i64 0, .int .i64 0, .int .i64 0] 23)
  replace rb := rb.alloc (.cells #[.int .i64 0, .int .i64 0, .int .i64 0] 23)
  replace r5 := r5.alloc (.cells #[.int .i64 0, .int .i64 0, .int .i64 0] 23)
  replace r7 := r7.alloc (.cells #[.int .i64 0, .int .i64 0, .int .i64 0] 23)
  replace r9 := r9.alloc (.cells #[.int .i64 0, .int .i64 0, .int .i64 0] 23)
  replace r11 := r11.alloc (.cells #[.int .i64 0, .int .i64 0, .int .i64 0] 23)
  generalize wv4.heap.size = gv4 at *
  generalize wv4.alloc (.cells #[.int .i64 0, .int .i64 0, .int .i64 0] 23) = xv4 at *
  obtain ⟨a0, a1, a2, -⟩ := ra.c3
  go_upto_region 7 with (first | ((with_reducible refine (C13.out _ _ _ _).mono ?_); rintro e wu ⟨rfl, hw⟩; replace ra := ra.up hw; replace rb := rb.up hw; replace r5 := r5.up hw; replace r7 := r7.up hw; replace r9 := r9.up hw; replace r11 := r11.up hw; replace r13 := r13.up hw; replace hu := hu.next hw; clear hw) | ((with_reducible refine (C6.out _).mono ?_); rintro e wv5 ⟨rfl, hw⟩; replace ra := ra.up hw; replace rb := rb.up hw; replace r5 := r5.up hw; replace r7 := r7.up hw; replace r9 := r9.up hw; replace r11 := r11.up hw; replace r13 := r13.up hw; replace hu := hu.next hw; clear hw))
  clear a0 a1 a2
  have r15 := RowAt.made wv5 27 [.int .i64 0, .int .i64 0, .int .i64 0]
  replace hu := hu.alloc (.cells #[.int .i64 0, .int .i64 0, .int .i64 0] 27)
  replace ra := ra.alloc (.cells #[.int .i64 0, .int .i64 0, .int .i64 0] 27)
  replace rb := rb.alloc (.cells #[.int .i64 0, .int .i64 0, .int .i64 0] 27)
  replace r5 := r5.alloc (.cells #[.int .i64 0, .int .i64 0, .int .i64 0] 27)
  replace r7 := r7.alloc (.cells #[.int .i64 0, .int .i64 0, .int .i64 0] 27)
  replace r9 := r9.alloc (.cells #[.int .i64 0, .int .i64 0, .int .i64 0] 27)
  replace r11 := r11.alloc (.cells #[.int .i64 0, .int .i64 0, .int .i64 0] 27)
  replace r13 := r13.alloc (.cells #[.int .i64 0, .int .i64 0, .int .i64 0] 27)
  generalize wv5.heap.size = gv5 at *
  generalize wv5.alloc (.cells #[.int .i64 0, .int .i64 0, .int .i64 0] 27) = xv5 at *
  obtain ⟨a0, a1, a2, -⟩ := ra.c3
  go_upto_region 8 with (first | ((with_reducible refine (C7.out _).mono ?_); rintro e wv6 ⟨rfl, hw⟩; replace ra := ra.up hw; replace rb := rb.up hw; replace r5 := r5.up hw; replace r7 := r7.up hw; replace r9 := r9.up hw; replace r11 := r11.up hw; replace r13 := r13.up hw; replace r15 := r15.up hw; replace hu := hu.next hw; clear hw))
  clear a0 a1 a2
  have r17 := RowAt.made wv6 23 [.int .i64 p, .int .i64 u, .int .i64 0]
  replace hu := hu.alloc (.cells #[.int .i64 p, .int .i64 u, .int .i64 0] 23)
  replace ra := ra.alloc (.cells #[.int .i64 p, .int .i64 u, .int .i64 0] 23)
  replace rb := rb.alloc (.cells #[.int .i64 p, .int .i64 u, .int .i64 0] 23)
  replace r5 := r5.alloc (.cells #[.int .i64 p, .int .i64 u, .int .i64 0] 23)
  replace r7 := r7.alloc (.cells #[.int .i64 p, .int .i64 u, .int .i64 0] 23)
  replace r9 := r9.alloc (.cells #[.int .i64 p, .int .i64 u, .int .i64 0] 23)
  replace r11 := r11.alloc (.cells #[.int .i64 p, .int .i64 u, .int .i64 0] 23)
  replace r13 := r13.alloc (.cells #[.int .i64 p, .int .i64 u, .int .i64 0] 23)
  replace r15 := r15.alloc (.cells #[.int .i64 p, .int .i64 u, .int .i64 0] 23)
  generalize wv6.heap.size = gv6 at *
  generalize wv6.alloc (.cells #[.int .i64 p, .int .i64 u, .int .i64 0] 23) = xv6 at *
  obtain ⟨ra_0, ra_1, ra_2, -⟩ := ra.c3; obtain ⟨rb_0, rb_1, rb_2, -⟩ := rb.c3; obtain ⟨r5_0, r5_1, r5_2, -⟩ := r5.c3; obtain ⟨r7_0, r7_1, r7_2, -⟩ := r7.c3; obtain ⟨r9_0, r9_1, r9_2, -⟩ := r9.c3; obtain ⟨r11_0, r11_1, r11_2, -⟩ := r11.c3; obtain ⟨r13_0, r13_1, r13_2, -⟩ := r13.c3; obtain ⟨r15_0, r15_1, r15_2, -⟩ := r15.c3; obtain ⟨r17_0, r17_1, r17_2, -⟩ := r17.c3
  have lra_0 := Later.cell_of ra_0; have lra_1 := Later.cell_of ra_1; have lra_2 := Later.cell_of ra_2
  have lrb_0 := Later.cell_of rb_0; have lrb_1 := Later.cell_of rb_1; have lrb_2 := Later.cell_of rb_2
  have lr5_0 := Later.cell_of r5_0; have lr5_1 := Later.cell_of r5_1; have lr5_2 := Later.cell_of r5_2
  have lr7_0 := Later.cell_of r7_0; have lr7_1 := Later.cell_of r7_1; have lr7_2 := Later.cell_of r7_2
  have lr9_0 := Later.cell_of r9_0; have lr9_1 := Later.cell_of r9_1; have lr9_2 := Later.cell_of r9_2
  have lr11_0 := Later.cell_of r11_0; have lr11_1 := Later.cell_of r11_1; have lr11_2 := Later.cell_of r11_2
  have lr13_0 := Later.cell_of r13_0; have lr13_1 := Later.cell_of r13_1; have lr13_2 := Later.cell_of r13_2
  have lr15_0 := Later.cell_of r15_0; have lr15_1 := Later.cell_of r15_1; have lr15_2 := Later.cell_of r15_2
  have lr17_0 := Later.cell_of r17_0; have lr17_1 := Later.cell_of r17_1; have lr17_2 := Later.cell_of r17_2
  clear ra_0 ra_1 ra_2 rb_0 rb_1 rb_2 r5_0 r5_1 r5_2 r7_0 r7_1 r7_2 r9_0 r9_1 r9_2 r11_0 r11_1 r11_2 r13_0 r13_1 r13_2 r15_0 r15_1 r15_2 r17_0 r17_1 r17_2
  have hne := later_ne xv6
  refine wp_region_later (by kernel_rfl) (by kernel_rfl) ?_
  repeat (go_big_quiet_step (first | (go_at_call 10; with_reducible exact Calls.later (C13.out _ _ _ _)) | (go_at_call 16; with_reducible exact Calls.later (C8.out _)) | (go_at_call 17; with_reducible exact Calls.later (C9.out _)) | (go_at_call 18; with_reducible exact Calls.later (C10.out _)) | (go_at_call 19; with_reducible exact Calls.later (C11.out _)) | (go_at_call 20; with_reducible exact Calls.later (C12.out _))))
  refine wpQuiet_nil ?_
  intro w9 hw9
  obtain ⟨u9, rfl⟩ := hw9
  replace ra := ra.up u9.up
  replace rb := rb.up u9.up
  replace r5 := r5.up u9.up
  replace r7 := r7.up u9.up
  replace r9 := r9.up u9.up
  replace r11 := r11.up u9.up
  replace r13 := r13.up u9.up
  replace r15 := r15.up u9.up
  replace r17 := r17.up u9.up
  replace hu := hu.trans u9.up
  clear hne lra_0 lra_1 lra_2 lrb_0 lrb_1 lrb_2 lr5_0 lr5_1 lr5_2 lr7_0 lr7_1 lr7_2 lr9_0 lr9_1 lr9_2 lr11_0 lr11_1 lr11_2 lr13_0 lr13_1 lr13_2 lr15_0 lr15_1 lr15_2 lr17_0 lr17_1 lr17_2
  generalize u9.world = w9 at *
  obtain ⟨ra_0, ra_1, ra_2, -⟩ := ra.c3; obtain ⟨rb_0, rb_1, rb_2, -⟩ := rb.c3; obtain ⟨r5_0, r5_1, r5_2, -⟩ := r5.c3; obtain ⟨r7_0, r7_1, r7_2, -⟩ := r7.c3; obtain ⟨r9_0, r9_1, r9_2, -⟩ := r9.c3; obtain ⟨r11_0, r11_1, r11_2, -⟩ := r11.c3; obtain ⟨r13_0, r13_1, r13_2, -⟩ := r13.c3; obtain ⟨r15_0, r15_1, r15_2, -⟩ := r15.c3; obtain ⟨r17_0, r17_1, r17_2, -⟩ := r17.c3
  go_wp2_with (first | ((with_reducible refine (C13.out _ _ _ _).mono ?_); rintro e wz ⟨rfl, hw⟩; replace ra := ra.up hw; replace rb := rb.up hw; replace r5 := r5.up hw; replace r7 := r7.up hw; replace r9 := r9.up hw; replace r11 := r11.up hw; replace r13 := r13.up hw; replace r15 := r15.up hw; replace r17 := r17.up hw; replace hu := hu.next hw; clear hw; obtain ⟨ra_0, ra_1, ra_2, -⟩ := ra.c3; obtain ⟨rb_0, rb_1, rb_2, -⟩ := rb.c3; obtain ⟨r5_0, r5_1, r5_2, -⟩ := r5.c3; obtain ⟨r7_0, r7_1, r7_2, -⟩ := r7.c3; obtain ⟨r9_0, r9_1, r9_2, -⟩ := r9.c3; obtain ⟨r11_0, r11_1, r11_2, -⟩ := r11.c3; obtain ⟨r13_0, r13_1, r13_2, -⟩ := r13.c3; obtain ⟨r15_0, r15_1, r15_2, -⟩ := r15.c3; obtain ⟨r17_0, r17_1, r17_2, -⟩ := r17.c3) | ((with_reducible refine (C9.out _).mono ?_); rintro e wz ⟨rfl, hw⟩; replace ra := ra.up hw; replace rb := rb.up hw; replace r5 := r5.up hw; replace r7 := r7.up hw; replace r9 := r9.up hw; replace r11 := r11.up hw; replace r13 := r13.up hw; replace r15 := r15.up hw; replace r17 := r17.up hw; replace hu := hu.next hw; clear hw; obtain ⟨ra_0, ra_1, ra_2, -⟩ := ra.c3; obtain ⟨rb_0, rb_1, rb_2, -⟩ := rb.c3; obtain ⟨r5_0, r5_1, r5_2, -⟩ := r5.c3; obtain ⟨r7_0, r7_1, r7_2, -⟩ := r7.c3; obtain ⟨r9_0, r9_1, r9_2, -⟩ := r9.c3; obtain ⟨r11_0, r11_1, r11_2, -⟩ := r11.c3; obtain ⟨r13_0, r13_1, r13_2, -⟩ := r13.c3; obtain ⟨r15_0, r15_1, r15_2, -⟩ := r15.c3; obtain ⟨r17_0, r17_1, r17_2, -⟩ := r17.c3) | ((with_reducible refine (C12.out _).mono ?_); rintro e wz ⟨rfl, hw⟩; replace ra := ra.up hw; replace rb := rb.up hw; replace r5 := r5.up hw; replace r7 := r7.up hw; replace r9 := r9.up hw; replace r11 := r11.up hw; replace r13 := r13.up hw; replace r15 := r15.up hw; replace r17 := r17.up hw; replace hu := hu.next hw; clear hw; obtain ⟨ra_0, ra_1, ra_2, -⟩ := ra.c3; obtain ⟨rb_0, rb_1, rb_2, -⟩ := rb.c3; obtain ⟨r5_0, r5_1, r5_2, -⟩ := r5.c3; obtain ⟨r7_0, r7_1, r7_2, -⟩ := r7.c3; obtain ⟨r9_0, r9_1, r9_2, -⟩ := r9.c3; obtain ⟨r11_0, r11_1, r11_2, -⟩ := r11.c3; obtain ⟨r13_0, r13_1, r13_2, -⟩ := r13.c3; obtain ⟨r15_0, r15_1, r15_2, -⟩ := r15.c3; obtain ⟨r17_0, r17_1, r17_2, -⟩ := r17.c3))
  go_ret
  exact ⟨rfl, hu⟩

set_option maxHeartbeats 8000000 in
set_option maxRecDepth 100000 in
theorem goes_open (p u o a b c : Int) (hR : rightB p u o = true) (ho : ¬ o = 0) (w : World) (hu1 : -9223372036854775808 ≤ u) (hu2 : -9223372036854775808 ≤ b) :
    Calls Try.prog 3 #[progV p u o, progV a b c] w fun e w' => e = .returned (.bool true) ∧ Below w.heap.size w w' := by
  obtain ⟨nx, ny, nz, hN⟩ := nextV_form p u o
  obtain ⟨bx, by', bz, hB⟩ := beginV_form p u o
  have c1 := fun w => prog_Next p u o w hu1
  have c2 := fun w => ref20_Next p u o w
  have c3 := fun w => prog_Begin p u o w hu1
  have c4 := fun w => ref20_Begin p u o w
  have c5 := fun w => prog_End p u o w hu1
  have c6 := fun w => ref20_End p u o w
  have c7 := fun w => prog_Forward p u o w hu1
  have c8 := fun w => prog_Right p u o w hu1
  have c9 := fun w => ref20_Right p u o w
  have c10 := fun w => prog_Less p u o a b c w hu1 hu2
  have c11 := fun w => ref20_Less p u o a b c w
  have C12 := Lib.hid law20_fixed
  have C13 := Lib.hid law20_ref
  rw [hN] at c1 c2; rw [hB] at c3 c4
  have hE : endV p u o = progV p o 0 ∧ fwdV p u o = progV p o 0 ∧ fwdB p u o = true ∧ fwdE p u o = 0 := by
    simp [endV, endE, mayE, fwdV, fwdB, fwdE, hR, ho]
  rw [hE.1] at c5 c6; rw [hE.2.1, hE.2.2.1, hE.2.2.2] at c7; rw [hR] at c8 c9
  clear hE hN hB hR
  generalize nextE p u o = NE at *; generalize beginE p u o = BE at *; generalize endE p u o = EE at *; generalize lessB p u o a b c = LL at *
  unfold progV at *
  have hob : (o == 0) = false := by simp [ho]
  clear ho
  have C1 := Lib.hid c1; clear c1
  have C2 := Lib.hid c2; clear c2
  have C3 := Lib.hid c3; clear c3
  have C4 := Lib.hid c4; clear c4
  have C5 := Lib.hid c5; clear c5
  have C6 := Lib.hid c6; clear c6
  have C7 := Lib.hid c7; clear c7
  have C8 := Lib.hid c8; clear c8
  have C9 := Lib.hid c9; clear c9
  have C10 := Lib.hid c10; clear c10
  have C11 := Lib.hid c11; clear c11
  have hu := Up.refl w
  go_enter Try.func3, Try.ntmps3
  go_upto_region 1 with fail
  have ra := (RowAt.made w 23 [.int .i64 p, .int .i64 u, .int .i64 o]).alloc (.cells #[.int .i64 a, .int .i64 b, .int .i64 c] 23)
  have rb := (RowAt.made (w.alloc (.cells #[.int .i64 p, .int .i64 u, .int .i64 o] 23)) 23 [.int .i64 a, .int .i64 b, .int .i64 c])
  simp at ra rb
  replace hu := (hu.alloc (.cells #[.int .i64 p, .int .i64 u, .int .i64 o] 23)).alloc (.cells #[.int .i64 a, .int .i64 b, .int .i64 c] 23)
  generalize (w.alloc (.cells #[.int .i64 p, .int .i64 u, .int .i64 o] 23)).alloc (.cells #[.int .i64 a, .int .i64 b, .int .i64 c] 23) = x0 at *
  obtain ⟨a0, a1, a2, -⟩ := ra.c3
  go_upto_region 2 with (first | ((with_reducible refine (C1.out _).mono ?_); rintro e wv0 ⟨rfl, hw⟩; replace ra := ra.up hw; replace rb := rb.up hw; replace hu := hu.next hw; clear hw))
  clear a0 a1 a2
  have r5 := RowAt.made wv0 23 [.int .i64 nx, .int .i64 ny, .int .i64 nz]
  replace hu := hu.alloc (.cells #[.int .i64 nx, .int .i64 ny, .int .i64 nz] 23)
  replace ra := ra.alloc (.cells #[.int .i64 nx, .int .i64 ny, .int .i64 nz] 23)
  replace rb := rb.alloc (.cells #[.int .i64 nx, .int .i64 ny, .int .i64 nz] 23)
  generalize wv0.heap.size = gv0 at *
  generalize wv0.alloc (.cells #[.int .i64 nx, .int .i64 ny, .int .i64 nz] 23) = xv0 at *
  obtain ⟨a0, a1, a2, -⟩ := ra.c3
  go_upto_region 3 with (first | ((with_reducible refine (C13.out _ _ _ _).mono ?_); rintro e wu ⟨rfl, hw⟩; replace ra := ra.up hw; replace rb := rb.up hw; replace r5 := r5.up hw; replace hu := hu.next hw; clear hw) | ((with_reducible refine (C2.out _).mono ?_); rintro e wv1 ⟨rfl, hw⟩; replace ra := ra.up hw; replace rb := rb.up hw; replace r5 := r5.up hw; replace hu := hu.next hw; clear hw))
  clear a0 a1 a2
  have r7 := RowAt.made wv1 27 [.int .i64 nx, .int .i64 ny, .int .i64 nz]
  replace hu := hu.alloc (.cells #[.int .i64 nx, .int .i64 ny, .int .i64 nz] 27)
  replace ra := ra.alloc (.cells #[.int .i64 nx, .int .i64 ny, .int .i64 nz] 27)
  replace rb := rb.alloc (.cells #[.int .i64 nx, .int .i64 ny, .int .i64 nz] 27)
  replace r5 := r5.alloc (.cells #[.int .i64 nx, .int .i64 ny, .int .i64 nz] 27)
  generalize wv1.heap.size = gv1 at *
  generalize wv1.alloc (.cells #[.int .i64 nx, .int .i64 ny, .int .i64 nz] 27) = xv1 at *
  obtain ⟨a0, a1, a2, -⟩ := ra.c3
  go_upto_region 4 with (first | ((with_reducible refine (C3.out _).mono ?_); rintro e wv2 ⟨rfl, hw⟩; replace ra := ra.up hw; replace rb := rb.up hw; replace r5 := r5.up hw; replace r7 := r7.up hw; replace hu := hu.next hw; clear hw))
  clear a0 a1 a2
  have r9 := RowAt.made wv2 23 [.int .i64 bx, .int .i64 by', .int .i64 bz]
  replace hu := hu.alloc (.cells #[.int .i64 bx, .int .i64 by', .int .i64 bz] 23)
  replace ra := ra.alloc (.cells #[.int .i64 bx, .int .i64 by', .int .i64 bz] 23)
  replace rb := rb.alloc (.cells #[.int .i64 bx, .int .i64 by', .int .i64 bz] 23)
  replace r5 := r5.alloc (.cells #[.int .i64 bx, .int .i64 by', .int .i64 bz] 23)
  replace r7 := r7.alloc (.cells #[.int .i64 bx, .int .i64 by', .int .i64 bz] 23)
  generalize wv2.heap.size = gv2 at *
  generalize wv2.alloc (.cells #[.int .i64 bx, .int .i64 by', .int .i64 bz] 23) = xv2 at *
  obtain ⟨a0, a1, a2, -⟩ := ra.c3
  go_upto_region 5 with (first | ((with_reducible refine (C13.out _ _ _ _).mono ?_); rintro e wu ⟨rfl, hw⟩; replace ra := ra.up hw; replace rb := rb.up hw; replace r5 := r5.up hw; replace r7 := r7.up hw; replace r9 := r9.up hw; replace hu := hu.next hw; clear hw) | ((with_reducible refine (C4.out _).mono ?_); rintro e wv3 ⟨rfl, hw⟩; replace ra := ra.up hw; replace rb := rb.up hw; replace r5 := r5.up hw; replace r7 := r7.up hw; replace r9 := r9.up hw; replace hu := hu.next hw; clear hw))
  clear a0 a1 a2
  have r11 := RowAt.made wv3 27 [.int .i64 bx, .int .i64 by', .int .i64 bz]
  replace hu := hu.alloc (.cells #[.int .i64 bx, .int .i64 by', .int .i64 bz] 27)
  replace ra := ra.alloc (.cells #[.int .i64 bx, .int .i64 by', .int .i64 bz] 27)
  replace rb := rb.alloc (.cells #[.int .i64 bx, .int .i64 by', .int .i64 bz] 27)
  replace r5 := r5.alloc (.cells #[.int .i64 bx, .int .i64 by', .int .i64 bz] 27)
  replace r7 := r7.alloc (.cells #[.int .i64 bx, .int .i64 by', .int .i64 bz] 27)
  replace r9 := r9.alloc (.cells #[.int .i64 bx, .int .i64 by', .int .i64 bz] 27)
  generalize wv3.heap.size = gv3 at *
  generalize wv3.alloc (.cells #[.int .i64 bx, .int .i64 by', .int .i64 bz] 27) = xv3 at *
  obtain ⟨a0, a1, a2, -⟩ := ra.c3
  go_upto_region 6 with (first | ((with_reducible refine (C5.out _).mono ?_); rintro e wv4 ⟨rfl, hw⟩; replace ra := ra.up hw; replace rb := rb.up hw; replace r5 := r5.up hw; replace r7 := r7.up hw; replace r9 := r9.up hw; replace r11 := r11.up hw; replace hu := hu.next hw; clear hw))
  clear a0 a1 a2
  have r13 := RowAt.made wv4 23 [.int .i64 p, .int .i64 o, .int .i64 0]
  replace hu := hu.alloc (.cells #[.int .i64 p, .int .i64 o, .int .i64 0] 23)
  replace ra := ra.alloc (.cells #[.int .i64 p, .int .i64 o, .int .i64 0] 23)
  replace rb := rb.alloc (.cells #[.int .i64 p, .int .i64 o, .int .i64 0] 23)
  replace r5 := r5.alloc (.cells #[.int .i64 p, .int .i64 o, .int .i64 0] 23)
  replace r7 := r7.alloc (.cells #[.int .i64 p, .int .i64 o, .int .i64 0] 23)
  replace r9 := r9.alloc (.cells #[.int .i64 p, .int .i64 o, .int .i64 0] 23)
  replace r11 := r11.alloc (.cells #[.int .i64 p, .int .i64 o, .int .i64 0] 23)
  generalize wv4.heap.size = gv4 at *
  generalize wv4.alloc (.cells #[.int .i64 p, .int .i64 o, .int .i64 0] 23) = xv4 at *
  obtain ⟨a0, a1, a2, -⟩ := ra.c3
  go_upto_region 7 with (first | ((with_reducible refine (C13.out _ _ _ _).mono ?_); rintro e wu ⟨rfl, hw⟩; replace ra := ra.up hw; replace rb := rb.up hw; replace r5 := r5.up hw; replace r7 := r7.up hw; replace r9 := r9.up hw; replace r11 := r11.up hw; replace r13 := r13.up hw; replace hu := hu.next hw; clear hw) | ((with_reducible refine (C6.out _).mono ?_); rintro e wv5 ⟨rfl, hw⟩; replace ra := ra.up hw; replace rb := rb.up hw; replace r5 := r5.up hw; replace r7 := r7.up hw; replace r9 := r9.up hw; replace r11 := r11.up hw; replace r13 := r13.up hw; replace hu := hu.next hw; clear hw))
  clear a0 a1 a2
  have r15 := RowAt.made wv5 27 [.int .i64 p, .int .i64 o, .int .i64 0]
  replace hu := hu.alloc (.cells #[.int .i64 p, .int .i64 o, .int .i64 0] 27)
  replace ra := ra.alloc (.cells #[.int .i64 p, .int .i64 o, .int .i64 0] 27)
  replace rb := rb.alloc (.cells #[.int .i64 p, .int .i64 o, .int .i64 0] 27)
  replace r5 := r5.alloc (.cells #[.int .i64 p, .int .i64 o, .int .i64 0] 27)
  replace r7 := r7.alloc (.cells #[.int .i64 p, .int .i64 o, .int .i64 0] 27)
  replace r9 := r9.alloc (.cells #[.int .i64 p, .int .i64 o, .int .i64 0] 27)
  replace r11 := r11.alloc (.cells #[.int .i64 p, .int .i64 o, .int .i64 0] 27)
  replace r13 := r13.alloc (.cells #[.int .i64 p, .int .i64 o, .int .i64 0] 27)
  generalize wv5.heap.size = gv5 at *
  generalize wv5.alloc (.cells #[.int .i64 p, .int .i64 o, .int .i64 0] 27) = xv5 at *
  obtain ⟨a0, a1, a2, -⟩ := ra.c3
  go_upto_region 8 with (first | ((with_reducible refine (C7.out _).mono ?_); rintro e wv6 ⟨rfl, hw⟩; replace ra := ra.up hw; replace rb := rb.up hw; replace r5 := r5.up hw; replace r7 := r7.up hw; replace r9 := r9.up hw; replace r11 := r11.up hw; replace r13 := r13.up hw; replace r15 := r15.up hw; replace hu := hu.next hw; clear hw))
  clear a0 a1 a2
  have r17 := RowAt.made wv6 23 [.int .i64 p, .int .i64 o, .int .i64 0]
  replace hu := hu.alloc (.cells #[.int .i64 p, .int .i64 o, .int .i64 0] 23)
  replace ra := ra.alloc (.cells #[.int .i64 p, .int .i64 o, .int .i64 0] 23)
  replace rb := rb.alloc (.cells #[.int .i64 p, .int .i64 o, .int .i64 0] 23)
  replace r5 := r5.alloc (.cells #[.int .i64 p, .int .i64 o, .int .i64 0] 23)
  replace r7 := r7.alloc (.cells #[.int .i64 p, .int .i64 o, .int .i64 0] 23)
  replace r9 := r9.alloc (.cells #[.int .i64 p, .int .i64 o, .int .i64 0] 23)
  replace r11 := r11.alloc (.cells #[.int .i64 p, .int .i64 o, .int .i64 0] 23)
  replace r13 := r13.alloc (.cells #[.int .i64 p, .int .i64 o, .int .i64 0] 23)
  replace r15 := r15.alloc (.cells #[.int .i64 p, .int .i64 o, .int .i64 0] 23)
  generalize wv6.heap.size = gv6 at *
  generalize wv6.alloc (.cells #[.int .i64 p, .int .i64 o, .int .i64 0] 23) = xv6 at *
  obtain ⟨ra_0, ra_1, ra_2, -⟩ := ra.c3; obtain ⟨rb_0, rb_1, rb_2, -⟩ := rb.c3; obtain ⟨r5_0, r5_1, r5_2, -⟩ := r5.c3; obtain ⟨r7_0, r7_1, r7_2, -⟩ := r7.c3; obtain ⟨r9_0, r9_1, r9_2, -⟩ := r9.c3; obtain ⟨r11_0, r11_1, r11_2, -⟩ := r11.c3; obtain ⟨r13_0, r13_1, r13_2, -⟩ := r13.c3; obtain ⟨r15_0, r15_1, r15_2, -⟩ := r15.c3; obtain ⟨r17_0, r17_1, r17_2, -⟩ := r17.c3
  have lra_0 := Later.cell_of ra_0; have lra_1 := Later.cell_of ra_1; have lra_2 := Later.cell_of ra_2
  have lrb_0 := Later.cell_of rb_0; have lrb_1 := Later.cell_of rb_1; have lrb_2 := Later.cell_of rb_2
  have lr5_0 := Later.cell_of r5_0; have lr5_1 := Later.cell_of r5_1; have lr5_2 := Later.cell_of r5_2
  have lr7_0 := Later.cell_of r7_0; have lr7_1 := Later.cell_of r7_1; have lr7_2 := Later.cell_of r7_2
  have lr9_0 := Later.cell_of r9_0; have lr9_1 := Later.cell_of r9_1; have lr9_2 := Later.cell_of r9_2
  have lr11_0 := Later.cell_of r11_0; have lr11_1 := Later.cell_of r11_1; have lr11_2 := Later.cell_of r11_2
  have lr13_0 := Later.cell_of r13_0; have lr13_1 := Later.cell_of r13_1; have lr13_2 := Later.cell_of r13_2
  have lr15_0 := Later.cell_of r15_0; have lr15_1 := Later.cell_of r15_1; have lr15_2 := Later.cell_of r15_2
  have lr17_0 := Later.cell_of r17_0; have lr17_1 := Later.cell_of r17_1; have lr17_2 := Later.cell_of r17_2
  clear ra_0 ra_1 ra_2 rb_0 rb_1 rb_2 r5_0 r5_1 r5_2 r7_0 r7_1 r7_2 r9_0 r9_1 r9_2 r11_0 r11_1 r11_2 r13_0 r13_1 r13_2 r15_0 r15_1 r15_2 r17_0 r17_1 r17_2
  have hne := later_ne xv6
  refine wp_region_later (by kernel_rfl) (by kernel_rfl) ?_
  repeat (go_big_quiet_step (first | (go_at_call 10; with_reducible exact Calls.later (C13.out _ _ _ _)) | (go_at_call 16; with_reducible exact Calls.later (C8.out _)) | (go_at_call 17; with_reducible exact Calls.later (C9.out _)) | (go_at_call 18; with_reducible exact Calls.later (C10.out _)) | (go_at_call 19; with_reducible exact Calls.later (C11.out _)) | (go_at_call 20; with_reducible exact Calls.later (C12.out _))))
  refine wpQuiet_nil ?_
  intro w9 hw9
  obtain ⟨u9, rfl⟩ := hw9
  replace ra := ra.up u9.up
  replace rb := rb.up u9.up
  replace r5 := r5.up u9.up
  replace r7 := r7.up u9.up
  replace r9 := r9.up u9.up
  replace r11 := r11.up u9.up
  replace r13 := r13.up u9.up
  replace r15 := r15.up u9.up
  replace r17 := r17.up u9.up
  replace hu := hu.trans u9.up
  clear hne lra_0 lra_1 lra_2 lrb_0 lrb_1 lrb_2 lr5_0 lr5_1 lr5_2 lr7_0 lr7_1 lr7_2 lr9_0 lr9_1 lr9_2 lr11_0 lr11_1 lr11_2 lr13_0 lr13_1 lr13_2 lr15_0 lr15_1 lr15_2 lr17_0 lr17_1 lr17_2
  generalize u9.world = w9 at *
  obtain ⟨ra_0, ra_1, ra_2, -⟩ := ra.c3; obtain ⟨rb_0, rb_1, rb_2, -⟩ := rb.c3; obtain ⟨r5_0, r5_1, r5_2, -⟩ := r5.c3; obtain ⟨r7_0, r7_1, r7_2, -⟩ := r7.c3; obtain ⟨r9_0, r9_1, r9_2, -⟩ := r9.c3; obtain ⟨r11_0, r11_1, r11_2, -⟩ := r11.c3; obtain ⟨r13_0, r13_1, r13_2, -⟩ := r13.c3; obtain ⟨r15_0, r15_1, r15_2, -⟩ := r15.c3; obtain ⟨r17_0, r17_1, r17_2, -⟩ := r17.c3
  go_upto_region 14 with (first | ((with_reducible refine (C13.out _ _ _ _).mono ?_); rintro e wz ⟨rfl, hw⟩; replace ra := ra.up hw; replace rb := rb.up hw; replace r5 := r5.up hw; replace r7 := r7.up hw; replace r9 := r9.up hw; replace r11 := r11.up hw; replace r13 := r13.up hw; replace r15 := r15.up hw; replace r17 := r17.up hw; replace hu := hu.next hw; clear hw; obtain ⟨ra_0, ra_1, ra_2, -⟩ := ra.c3; obtain ⟨rb_0, rb_1, rb_2, -⟩ := rb.c3; obtain ⟨r5_0, r5_1, r5_2, -⟩ := r5.c3; obtain ⟨r7_0, r7_1, r7_2, -⟩ := r7.c3; obtain ⟨r9_0, r9_1, r9_2, -⟩ := r9.c3; obtain ⟨r11_0, r11_1, r11_2, -⟩ := r11.c3; obtain ⟨r13_0, r13_1, r13_2, -⟩ := r13.c3; obtain ⟨r15_0, r15_1, r15_2, -⟩ := r15.c3; obtain ⟨r17_0, r17_1, r17_2, -⟩ := r17.c3) | ((with_reducible refine (C9.out _).mono ?_); rintro e wz ⟨rfl, hw⟩; replace ra := ra.up hw; replace rb := rb.up hw; replace r5 := r5.up hw; replace r7 := r7.up hw; replace r9 := r9.up hw; replace r11 := r11.up hw; replace r13 := r13.up hw; replace r15 := r15.up hw; replace r17 := r17.up hw; replace hu := hu.next hw; clear hw; obtain ⟨ra_0, ra_1, ra_2, -⟩ := ra.c3; obtain ⟨rb_0, rb_1, rb_2, -⟩ := rb.c3; obtain ⟨r5_0, r5_1, r5_2, -⟩ := r5.c3; obtain ⟨r7_0, r7_1, r7_2, -⟩ := r7.c3; obtain ⟨r9_0, r9_1, r9_2, -⟩ := r9.c3; obtain ⟨r11_0, r11_1, r11_2, -⟩ := r11.c3; obtain ⟨r13_0, r13_1, r13_2, -⟩ := r13.c3; obtain ⟨r15_0, r15_1, r15_2, -⟩ := r15.c3; obtain ⟨r17_0, r17_1, r17_2, -⟩ := r17.c3))
  have lra_0 := Later.cell_of ra_0; have lra_1 := Later.cell_of ra_1; have lra_2 := Later.cell_of ra_2
  have lrb_0 := Later.cell_of rb_0; have lrb_1 := Later.cell_of rb_1; have lrb_2 := Later.cell_of rb_2
  have lr5_0 := Later.cell_of r5_0; have lr5_1 := Later.cell_of r5_1; have lr5_2 := Later.cell_of r5_2
  have lr7_0 := Later.cell_of r7_0; have lr7_1 := Later.cell_of r7_1; have lr7_2 := Later.cell_of r7_2
  have lr9_0 := Later.cell_of r9_0; have lr9_1 := Later.cell_of r9_1; have lr9_2 := Later.cell_of r9_2
  have lr11_0 := Later.cell_of r11_0; have lr11_1 := Later.cell_of r11_1; have lr11_2 := Later.cell_of r11_2
  have lr13_0 := Later.cell_of r13_0; have lr13_1 := Later.cell_of r13_1; have lr13_2 := Later.cell_of r13_2
  have lr15_0 := Later.cell_of r15_0; have lr15_1 := Later.cell_of r15_1; have lr15_2 := Later.cell_of r15_2
  have lr17_0 := Later.cell_of r17_0; have lr17_1 := Later.cell_of r17_1; have lr17_2 := Later.cell_of r17_2
  clear ra_0 ra_1 ra_2 rb_0 rb_1 rb_2 r5_0 r5_1 r5_2 r7_0 r7_1 r7_2 r9_0 r9_1 r9_2 r11_0 r11_1 r11_2 r13_0 r13_1 r13_2 r15_0 r15_1 r15_2 r17_0 r17_1 r17_2
  have hne := later_ne wz
  refine wp_region_later (by kernel_rfl) (by kernel_rfl) ?_
  repeat (go_big_quiet_step (first | (go_at_call 10; with_reducible exact Calls.later (C13.out _ _ _ _)) | (go_at_call 16; with_reducible exact Calls.later (C8.out _)) | (go_at_call 17; with_reducible exact Calls.later (C9.out _)) | (go_at_call 18; with_reducible exact Calls.later (C10.out _)) | (go_at_call 19; with_reducible exact Calls.later (C11.out _)) | (go_at_call 20; with_reducible exact Calls.later (C12.out _))))
  refine wpQuiet_nil ?_
  intro w9 hw9
  obtain ⟨u9, rfl⟩ := hw9
  replace hu := hu.trans u9.up
  generalize u9.world = w9 at *
  go_wp2_with fail
  go_ret
  exact ⟨rfl, hu⟩

theorem goes_law (p u o : Int) (h1 : (Lit.int .i64 p).wf = true ∧ (Lit.int .i64 u).wf = true ∧ (Lit.int .i64 o).wf = true) (a b c : Int) (h2 : (Lit.int .i64 a).wf = true ∧ (Lit.int .i64 b).wf = true ∧ (Lit.int .i64 c).wf = true) (w : World) :
    Calls Try.prog 3 #[progV p u o, progV a b c] w fun e w' => e = .returned (.bool true) ∧ Below w.heap.size w w' := by
  have := bounds_i64 h1.2.1; have := bounds_i64 h2.2.1
  cases hR : rightB p u o
  · exact goes_wrong p u o a b c hR w (by omega) (by omega)
  · by_cases ho : o = 0
    · subst ho; exact goes_still p u a b c hR w (by omega) (by omega)
    · exact goes_open p u o a b c hR ho w (by omega) (by omega)
end Go.Proofs.Ytbjnklgicakndaa
