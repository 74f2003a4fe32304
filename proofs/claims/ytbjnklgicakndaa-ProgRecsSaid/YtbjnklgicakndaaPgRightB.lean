import Derived.Test.YtbjnklgicakndaaPgWalk1
namespace Go.Proofs.Ytbjnklgicakndaa
open Go.RowKit Bw
set_option linter.unusedVariables false


set_option maxHeartbeats 4000000 in
set_option maxRecDepth 100000 in
theorem right_neg_neg_next (p : Int) (h1 : ¬ 0 ≤ p) (hw : worksB p = true) (u v : Int) (hu1 : -9223372036854775808 ≤ u) (hv : IntKind.i64.wrap (u + 1) = v) (h2 : ¬ 0 ≤ u) (h3 : ¬ v = 0) (w : World) :
    Calls Try.prog 16 #[progV p u v] w fun e w' => e = .returned (.bool (rightB p u v)) ∧ Below w.heap.size w w' := by
  have C1 := Lib.hid (prog_works p u v)
  rw [hw] at C1
  have HW := Lib.hid hw; clear hw
  have HV := Lib.hid hv; clear hv
  unfold progV at *
  go_enter Try.func16, Try.ntmps16
  go_upto_region 1 with fail
  have hc0 : (w.alloc (.cells #[.int .i64 p, .int .i64 u, .int .i64 v] 23)).cell? ⟨w.heap.size, 0, none⟩ = some (.int .i64 p) := World.cell?_alloc_mark w _ _ (0, 0) 0
  have hc1 : (w.alloc (.cells #[.int .i64 p, .int .i64 u, .int .i64 v] 23)).cell? ⟨w.heap.size, 1, none⟩ = some (.int .i64 u) := World.cell?_alloc_mark w _ _ (0, 0) 1
  have hc2 : (w.alloc (.cells #[.int .i64 p, .int .i64 u, .int .i64 v] 23)).cell? ⟨w.heap.size, 2, none⟩ = some (.int .i64 v) := World.cell?_alloc_mark w _ _ (0, 0) 2
  have hu : Up w (w.alloc (.cells #[.int .i64 p, .int .i64 u, .int .i64 v] 23)) := (Up.refl w).alloc _
  generalize w.alloc (.cells #[.int .i64 p, .int .i64 u, .int .i64 v] 23) = w1 at *
  generalize hg : w.heap.size = g at *
  have l0 := Later.cell_of hc0
  have l1 := Later.cell_of hc1
  have l2 := Later.cell_of hc2
  clear hc0 hc1 hc2
  have hne := later_ne w1
  have hv := HV.out
  have h3b : (v == 0) = false := by rw [beq_eq_false_iff_ne]; exact h3
  refine wp_region_later_tail 44 (by kernel_rfl) (by kernel_rfl) ?_
  simp only [List.take_succ_cons, List.take_zero, List.drop_succ_cons, List.drop_zero]
  repeat (go_big_quiet_step ((go_at_call 29; exact Calls.later (C1.out _))))
  refine wpQuiet_nil ?_
  intro w9 hw9
  obtain ⟨u9, rfl⟩ := hw9
  clear hv
  clear hne
  replace hu := hu.trans u9.up
  clear l0 l1 l2
  generalize u9.world = w9 at *
  go_wp2_with (first
    | (with_reducible refine (all_four _ _ _ _ _ _).mono ?_; rintro e w2 ⟨rfl, hw2⟩; replace hu := hu.next hw2; clear hw2))
  go_ret
  refine ⟨?_, hu⟩
  refine congrArg (fun b => Ending.returned (.bool b)) (?_ : _ = rightB p u v)
  have hw := HW.out
  by_cases hb : u < 1099511627776
  · have hv2 : v = u + 1 := by rw [← HV.out, IntWalk.i64_in _ ⟨by omega, by omega⟩]
    subst hv2
    simp only [rightB, hw]
    rw [Bool.eq_iff_iff]
    simp
    try omega
  · simp only [rightB, hw]
    rw [Bool.eq_iff_iff]
    simp
    try omega


set_option maxHeartbeats 4000000 in
set_option maxRecDepth 100000 in
theorem right_neg_pos_next (p : Int) (h1 : ¬ 0 ≤ p) (hw : worksB p = true) (u v : Int) (hu1 : -9223372036854775808 ≤ u) (hv : IntKind.i64.wrap (u + 1) = v) (h2 : 0 ≤ u) (h3 : ¬ v = 0) (w : World) :
    Calls Try.prog 16 #[progV p u v] w fun e w' => e = .returned (.bool (rightB p u v)) ∧ Below w.heap.size w w' := by
  have C1 := Lib.hid (prog_works p u v)
  rw [hw] at C1
  have HW := Lib.hid hw; clear hw
  have HV := Lib.hid hv; clear hv
  unfold progV at *
  go_enter Try.func16, Try.ntmps16
  go_upto_region 1 with fail
  have hc0 : (w.alloc (.cells #[.int .i64 p, .int .i64 u, .int .i64 v] 23)).cell? ⟨w.heap.size, 0, none⟩ = some (.int .i64 p) := World.cell?_alloc_mark w _ _ (0, 0) 0
  have hc1 : (w.alloc (.cells #[.int .i64 p, .int .i64 u, .int .i64 v] 23)).cell? ⟨w.heap.size, 1, none⟩ = some (.int .i64 u) := World.cell?_alloc_mark w _ _ (0, 0) 1
  have hc2 : (w.alloc (.cells #[.int .i64 p, .int .i64 u, .int .i64 v] 23)).cell? ⟨w.heap.size, 2, none⟩ = some (.int .i64 v) := World.cell?_alloc_mark w _ _ (0, 0) 2
  have hu : Up w (w.alloc (.cells #[.int .i64 p, .int .i64 u, .int .i64 v] 23)) := (Up.refl w).alloc _
  generalize w.alloc (.cells #[.int .i64 p, .int .i64 u, .int .i64 v] 23) = w1 at *
  generalize hg : w.heap.size = g at *
  have l0 := Later.cell_of hc0
  have l1 := Later.cell_of hc1
  have l2 := Later.cell_of hc2
  clear hc0 hc1 hc2
  have hne := later_ne w1
  have hv := HV.out
  have h3b : (v == 0) = false := by rw [beq_eq_false_iff_ne]; exact h3
  refine wp_region_later_tail 44 (by kernel_rfl) (by kernel_rfl) ?_
  simp only [List.take_succ_cons, List.take_zero, List.drop_succ_cons, List.drop_zero]
  repeat (go_big_quiet_step ((go_at_call 29; exact Calls.later (C1.out _))))
  refine wpQuiet_nil ?_
  intro w9 hw9
  obtain ⟨u9, rfl⟩ := hw9
  clear hv
  clear hne
  replace hu := hu.trans u9.up
  clear l0 l1 l2
  generalize u9.world = w9 at *
  go_wp2_with (first
    | (with_reducible refine (all_four _ _ _ _ _ _).mono ?_; rintro e w2 ⟨rfl, hw2⟩; replace hu := hu.next hw2; clear hw2))
  go_ret
  refine ⟨?_, hu⟩
  refine congrArg (fun b => Ending.returned (.bool b)) (?_ : _ = rightB p u v)
  have hw := HW.out
  by_cases hb : u < 1099511627776
  · have hv2 : v = u + 1 := by rw [← HV.out, IntWalk.i64_in _ ⟨by omega, by omega⟩]
    subst hv2
    simp only [rightB, hw]
    rw [Bool.eq_iff_iff]
    simp
    try omega
  · simp only [rightB, hw]
    rw [Bool.eq_iff_iff]
    simp
    try omega


set_option maxHeartbeats 4000000 in
set_option maxRecDepth 100000 in
theorem right_works_neg_next (p : Int) (h1 : 0 ≤ p) (hw : worksB p = true) (u v : Int) (hu1 : -9223372036854775808 ≤ u) (hv : IntKind.i64.wrap (u + 1) = v) (h2 : ¬ 0 ≤ u) (h3 : ¬ v = 0) (w : World) :
    Calls Try.prog 16 #[progV p u v] w fun e w' => e = .returned (.bool (rightB p u v)) ∧ Below w.heap.size w w' := by
  have C1 := Lib.hid (prog_works p u v)
  rw [hw] at C1
  have HW := Lib.hid hw; clear hw
  have HV := Lib.hid hv; clear hv
  unfold progV at *
  go_enter Try.func16, Try.ntmps16
  go_upto_region 1 with fail
  have hc0 : (w.alloc (.cells #[.int .i64 p, .int .i64 u, .int .i64 v] 23)).cell? ⟨w.heap.size, 0, none⟩ = some (.int .i64 p) := World.cell?_alloc_mark w _ _ (0, 0) 0
  have hc1 : (w.alloc (.cells #[.int .i64 p, .int .i64 u, .int .i64 v] 23)).cell? ⟨w.heap.size, 1, none⟩ = some (.int .i64 u) := World.cell?_alloc_mark w _ _ (0, 0) 1
  have hc2 : (w.alloc (.cells #[.int .i64 p, .int .i64 u, .int .i64 v] 23)).cell? ⟨w.heap.size, 2, none⟩ = some (.int .i64 v) := World.cell?_alloc_mark w _ _ (0, 0) 2
  have hu : Up w (w.alloc (.cells #[.int .i64 p, .int .i64 u, .int .i64 v] 23)) := (Up.refl w).alloc _
  generalize w.alloc (.cells #[.int .i64 p, .int .i64 u, .int .i64 v] 23) = w1 at *
  generalize hg : w.heap.size = g at *
  have l0 := Later.cell_of hc0
  have l1 := Later.cell_of hc1
  have l2 := Later.cell_of hc2
  clear hc0 hc1 hc2
  have hne := later_ne w1
  have hv := HV.out
  have h3b : (v == 0) = false := by rw [beq_eq_false_iff_ne]; exact h3
  refine wp_region_later_tail 44 (by kernel_rfl) (by kernel_rfl) ?_
  simp only [List.take_succ_cons, List.take_zero, List.drop_succ_cons, List.drop_zero]
  repeat (go_big_quiet_step ((go_at_call 29; exact Calls.later (C1.out _))))
  refine wpQuiet_nil ?_
  intro w9 hw9
  obtain ⟨u9, rfl⟩ := hw9
  clear hv
  clear hne
  replace hu := hu.trans u9.up
  clear l0 l1 l2
  generalize u9.world = w9 at *
  go_wp2_with (first
    | (with_reducible refine (all_four _ _ _ _ _ _).mono ?_; rintro e w2 ⟨rfl, hw2⟩; replace hu := hu.next hw2; clear hw2))
  go_ret
  refine ⟨?_, hu⟩
  refine congrArg (fun b => Ending.returned (.bool b)) (?_ : _ = rightB p u v)
  have hw := HW.out
  by_cases hb : u < 1099511627776
  · have hv2 : v = u + 1 := by rw [← HV.out, IntWalk.i64_in _ ⟨by omega, by omega⟩]
    subst hv2
    simp only [rightB, hw]
    rw [Bool.eq_iff_iff]
    simp
    try omega
  · simp only [rightB, hw]
    rw [Bool.eq_iff_iff]
    simp
    try omega


set_option maxHeartbeats 4000000 in
set_option maxRecDepth 100000 in
theorem right_works_pos_next (p : Int) (h1 : 0 ≤ p) (hw : worksB p = true) (u v : Int) (hu1 : -9223372036854775808 ≤ u) (hv : IntKind.i64.wrap (u + 1) = v) (h2 : 0 ≤ u) (h3 : ¬ v = 0) (w : World) :
    Calls Try.prog 16 #[progV p u v] w fun e w' => e = .returned (.bool (rightB p u v)) ∧ Below w.heap.size w w' := by
  have C1 := Lib.hid (prog_works p u v)
  rw [hw] at C1
  have HW := Lib.hid hw; clear hw
  have HV := Lib.hid hv; clear hv
  unfold progV at *
  go_enter Try.func16, Try.ntmps16
  go_upto_region 1 with fail
  have hc0 : (w.alloc (.cells #[.int .i64 p, .int .i64 u, .int .i64 v] 23)).cell? ⟨w.heap.size, 0, none⟩ = some (.int .i64 p) := World.cell?_alloc_mark w _ _ (0, 0) 0
  have hc1 : (w.alloc (.cells #[.int .i64 p, .int .i64 u, .int .i64 v] 23)).cell? ⟨w.heap.size, 1, none⟩ = some (.int .i64 u) := World.cell?_alloc_mark w _ _ (0, 0) 1
  have hc2 : (w.alloc (.cells #[.int .i64 p, .int .i64 u, .int .i64 v] 23)).cell? ⟨w.heap.size, 2, none⟩ = some (.int .i64 v) := World.cell?_alloc_mark w _ _ (0, 0) 2
  have hu : Up w (w.alloc (.cells #[.int .i64 p, .int .i64 u, .int .i64 v] 23)) := (Up.refl w).alloc _
  generalize w.alloc (.cells #[.int .i64 p, .int .i64 u, .int .i64 v] 23) = w1 at *
  generalize hg : w.heap.size = g at *
  have l0 := Later.cell_of hc0
  have l1 := Later.cell_of hc1
  have l2 := Later.cell_of hc2
  clear hc0 hc1 hc2
  have hne := later_ne w1
  have hv := HV.out
  have h3b : (v == 0) = false := by rw [beq_eq_false_iff_ne]; exact h3
  refine wp_region_later_tail 44 (by kernel_rfl) (by kernel_rfl) ?_
  simp only [List.take_succ_cons, List.take_zero, List.drop_succ_cons, List.drop_zero]
  repeat (go_big_quiet_step ((go_at_call 29; exact Calls.later (C1.out _))))
  refine wpQuiet_nil ?_
  intro w9 hw9
  obtain ⟨u9, rfl⟩ := hw9
  clear hv
  clear hne
  replace hu := hu.trans u9.up
  clear l0 l1 l2
  generalize u9.world = w9 at *
  go_wp2_with (first
    | (with_reducible refine (all_four _ _ _ _ _ _).mono ?_; rintro e w2 ⟨rfl, hw2⟩; replace hu := hu.next hw2; clear hw2))
  go_ret
  refine ⟨?_, hu⟩
  refine congrArg (fun b => Ending.returned (.bool b)) (?_ : _ = rightB p u v)
  have hw := HW.out
  by_cases hb : u < 1099511627776
  · have hv2 : v = u + 1 := by rw [← HV.out, IntWalk.i64_in _ ⟨by omega, by omega⟩]
    subst hv2
    simp only [rightB, hw]
    rw [Bool.eq_iff_iff]
    simp
    try omega
  · simp only [rightB, hw]
    rw [Bool.eq_iff_iff]
    simp
    try omega


set_option maxHeartbeats 4000000 in
set_option maxRecDepth 100000 in
theorem right_rest_neg_next (p : Int) (h1 : 0 ≤ p) (hw : worksB p = false) (u v : Int) (hu1 : -9223372036854775808 ≤ u) (hv : IntKind.i64.wrap (u + 1) = v) (h2 : ¬ 0 ≤ u) (h6 : ¬ u = 0) (h3 : ¬ v = 0) (w : World) :
    Calls Try.prog 16 #[progV p u v] w fun e w' => e = .returned (.bool (rightB p u v)) ∧ Below w.heap.size w w' := by
  have C1 := Lib.hid (prog_works p u v)
  rw [hw] at C1
  have HW := Lib.hid hw; clear hw
  have HV := Lib.hid hv; clear hv
  unfold progV at *
  go_enter Try.func16, Try.ntmps16
  go_upto_region 1 with fail
  have hc0 : (w.alloc (.cells #[.int .i64 p, .int .i64 u, .int .i64 v] 23)).cell? ⟨w.heap.size, 0, none⟩ = some (.int .i64 p) := World.cell?_alloc_mark w _ _ (0, 0) 0
  have hc1 : (w.alloc (.cells #[.int .i64 p, .int .i64 u, .int .i64 v] 23)).cell? ⟨w.heap.size, 1, none⟩ = some (.int .i64 u) := World.cell?_alloc_mark w _ _ (0, 0) 1
  have hc2 : (w.alloc (.cells #[.int .i64 p, .int .i64 u, .int .i64 v] 23)).cell? ⟨w.heap.size, 2, none⟩ = some (.int .i64 v) := World.cell?_alloc_mark w _ _ (0, 0) 2
  have hu : Up w (w.alloc (.cells #[.int .i64 p, .int .i64 u, .int .i64 v] 23)) := (Up.refl w).alloc _
  generalize w.alloc (.cells #[.int .i64 p, .int .i64 u, .int .i64 v] 23) = w1 at *
  generalize hg : w.heap.size = g at *
  have l0 := Later.cell_of hc0
  have l1 := Later.cell_of hc1
  have l2 := Later.cell_of hc2
  clear hc0 hc1 hc2
  have hne := later_ne w1
  have hv := HV.out
  have h3b : (v == 0) = false := by rw [beq_eq_false_iff_ne]; exact h3
  have h6b : (u == 0) = false := by rw [beq_eq_false_iff_ne]; exact h6
  refine wp_region_later_tail 44 (by kernel_rfl) (by kernel_rfl) ?_
  simp only [List.take_succ_cons, List.take_zero, List.drop_succ_cons, List.drop_zero]
  repeat (go_big_quiet_step ((go_at_call 29; exact Calls.later (C1.out _))))
  refine wpQuiet_nil ?_
  intro w9 hw9
  obtain ⟨u9, rfl⟩ := hw9
  clear hv
  clear hne
  replace hu := hu.trans u9.up
  clear l0 l1 l2
  generalize u9.world = w9 at *
  go_wp2_with (first
    | (with_reducible refine (all_four _ _ _ _ _ _).mono ?_; rintro e w2 ⟨rfl, hw2⟩; replace hu := hu.next hw2; clear hw2))
  go_ret
  refine ⟨?_, hu⟩
  refine congrArg (fun b => Ending.returned (.bool b)) (?_ : _ = rightB p u v)
  have hw := HW.out
  by_cases hb : u < 1099511627776
  · have hv2 : v = u + 1 := by rw [← HV.out, IntWalk.i64_in _ ⟨by omega, by omega⟩]
    subst hv2
    simp only [rightB, hw]
    rw [Bool.eq_iff_iff]
    simp
    try omega
  · simp only [rightB, hw]
    rw [Bool.eq_iff_iff]
    simp
    try omega


set_option maxHeartbeats 4000000 in
set_option maxRecDepth 100000 in
theorem right_rest_pos_next (p : Int) (h1 : 0 ≤ p) (hw : worksB p = false) (u v : Int) (hu1 : -9223372036854775808 ≤ u) (hv : IntKind.i64.wrap (u + 1) = v) (h2 : 0 ≤ u) (h6 : ¬ u = 0) (h3 : ¬ v = 0) (w : World) :
    Calls Try.prog 16 #[progV p u v] w fun e w' => e = .returned (.bool (rightB p u v)) ∧ Below w.heap.size w w' := by
  have C1 := Lib.hid (prog_works p u v)
  rw [hw] at C1
  have HW := Lib.hid hw; clear hw
  have HV := Lib.hid hv; clear hv
  unfold progV at *
  go_enter Try.func16, Try.ntmps16
  go_upto_region 1 with fail
  have hc0 : (w.alloc (.cells #[.int .i64 p, .int .i64 u, .int .i64 v] 23)).cell? ⟨w.heap.size, 0, none⟩ = some (.int .i64 p) := World.cell?_alloc_mark w _ _ (0, 0) 0
  have hc1 : (w.alloc (.cells #[.int .i64 p, .int .i64 u, .int .i64 v] 23)).cell? ⟨w.heap.size, 1, none⟩ = some (.int .i64 u) := World.cell?_alloc_mark w _ _ (0, 0) 1
  have hc2 : (w.alloc (.cells #[.int .i64 p, .int .i64 u, .int .i64 v] 23)).cell? ⟨w.heap.size, 2, none⟩ = some (.int .i64 v) := World.cell?_alloc_mark w _ _ (0, 0) 2
  have hu : Up w (w.alloc (.cells #[.int .i64 p, .int .i64 u, .int .i64 v] 23)) := (Up.refl w).alloc _
  generalize w.alloc (.cells #[.int .i64 p, .int .i64 u, .int .i64 v] 23) = w1 at *
  generalize hg : w.heap.size = g at *
  have l0 := Later.cell_of hc0
  have l1 := Later.cell_of hc1
  have l2 := Later.cell_of hc2
  clear hc0 hc1 hc2
  have hne := later_ne w1
  have hv := HV.out
  have h3b : (v == 0) = false := by rw [beq_eq_false_iff_ne]; exact h3
  have h6b : (u == 0) = false := by rw [beq_eq_false_iff_ne]; exact h6
  refine wp_region_later_tail 44 (by kernel_rfl) (by kernel_rfl) ?_
  simp only [List.take_succ_cons, List.take_zero, List.drop_succ_cons, List.drop_zero]
  repeat (go_big_quiet_step ((go_at_call 29; exact Calls.later (C1.out _))))
  refine wpQuiet_nil ?_
  intro w9 hw9
  obtain ⟨u9, rfl⟩ := hw9
  clear hv
  clear hne
  replace hu := hu.trans u9.up
  clear l0 l1 l2
  generalize u9.world = w9 at *
  go_wp2_with (first
    | (with_reducible refine (all_four _ _ _ _ _ _).mono ?_; rintro e w2 ⟨rfl, hw2⟩; replace hu := hu.next hw2; clear hw2))
  go_ret
  refine ⟨?_, hu⟩
  refine congrArg (fun b => Ending.returned (.bool b)) (?_ : _ = rightB p u v)
  have hw := HW.out
  by_cases hb : u < 1099511627776
  · have hv2 : v = u + 1 := by rw [← HV.out, IntWalk.i64_in _ ⟨by omega, by omega⟩]
    subst hv2
    simp only [rightB, hw]
    rw [Bool.eq_iff_iff]
    simp
    try omega
  · simp only [rightB, hw]
    rw [Bool.eq_iff_iff]
    simp
    try omega


set_option maxHeartbeats 4000000 in
set_option maxRecDepth 100000 in
theorem right_rest_zero_next (p : Int) (h1 : 0 ≤ p) (hw : worksB p = false) (w : World) :
    Calls Try.prog 16 #[progV p 0 1] w fun e w' => e = .returned (.bool (rightB p 0 1)) ∧ Below w.heap.size w w' := by
  have C1 := Lib.hid (prog_works p 0 1)
  rw [hw] at C1
  have HW := Lib.hid hw; clear hw
  unfold progV at *
  go_enter Try.func16, Try.ntmps16
  go_upto_region 1 with fail
  have hc0 : (w.alloc (.cells #[.int .i64 p, .int .i64 0, .int .i64 1] 23)).cell? ⟨w.heap.size, 0, none⟩ = some (.int .i64 p) := World.cell?_alloc_mark w _ _ (0, 0) 0
  have hc1 : (w.alloc (.cells #[.int .i64 p, .int .i64 0, .int .i64 1] 23)).cell? ⟨w.heap.size, 1, none⟩ = some (.int .i64 0) := World.cell?_alloc_mark w _ _ (0, 0) 1
  have hc2 : (w.alloc (.cells #[.int .i64 p, .int .i64 0, .int .i64 1] 23)).cell? ⟨w.heap.size, 2, none⟩ = some (.int .i64 1) := World.cell?_alloc_mark w _ _ (0, 0) 2
  have hu : Up w (w.alloc (.cells #[.int .i64 p, .int .i64 0, .int .i64 1] 23)) := (Up.refl w).alloc _
  generalize w.alloc (.cells #[.int .i64 p, .int .i64 0, .int .i64 1] 23) = w1 at *
  generalize hg : w.heap.size = g at *
  have l0 := Later.cell_of hc0
  have l1 := Later.cell_of hc1
  have l2 := Later.cell_of hc2
  clear hc0 hc1 hc2
  have hne := later_ne w1
  refine wp_region_later_tail 44 (by kernel_rfl) (by kernel_rfl) ?_
  simp only [List.take_succ_cons, List.take_zero, List.drop_succ_cons, List.drop_zero]
  repeat (go_big_quiet_step ((go_at_call 29; exact Calls.later (C1.out _))))
  refine wpQuiet_nil ?_
  intro w9 hw9
  obtain ⟨u9, rfl⟩ := hw9
  clear hne
  replace hu := hu.trans u9.up
  clear l0 l1 l2
  generalize u9.world = w9 at *
  go_wp2_with (first
    | (with_reducible refine (all_four _ _ _ _ _ _).mono ?_; rintro e w2 ⟨rfl, hw2⟩; replace hu := hu.next hw2; clear hw2))
  go_ret
  refine ⟨?_, hu⟩
  refine congrArg (fun b => Ending.returned (.bool b)) (?_ : _ = rightB p 0 1)
  have hw := HW.out
  simp only [rightB, hw]
  rw [Bool.eq_iff_iff]
  simp
  try omega

end Go.Proofs.Ytbjnklgicakndaa
