import Derived.Test.YtbjnklgicakndaaPgWalk3
namespace Go.Proofs.Ytbjnklgicakndaa
open Go.RowKit Bw
set_option linter.unusedVariables false

theorem rightB_eq (p u o : Int) : rightB p u o = (if p < 0 ∨ 4 < p ∨ u < 0 ∨ 1099511627775 < u then false else if p = 0 ∨ p = 4 then (u == 0 && o == 0) else (o == 0 || o == u + 1 && decide (o ≤ 1099511627775))) := by
  rw [Bool.eq_iff_iff]
  split
  · simp [rightB, worksB]; omega
  · split
    · simp [rightB, worksB]; omega
    · simp [rightB, worksB]; omega


set_option maxHeartbeats 2000000 in
theorem ref20_Right (p u o : Int) (w : World) :
    Calls Try.prog 17 #[progV p u o] w fun e w' => e = .returned (.bool (rightB p u o)) ∧ Below w.heap.size w w' := by
  have C1 := Lib.hid ref20_top
  have HF := Lib.hid (rightB_eq p u o)
  generalize rightB p u o = R at *
  unfold progV
  have hu := Up.refl w
  have dt : ∀ {P : Prop} [Decidable P], P → decide P = true := fun h => decide_eq_true h
  have df : ∀ {P : Prop} [Decidable P], ¬ P → decide P = false := fun h => decide_eq_false h
  have cs : (p < 0 ∧ decide (p < 0) = true) ∨ (0 ≤ p ∧ 4 < p ∧ decide (p < 0) = false ∧ decide (4 < p) = true) ∨ (0 ≤ p ∧ p ≤ 4 ∧ u < 0 ∧ decide (p < 0) = false ∧ decide (4 < p) = false ∧ decide (u < 0) = true)
      ∨ (0 ≤ p ∧ p ≤ 4 ∧ 0 ≤ u ∧ 1099511627775 < u ∧ decide (p < 0) = false ∧ decide (4 < p) = false ∧ decide (u < 0) = false ∧ decide (1099511627775 < u) = true) ∨ (0 ≤ p ∧ p ≤ 4 ∧ 0 ≤ u ∧ u ≤ 1099511627775 ∧ decide (p < 0) = false ∧ decide (4 < p) = false ∧ decide (u < 0) = false ∧ decide (1099511627775 < u) = false) := by
    simp only [decide_eq_true_eq, decide_eq_false_iff_not]; omega
  clear dt df
  rcases cs with ⟨h1, d1⟩ | ⟨h1, h2, d1, d2⟩ | ⟨h1, h2, h3, d1, d2, d3⟩ | ⟨h1, h2, h3, h4, d1, d2, d3, d4⟩ | ⟨h1, h2, h3, h4, d1, d2, d3, d4⟩
  all_goals
    go_enter Try.func17, Try.ntmps17
    go_upto_region 1 with fail
    replace hu := (hu.alloc (.cells #[.int .i64 p, .int .i64 u, .int .i64 o] 27))
    have rp := (RowAt.made w 27 [.int .i64 p, .int .i64 u, .int .i64 o])
    try simp at rp
    obtain ⟨p0, p1, p2, -⟩ := rp.c3
    have l0 := Later.cell_of p0; have l1 := Later.cell_of p1; have l2 := Later.cell_of p2
    clear p0 p1 p2
    have hne := later_ne (w.alloc (.cells #[.int .i64 p, .int .i64 u, .int .i64 o] 27))
    refine wp_region_later (by kernel_rfl) (by kernel_rfl) ?_
    repeat (go_big_quiet_step ((go_at_call 30; exact Calls.later_same (C1.out _))))
    refine wpQuiet_nil ?_
    intro w9 hw9
    obtain ⟨u9, rfl⟩ := hw9
    replace hu := hu.trans u9.up
    have p0 := (l0 u9); have p1 := l1 u9; have p2 := l2 u9
    clear l0 l1 l2 hne
    generalize u9.world = w9 at *
  iterate 4
    · go_wp2_with fail
      go_ret
      refine ⟨?_, hu⟩
      rw [HF.out, if_pos (by omega)]
      rfl
  have HF2 := HF.out
  rw [if_neg (by omega)] at HF2
  clear HF
  by_cases h5 : p = 0 ∨ p = 4
  · rw [if_pos h5] at HF2
    have HF := Lib.hid HF2; clear HF2
    have e1 : (p == 0 || p == 4) = true := by rcases h5 with rfl | rfl <;> rfl
    rcases h5 with rfl | rfl
    all_goals
      go_wp2_with fail
      all_goals go_ret
      all_goals (refine ⟨?_, hu⟩)
      all_goals (rw [HF.out]; simp [*])
  · rw [if_neg h5] at HF2
    have HF := Lib.hid HF2; clear HF2
    have e1 : (p == 0) = false := by simp; omega
    have e2 : (p == 4) = false := by simp; omega
    have hw : IntKind.i64.wrap (u + 1) = u + 1 := IntWalk.i64_in _ ⟨by omega, by omega⟩
    have cs : (o = 0) ∨ (¬ o = 0 ∧ (o == 0) = false ∧ ¬ o = u + 1 ∧ (o == u + 1) = false) ∨ (¬ o = 0 ∧ (o == 0) = false ∧ o = u + 1) := by
      simp only [beq_eq_false_iff_ne, ne_eq]; omega
    rcases cs with rfl | ⟨k1, k2, k3, k4⟩ | ⟨k1, k2, rfl⟩
    all_goals
      go_upto_region 5 with fail
      have l0 := Later.cell_of p0; have l1 := Later.cell_of p1; have l2 := Later.cell_of p2
      clear p0 p1 p2
      have hne := later_ne w9
      refine wp_region_later (by kernel_rfl) (by kernel_rfl) ?_
      repeat (go_big_quiet_step ((go_at_call 30; exact Calls.later_same (C1.out _))))
      refine wpQuiet_nil ?_
      intro w9 hw9
      obtain ⟨u9, rfl⟩ := hw9
      replace hu := hu.trans u9.up
      have p0 := (l0 u9); have p1 := l1 u9; have p2 := l2 u9
      clear l0 l1 l2 hne
      generalize u9.world = w9 at *
      go_wp2_with fail
      go_ret
      refine ⟨?_, hu⟩
      rw [HF.out]
      simp [*]

set_option maxHeartbeats 1000000 in
theorem ref20_End (p u o : Int) (w : World) :
    Calls Try.prog 14 #[progV p u o] w fun r w' => r = .returned (.tuple #[endV p u o, .int .i64 (endE p u o)]) ∧ Below w.heap.size w w' := by
  have c1 := fun w => ref20_Right p u o w
  have hE : endE p u o = if rightB p u o then (if o = 0 then 9 else 0) else 1 := by
    unfold endE mayE; by_cases h : o = 0 <;> simp [h]
  unfold endV
  generalize endE p u o = E at *
  generalize rightB p u o = R at *
  unfold progV at *
  have hu := Up.refl w
  cases R
  · simp at hE
    subst hE
    have C1 := Lib.hid c1; clear c1
    go_enter Try.func14, Try.ntmps14
    replace hu := (hu.alloc (.cells #[.int .i64 p, .int .i64 u, .int .i64 o] 27)).alloc (.cells #[.int .i64 0, .int .i64 0, .int .i64 0] 27)
    go_wp2_with ((with_reducible refine (C1.out _).mono ?_); rintro e w1 ⟨rfl, hw1⟩; obtain ⟨hcc, hff⟩ := ucell hw1; replace hu := hu.next hw1; clear hw1)
    refine bodyPost_ret (v := .tuple #[progV 0 0 0, .int .i64 1]) (by simp [results, Try.results14, go_sem, progV, *]) rfl ⟨rfl, ?_⟩
    repeat (first | refine Up.setCell ?_ _ _ _ (by first | omega | (simp; done) | (simp; omega)) | refine Up.alloc ?_ _)
    exact hu
  · have C1 := Lib.hid c1; clear c1
    simp at hE
    by_cases ho : o = 0
    · subst ho
      simp at hE
      subst hE
      go_enter Try.func14, Try.ntmps14
      replace hu := (hu.alloc (.cells #[.int .i64 p, .int .i64 u, .int .i64 0] 27)).alloc (.cells #[.int .i64 0, .int .i64 0, .int .i64 0] 27)
      go_wp2_with ((with_reducible refine (C1.out _).mono ?_); rintro e w1 ⟨rfl, hw1⟩; obtain ⟨hcc, hff⟩ := ucell hw1; replace hu := hu.next hw1; clear hw1)
      refine bodyPost_ret (v := .tuple #[progV 0 0 0, .int .i64 9]) (by simp [results, Try.results14, go_sem, progV, *]) rfl ⟨rfl, ?_⟩
      repeat (first | refine Up.setCell ?_ _ _ _ (by first | omega | (simp; done) | (simp; omega)) | refine Up.alloc ?_ _)
      exact hu
    · rw [if_neg ho] at hE
      subst hE
      have hb : (o == 0) = false := by simp [ho]
      go_enter Try.func14, Try.ntmps14
      replace hu := (hu.alloc (.cells #[.int .i64 p, .int .i64 u, .int .i64 o] 27)).alloc (.cells #[.int .i64 0, .int .i64 0, .int .i64 0] 27)
      go_wp2_with ((with_reducible refine (C1.out _).mono ?_); rintro e w1 ⟨rfl, hw1⟩; obtain ⟨hcc, hff⟩ := ucell hw1; replace hu := hu.next hw1; clear hw1)
      refine bodyPost_ret (v := .tuple #[progV p o 0, .int .i64 0]) (by simp [results, Try.results14, go_sem, progV, *]) rfl ⟨rfl, ?_⟩
      repeat (first | refine Up.setCell ?_ _ _ _ (by first | omega | (simp; done) | (simp; omega)) | refine Up.alloc ?_ _)
      exact hu

set_option maxHeartbeats 1000000 in
theorem ref20_Next (p u o : Int) (w : World) :
    Calls Try.prog 9 #[progV p u o] w fun r w' => r = .returned (.tuple #[nextV p u o, .int .i64 (nextE p u o)]) ∧ Below w.heap.size w w' := by
  have c1 := fun w => ref20_Right p u o w
  have hE : nextE p u o = if rightB p u o then (if p = 4 ∨ 0 < o then 9 else 0) else 1 := by
    unfold nextE mayE
    split
    · rename_i hr
      have := right_bounds hr
      by_cases h : p = 4 <;> by_cases h2 : o = 0 <;> simp [h, h2] <;> omega
    · rfl
  have hb : rightB p u o = true → 0 ≤ p ∧ p ≤ 4 ∧ 0 ≤ o := fun hr => by have := right_bounds hr; omega
  unfold nextV
  generalize nextE p u o = E at *
  generalize rightB p u o = R at *
  unfold progV at *
  have hu := Up.refl w
  cases R
  · simp at hE
    subst hE
    have C1 := Lib.hid c1; clear c1 hb
    go_enter Try.func9, Try.ntmps9
    replace hu := (hu.alloc (.cells #[.int .i64 p, .int .i64 u, .int .i64 o] 27)).alloc (.cells #[.int .i64 0, .int .i64 0, .int .i64 0] 27)
    go_wp2_with ((with_reducible refine (C1.out _).mono ?_); rintro e w1 ⟨rfl, hw1⟩; obtain ⟨hcc, hff⟩ := ucell hw1; replace hu := hu.next hw1; clear hw1)
    refine bodyPost_ret (v := .tuple #[progV 0 0 0, .int .i64 1]) (by simp [results, Try.results9, go_sem, progV, *]) rfl ⟨rfl, ?_⟩
    repeat (first | refine Up.setCell ?_ _ _ _ (by first | omega | (simp; done) | (simp; omega)) | refine Up.alloc ?_ _)
    exact hu
  · have C1 := Lib.hid c1; clear c1
    obtain ⟨b1, b2, b3⟩ := hb rfl
    clear hb
    rw [if_pos rfl] at hE
    have cs : (p = 4) ∨ (¬ p = 4 ∧ (p == 4) = false ∧ 0 < o ∧ decide (0 < o) = true) ∨ (¬ p = 4 ∧ (p == 4) = false ∧ o = 0) := by
      simp only [decide_eq_true_eq, beq_eq_false_iff_ne, ne_eq]; omega
    rcases cs with rfl | ⟨h1, h2, h3, h4⟩ | ⟨h1, h2, rfl⟩
    · simp at hE
      subst hE
      go_enter Try.func9, Try.ntmps9
      replace hu := (hu.alloc (.cells #[.int .i64 4, .int .i64 u, .int .i64 o] 27)).alloc (.cells #[.int .i64 0, .int .i64 0, .int .i64 0] 27)
      go_wp2_with ((with_reducible refine (C1.out _).mono ?_); rintro e w1 ⟨rfl, hw1⟩; obtain ⟨hcc, hff⟩ := ucell hw1; replace hu := hu.next hw1; clear hw1)
      refine bodyPost_ret (v := .tuple #[progV 0 0 0, .int .i64 9]) (by simp [results, Try.results9, go_sem, progV, *]) rfl ⟨rfl, ?_⟩
      repeat (first | refine Up.setCell ?_ _ _ _ (by first | omega | (simp; done) | (simp; omega)) | refine Up.alloc ?_ _)
      exact hu
    · rw [if_pos (Or.inr h3)] at hE
      subst hE
      go_enter Try.func9, Try.ntmps9
      replace hu := (hu.alloc (.cells #[.int .i64 p, .int .i64 u, .int .i64 o] 27)).alloc (.cells #[.int .i64 0, .int .i64 0, .int .i64 0] 27)
      go_wp2_with ((with_reducible refine (C1.out _).mono ?_); rintro e w1 ⟨rfl, hw1⟩; obtain ⟨hcc, hff⟩ := ucell hw1; replace hu := hu.next hw1; clear hw1)
      refine bodyPost_ret (v := .tuple #[progV 0 0 0, .int .i64 9]) (by simp [results, Try.results9, go_sem, progV, *]) rfl ⟨rfl, ?_⟩
      repeat (first | refine Up.setCell ?_ _ _ _ (by first | omega | (simp; done) | (simp; omega)) | refine Up.alloc ?_ _)
      exact hu
    · rw [if_neg (by simp [h1])] at hE
      subst hE
      go_enter Try.func9, Try.ntmps9
      replace hu := (hu.alloc (.cells #[.int .i64 p, .int .i64 u, .int .i64 0] 27)).alloc (.cells #[.int .i64 0, .int .i64 0, .int .i64 0] 27)
      go_wp2_with ((with_reducible refine (C1.out _).mono ?_); rintro e w1 ⟨rfl, hw1⟩; obtain ⟨hcc, hff⟩ := ucell hw1; replace hu := hu.next hw1; clear hw1)
      refine bodyPost_ret (v := .tuple #[progV (p + 1) 0 0, .int .i64 0]) (by simp [results, Try.results9, go_sem, progV, *]) rfl ⟨rfl, ?_⟩
      repeat (first | refine Up.setCell ?_ _ _ _ (by first | omega | (simp; done) | (simp; omega)) | refine Up.alloc ?_ _)
      exact hu
end Go.Proofs.Ytbjnklgicakndaa
