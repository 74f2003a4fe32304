import Derived.Test.YtbjnklgicakndaaPgOrder
namespace Go.Proofs.Ytbjnklgicakndaa
open Go.RowKit Bw
set_option linter.unusedVariables false

/-- Where the bytes of an argument lie. -/
def U8At (w : World) (p : Option Addr) (n : Nat) (z : Nat → Int) : Prop :=
  ∀ i, i < n → ∃ g o, p = some ⟨g, o, none⟩ ∧ w.cell? ⟨g, o + i, none⟩ = some (.int .u8 (z i)) ∧ 0 ≤ z i ∧ z i ≤ 255
theorem U8At.up {w w' : World} {p : Option Addr} {n : Nat} {z : Nat → Int} (h : U8At w p n z) (hu : Up w w') : U8At w' p n z := fun i hi => by
  obtain ⟨g, o, hp, hc, h1⟩ := h i hi
  exact ⟨g, o, hp, (Below.cell (p := ⟨g, o + i, none⟩) hu (World.block_lt_of_cell? w _ hc)).trans hc, h1⟩

theorem less_asymm {p u o r v s : Int} (h : lessB p u o r v s = true) : lessB r v s p u o = false := by
  simp only [lessB, Bool.and_eq_true] at h
  obtain ⟨⟨h1, h2⟩, h3⟩ := h
  simp only [lessB, h1, h2, Bool.true_and]
  by_cases e1 : p = r
  · subst e1
    simp only [if_true] at h3 ⊢
    by_cases e2 : u = v
    · subst e2
      simp only [if_true, decide_eq_true_eq, decide_eq_false_iff_not] at h3 ⊢; omega
    · rw [if_neg e2] at h3; rw [if_neg (fun h => e2 h.symm)]
      simp only [decide_eq_true_eq, decide_eq_false_iff_not] at h3 ⊢; omega
  · rw [if_neg e1] at h3; rw [if_neg (fun h => e1 h.symm)]
    simp only [decide_eq_true_eq, decide_eq_false_iff_not] at h3 ⊢; omega

theorem next_up {p u o : Int} (h : rightB p u o = true) : ∃ x y z, nextV p u o = progV x y z ∧ (nextE p u o = 0 → lessB p u o x y z = true ∧ rightB x y z = true ∧ -9223372036854775808 ≤ y) ∧ -9223372036854775808 ≤ y := by
  have hb := right_bounds h
  by_cases hE : nextE p u o = 0
  · refine ⟨p + 1, 0, 0, by rw [nextV, if_pos hE], fun _ => ?_, by omega⟩
    have h4 : p ≠ 4 := by
      intro e; subst e
      simp [nextE, mayE, h] at hE
    have hr : rightB (p + 1) 0 0 = true := by simp [rightB, worksB]; omega
    refine ⟨?_, hr, by omega⟩
    simp only [lessB, h, hr, Bool.true_and]
    rw [if_neg (by omega)]; simp; omega
  · exact ⟨0, 0, 0, by rw [nextV, if_neg hE], fun h0 => absurd h0 hE, by omega⟩
theorem begin_up {p u o : Int} (h : rightB p u o = true) : ∃ x y z, beginV p u o = progV x y z ∧ (beginE p u o = 0 → lessB p u o x y z = true ∧ rightB x y z = true ∧ -9223372036854775808 ≤ y) ∧ -9223372036854775808 ≤ y := by
  have hb := right_bounds h
  by_cases hE : beginE p u o = 0
  · refine ⟨p, u, u + 1, by rw [beginV, if_pos hE], fun _ => ?_, by omega⟩
    have h4 : worksB p = true ∧ o = 0 ∧ u < 1099511627775 := by
      simp only [beginE, mayE, h, if_true] at hE
      split at hE
      · rename_i h5; simp only [List.all_cons, id, List.all_nil, Bool.and_eq_true, beq_iff_eq, decide_eq_true_eq, Bool.and_true] at h5; exact h5
      · omega
    obtain ⟨h5, rfl, h6⟩ := h4
    have hr : rightB p u (u + 1) = true := by simp [rightB, h5]; omega
    refine ⟨?_, hr, by omega⟩
    simp only [lessB, h, hr, Bool.true_and, if_true, decide_eq_true_eq]; omega
  · exact ⟨0, 0, 0, by rw [beginV, if_neg hE], fun h0 => absurd h0 hE, by omega⟩
theorem end_up {p u o : Int} (h : rightB p u o = true) : ∃ x y z, endV p u o = progV x y z ∧ (endE p u o = 0 → lessB p u o x y z = true ∧ rightB x y z = true ∧ -9223372036854775808 ≤ y) ∧ -9223372036854775808 ≤ y := by
  have hb := right_bounds h
  by_cases hE : endE p u o = 0
  · refine ⟨p, o, 0, by rw [endV, if_pos hE], fun _ => ?_, by omega⟩
    have h4 : o ≠ 0 := by
      intro e; subst e
      simp [endE, mayE, h] at hE
    have h5 : worksB p = true ∧ o = u + 1 := by
      simp only [rightB, Bool.and_eq_true, Bool.or_eq_true, decide_eq_true_eq, beq_iff_eq] at h
      obtain ⟨⟨_, h6⟩, h7⟩ := h
      constructor
      · rcases h7 with h7 | h7
        · exact h7
        · omega
      · omega
    have hr : rightB p o 0 = true := by simp [rightB, h5.1]; omega
    refine ⟨?_, hr, by omega⟩
    simp only [lessB, h, hr, Bool.true_and, if_true]
    rw [if_neg (by omega)]; simp; omega
  · exact ⟨0, 0, 0, by rw [endV, if_neg hE], fun h0 => absurd h0 hE, by omega⟩

theorem fwd_up {p u o : Int} (h : rightB p u o = true) : (o = 0 → fwdV p u o = progV p u 0 ∧ fwdB p u o = false ∧ fwdE p u o = 0) ∧
    (o ≠ 0 → fwdV p u o = progV p o 0 ∧ fwdB p u o = true ∧ fwdE p u o = 0 ∧ lessB p u o p o 0 = true ∧ rightB p o 0 = true ∧ o = u + 1 ∧ 0 ≤ u) := by
  have hb := right_bounds h
  constructor
  · intro e; subst e; simp [fwdV, fwdB, fwdE, h]
  · intro e
    have h5 : worksB p = true ∧ o = u + 1 := by
      simp only [rightB, Bool.and_eq_true, Bool.or_eq_true, decide_eq_true_eq, beq_iff_eq] at h
      obtain ⟨⟨_, h6⟩, h7⟩ := h
      constructor
      · rcases h7 with h7 | h7
        · exact h7
        · omega
      · omega
    have hr : rightB p o 0 = true := by simp [rightB, h5.1]; omega
    refine ⟨by simp [fwdV, h, e], by simp [fwdB, h, e], by simp [fwdE, h], ?_, hr, h5.2, hb.2.2.1⟩
    simp only [lessB, h, hr, Bool.true_and, if_true]
    rw [if_neg (by omega)]; simp; omega





set_option maxHeartbeats 8000000 in
set_option maxRecDepth 100000 in
theorem falls_walk (pa : Option Addr) (n cap : Nat) (zs : Nat → Int) (w : World) (hA : U8At w pa n zs) (hn : n ≤ 9223372036854775807) :
    Calls Try.prog 5 #[.slice pa n cap] w fun e w' => e = .returned (.bool true) ∧ Below w.heap.size w w' := by
  have D5 := Lib.hid law20_fixed
  have HA := Lib.hid hA; clear hA
  have hu := Up.refl w
  go_enter Try.func5, Try.ntmps5
  go_upto_region 2 with fail
  have rp := RowAt.made w 23 [.int .i64 0, .int .i64 0, .int .i64 0]
  replace hu := hu.alloc (.cells #[.int .i64 0, .int .i64 0, .int .i64 0] 23)
  generalize w.alloc (.cells #[.int .i64 0, .int .i64 0, .int .i64 0] 23) = wx at *
  go_wp2_with fail
  go_loopw [4] (fun v wr => ∃ (k : Nat) (a b c : Int), k ≤ n ∧ v = .int .i64 k ∧ rightB a b c = true ∧ -9223372036854775808 ≤ b ∧ RowAt wr w.heap.size [.int .i64 a, .int .i64 b, .int .i64 c] ∧ Up w wr) (fun v _ => n - (intOf v).toNat)
  case atStart => exact ⟨0, 0, 0, 0, by omega, rfl, by decide +kernel, by omega, rp, hu⟩
  case round =>
    clear rp hu
    obtain ⟨k, a, b, c, hk, rfl, hright, hb0, rp, hu⟩ := hrel
    have HRight := Lib.hid hright; clear hright
    by_cases hk1 : k < n
    · by_cases hk2 : (k : Int) < 60
      · obtain ⟨ga0, oa0, rfl, z0, hz1, hz2⟩ := (HA.out.up hu) k hk1
        have i0 : (0 : Int) ≤ (k : Int) := by omega
        have i1 : (k : Int) < (n : Int) := by omega
        have j1 : decide ((k : Int) < (n : Int)) = true := by simp; omega
        have j2 : decide ((k : Int) < 60) = true := by simp; omega
        generalize hzk : zs k = zk at *
        obtain ⟨p0, p1, p2, -⟩ := rp.c3
        go_upto_region 6 with fail
        clear p0 p1 p2 z0
        have hgp := rp.lt
        have ro := RowAt.made wr 23 [.int .i64 a, .int .i64 b, .int .i64 c]
        replace hu := hu.alloc (.cells #[.int .i64 a, .int .i64 b, .int .i64 c] 23)
        replace rp := rp.alloc (.cells #[.int .i64 a, .int .i64 b, .int .i64 c] 23)
        generalize hgo : wr.heap.size = go at *
        generalize wr.alloc (.cells #[.int .i64 a, .int .i64 b, .int .i64 c] 23) = xo at *
        have ho : ¬ w.heap.size = go := by omega
        clear hgo
        obtain ⟨x, y, z, hV, hup, hy0⟩ := next_up HRight.out
        have c1 := fun w => prog_Next a b c w hb0
        rw [hV] at c1
        generalize nextE a b c = E at *
        unfold progV at c1
        have C1 := Lib.hid c1; clear c1 hV
        obtain ⟨p0, p1, p2, -⟩ := rp.c3
        go_upto_region 7 with ((with_reducible refine (C1.out _).mono ?_); rintro e w1 ⟨rfl, hw⟩; replace rp := rp.up hw; replace ro := ro.up hw; replace hu := hu.next hw; clear hw)
        clear p0 p1 p2 C1
        have hgo := ro.lt
        have hgp2 := rp.lt
        have hgu := hu.out.size
        have rq := RowAt.made w1 23 [.int .i64 x, .int .i64 y, .int .i64 z]
        replace hu := hu.alloc (.cells #[.int .i64 x, .int .i64 y, .int .i64 z] 23)
        replace rp := rp.alloc (.cells #[.int .i64 x, .int .i64 y, .int .i64 z] 23)
        replace ro := ro.alloc (.cells #[.int .i64 x, .int .i64 y, .int .i64 z] 23)
        generalize hgq : w1.heap.size = gq at *
        generalize w1.alloc (.cells #[.int .i64 x, .int .i64 y, .int .i64 z] 23) = x1 at *
        have hqo : ¬ gq = go := by omega
        have hqp : ¬ gq = w.heap.size := by omega
        have hgq0 : w.heap.size ≤ gq := hgu
        clear hgq hgo hgp2 hgu
        obtain ⟨ga, oa, hpa, z0, -⟩ := (HA.out.up hu) k hk1
        obtain ⟨rfl, rfl⟩ : ga0 = ga ∧ oa0 = oa := (by simpa using hpa)
        clear hpa
        rw [hzk] at z0
        have hcs : (zk % 4 = 0 ∧ (zk % 4 == 1) = false ∧ (zk % 4 == 2) = false ∧ (zk % 4 == 3) = false) ∨ (zk % 4 = 1 ∧ (zk % 4 == 1) = true ∧ (zk % 4 == 2) = false ∧ (zk % 4 == 3) = false) ∨
            (zk % 4 = 2 ∧ (zk % 4 == 1) = false ∧ (zk % 4 == 2) = true ∧ (zk % 4 == 3) = false) ∨ (zk % 4 = 3 ∧ (zk % 4 == 1) = false ∧ (zk % 4 == 2) = false ∧ (zk % 4 == 3) = true) := by
          simp only [beq_iff_eq, beq_eq_false_iff_ne, ne_eq]; omega
        rcases hcs with ⟨-, e1, e2, e3⟩ | ⟨-, e1, e2, e3⟩ | ⟨-, e1, e2, e3⟩ | ⟨-, e1, e2, e3⟩
        · go_upto_region 17 with fail
          by_cases hE0 : E = 0
          · subst hE0
            obtain ⟨hL, hR, -⟩ := hup rfl
            have d1 := fun w => prog_Less a b c x y z w hb0 hy0
            have d2 := fun w => prog_Right x y z w hy0
            have d3 := fun w => prog_Less x y z a b c w hy0 hb0
            rw [hL] at d1; rw [hR] at d2; rw [less_asymm hL] at d3
            unfold progV at d1 d2 d3
            have D1 := Lib.hid d1; have D2 := Lib.hid d2; have D3 := Lib.hid d3
            clear d1 d2 d3
            have HR := Lib.hid hR; clear hL hR hup
            obtain ⟨p0, p1, p2, p3, p4, p5⟩ := rp.c3; obtain ⟨q0, q1, q2, -⟩ := rq.c3; obtain ⟨o0, o1, o2, -⟩ := ro.c3
            go_upto_region 20 with ((with_reducible refine (D1.out _).mono ?_); rintro e wt ⟨rfl, hw⟩; replace rp := rp.up hw; replace rq := rq.up hw; replace ro := ro.up hw; replace hu := hu.next hw; clear hw)
            clear p0 p1 p2 p3 p4 p5 q0 q1 q2 o0 o1 o2
            obtain ⟨p0, p1, p2, p3, p4, p5⟩ := rp.c3; obtain ⟨q0, q1, q2, -⟩ := rq.c3
            go_upto_region 21 with fail
            clear p0 p1 p2 p3 p4 p5 q0 q1 q2
            replace hu := ((hu.setCell w.heap.size 0 (.int .i64 x) (Nat.le_refl _)).setCell w.heap.size 1 (.int .i64 y) (Nat.le_refl _)).setCell w.heap.size 2 (.int .i64 z) (Nat.le_refl _)
            replace rp := ((rp.set 0 (.int .i64 x) (by simp)).set 1 (.int .i64 y) (by simp)).set 2 (.int .i64 z) (by simp)
            replace ro := ((ro.other w.heap.size 0 (.int .i64 x) ho).other w.heap.size 1 (.int .i64 y) ho).other w.heap.size 2 (.int .i64 z) ho
            simp only [List.set_cons_zero, List.set_cons_succ] at rp
            generalize ((wt.setCell ⟨w.heap.size, 0, none⟩ (.int .i64 x)).setCell ⟨w.heap.size, 1, none⟩ (.int .i64 y)).setCell ⟨w.heap.size, 2, none⟩ (.int .i64 z) = xt at *
            obtain ⟨p0, p1, p2, -⟩ := rp.c3; obtain ⟨o0, o1, o2, -⟩ := ro.c3
            go_wp2_with (first
              | ((with_reducible refine (D2.out _).mono ?_); rintro e wt2 ⟨rfl, hw⟩; replace rp := rp.up hw; replace ro := ro.up hw; replace hu := hu.next hw; clear hw; obtain ⟨p0, p1, p2, -⟩ := rp.c3; obtain ⟨o0, o1, o2, -⟩ := ro.c3)
              | ((with_reducible refine (D3.out _).mono ?_); rintro e wt2 ⟨rfl, hw⟩; replace rp := rp.up hw; replace ro := ro.up hw; replace hu := hu.next hw; clear hw))
            exact ⟨⟨k + 1, x, y, z, by omega, by go_num, HR.out, hy0, rp, hu⟩, by simp [intOf]; omega⟩
          · have hEb : (E == 0) = false := by simp [hE0]
            have d2 := fun w => prog_Right a b c w hb0
            have d3 := fun w => prog_Less a b c a b c w hb0 hb0
            rw [HRight.out] at d2; rw [less_irrefl] at d3
            unfold progV at d2 d3
            have D2 := Lib.hid d2; have D3 := Lib.hid d3
            clear d2 d3
            obtain ⟨p0, p1, p2, -⟩ := rp.c3; obtain ⟨q0, q1, q2, -⟩ := rq.c3; obtain ⟨o0, o1, o2, -⟩ := ro.c3
            go_wp2_with (first
              | ((with_reducible refine (D2.out _).mono ?_); rintro e wt2 ⟨rfl, hw⟩; replace rp := rp.up hw; replace ro := ro.up hw; replace hu := hu.next hw; clear hw; obtain ⟨p0, p1, p2, -⟩ := rp.c3; obtain ⟨o0, o1, o2, -⟩ := ro.c3)
              | ((with_reducible refine (D3.out _).mono ?_); rintro e wt2 ⟨rfl, hw⟩; replace rp := rp.up hw; replace ro := ro.up hw; replace hu := hu.next hw; clear hw))
            exact ⟨⟨k + 1, a, b, c, by omega, by go_num, HRight.out, hb0, rp, hu⟩, by simp [intOf]; omega⟩
        · clear hup hy0
          obtain ⟨x, y, z, hV, hup, hy0⟩ := begin_up HRight.out
          have c2 := fun w => prog_Begin a b c w hb0
          rw [hV] at c2
          generalize beginE a b c = E at *
          unfold progV at c2
          have C2 := Lib.hid c2; clear c2 hV
          obtain ⟨p0, p1, p2, -⟩ := rp.c3; obtain ⟨q0, q1, q2, q3, q4, q5⟩ := rq.c3
          go_upto_region 8 with fail
          go_upto_region 9 with ((with_reducible refine (C2.out _).mono ?_); rintro e w2 ⟨rfl, hw⟩; replace rp := rp.up hw; replace rq := rq.up hw; replace ro := ro.up hw; replace hu := hu.next hw; clear p0 p1 p2 q0 q1 q2 q3 q4 q5; obtain ⟨q0, q1, q2, q3, q4, q5⟩ := rq.c3; obtain ⟨ga, oa, hpa, z0, -⟩ := (HA.out.up hu) k hk1; obtain ⟨rfl, rfl⟩ : ga0 = ga ∧ oa0 = oa := (by simpa using hpa); clear hw hpa)
          have hgq2 := rq.lt
          clear q0 q1 q2 q3 q4 q5
          replace hu := ((hu.setCell gq 0 (.int .i64 x) hgq0).setCell gq 1 (.int .i64 y) hgq0).setCell gq 2 (.int .i64 z) hgq0
          replace rq := ((rq.set 0 (.int .i64 x) (by simp)).set 1 (.int .i64 y) (by simp)).set 2 (.int .i64 z) (by simp)
          replace ro := ((ro.other gq 0 (.int .i64 x) hqo).other gq 1 (.int .i64 y) hqo).other gq 2 (.int .i64 z) hqo
          replace rp := ((rp.other gq 0 (.int .i64 x) hqp).other gq 1 (.int .i64 y) hqp).other gq 2 (.int .i64 z) hqp
          simp only [List.set_cons_zero, List.set_cons_succ] at rq
          generalize ((w2.setCell ⟨gq, 0, none⟩ (.int .i64 x)).setCell ⟨gq, 1, none⟩ (.int .i64 y)).setCell ⟨gq, 2, none⟩ (.int .i64 z) = x2 at *
          obtain ⟨ga, oa, hpa, z1, -⟩ := (HA.out.up hu) k hk1
          obtain ⟨rfl, rfl⟩ : ga0 = ga ∧ oa0 = oa := (by simpa using hpa)
          clear hpa z0
          go_upto_region 17 with fail
          by_cases hE0 : E = 0
          · subst hE0
            obtain ⟨hL, hR, -⟩ := hup rfl
            have d1 := fun w => prog_Less a b c x y z w hb0 hy0
            have d2 := fun w => prog_Right x y z w hy0
            have d3 := fun w => prog_Less x y z a b c w hy0 hb0
            rw [hL] at d1; rw [hR] at d2; rw [less_asymm hL] at d3
            unfold progV at d1 d2 d3
            have D1 := Lib.hid d1; have D2 := Lib.hid d2; have D3 := Lib.hid d3
            clear d1 d2 d3
            have HR := Lib.hid hR; clear hL hR hup
            obtain ⟨p0, p1, p2, p3, p4, p5⟩ := rp.c3; obtain ⟨q0, q1, q2, -⟩ := rq.c3; obtain ⟨o0, o1, o2, -⟩ := ro.c3
            go_upto_region 20 with ((with_reducible refine (D1.out _).mono ?_); rintro e wt ⟨rfl, hw⟩; replace rp := rp.up hw; replace rq := rq.up hw; replace ro := ro.up hw; replace hu := hu.next hw; clear hw)
            clear p0 p1 p2 p3 p4 p5 q0 q1 q2 o0 o1 o2
            obtain ⟨p0, p1, p2, p3, p4, p5⟩ := rp.c3; obtain ⟨q0, q1, q2, -⟩ := rq.c3
            go_upto_region 21 with fail
            clear p0 p1 p2 p3 p4 p5 q0 q1 q2
            replace hu := ((hu.setCell w.heap.size 0 (.int .i64 x) (Nat.le_refl _)).setCell w.heap.size 1 (.int .i64 y) (Nat.le_refl _)).setCell w.heap.size 2 (.int .i64 z) (Nat.le_refl _)
            replace rp := ((rp.set 0 (.int .i64 x) (by simp)).set 1 (.int .i64 y) (by simp)).set 2 (.int .i64 z) (by simp)
            replace ro := ((ro.other w.heap.size 0 (.int .i64 x) ho).other w.heap.size 1 (.int .i64 y) ho).other w.heap.size 2 (.int .i64 z) ho
            simp only [List.set_cons_zero, List.set_cons_succ] at rp
            generalize ((wt.setCell ⟨w.heap.size, 0, none⟩ (.int .i64 x)).setCell ⟨w.heap.size, 1, none⟩ (.int .i64 y)).setCell ⟨w.heap.size, 2, none⟩ (.int .i64 z) = xt at *
            obtain ⟨p0, p1, p2, -⟩ := rp.c3; obtain ⟨o0, o1, o2, -⟩ := ro.c3
            go_wp2_with (first
              | ((with_reducible refine (D2.out _).mono ?_); rintro e wt2 ⟨rfl, hw⟩; replace rp := rp.up hw; replace ro := ro.up hw; replace hu := hu.next hw; clear hw; obtain ⟨p0, p1, p2, -⟩ := rp.c3; obtain ⟨o0, o1, o2, -⟩ := ro.c3)
              | ((with_reducible refine (D3.out _).mono ?_); rintro e wt2 ⟨rfl, hw⟩; replace rp := rp.up hw; replace ro := ro.up hw; replace hu := hu.next hw; clear hw))
            exact ⟨⟨k + 1, x, y, z, by omega, by go_num, HR.out, hy0, rp, hu⟩, by simp [intOf]; omega⟩
          · have hEb : (E == 0) = false := by simp [hE0]
            have d2 := fun w => prog_Right a b c w hb0
            have d3 := fun w => prog_Less a b c a b c w hb0 hb0
            rw [HRight.out] at d2; rw [less_irrefl] at d3
            unfold progV at d2 d3
            have D2 := Lib.hid d2; have D3 := Lib.hid d3
            clear d2 d3
            obtain ⟨p0, p1, p2, -⟩ := rp.c3; obtain ⟨q0, q1, q2, -⟩ := rq.c3; obtain ⟨o0, o1, o2, -⟩ := ro.c3
            go_wp2_with (first
              | ((with_reducible refine (D2.out _).mono ?_); rintro e wt2 ⟨rfl, hw⟩; replace rp := rp.up hw; replace ro := ro.up hw; replace hu := hu.next hw; clear hw; obtain ⟨p0, p1, p2, -⟩ := rp.c3; obtain ⟨o0, o1, o2, -⟩ := ro.c3)
              | ((with_reducible refine (D3.out _).mono ?_); rintro e wt2 ⟨rfl, hw⟩; replace rp := rp.up hw; replace ro := ro.up hw; replace hu := hu.next hw; clear hw))
            exact ⟨⟨k + 1, a, b, c, by omega, by go_num, HRight.out, hb0, rp, hu⟩, by simp [intOf]; omega⟩
        · clear hup hy0
          obtain ⟨x, y, z, hV, hup, hy0⟩ := end_up HRight.out
          have c2 := fun w => prog_End a b c w hb0
          rw [hV] at c2
          generalize endE a b c = E at *
          unfold progV at c2
          have C2 := Lib.hid c2; clear c2 hV
          obtain ⟨p0, p1, p2, -⟩ := rp.c3; obtain ⟨q0, q1, q2, q3, q4, q5⟩ := rq.c3
          go_upto_region 10 with fail
          go_upto_region 11 with ((with_reducible refine (C2.out _).mono ?_); rintro e w2 ⟨rfl, hw⟩; replace rp := rp.up hw; replace rq := rq.up hw; replace ro := ro.up hw; replace hu := hu.next hw; clear p0 p1 p2 q0 q1 q2 q3 q4 q5; obtain ⟨q0, q1, q2, q3, q4, q5⟩ := rq.c3; obtain ⟨ga, oa, hpa, z0, -⟩ := (HA.out.up hu) k hk1; obtain ⟨rfl, rfl⟩ : ga0 = ga ∧ oa0 = oa := (by simpa using hpa); clear hw hpa)
          have hgq2 := rq.lt
          clear q0 q1 q2 q3 q4 q5
          replace hu := ((hu.setCell gq 0 (.int .i64 x) hgq0).setCell gq 1 (.int .i64 y) hgq0).setCell gq 2 (.int .i64 z) hgq0
          replace rq := ((rq.set 0 (.int .i64 x) (by simp)).set 1 (.int .i64 y) (by simp)).set 2 (.int .i64 z) (by simp)
          replace ro := ((ro.other gq 0 (.int .i64 x) hqo).other gq 1 (.int .i64 y) hqo).other gq 2 (.int .i64 z) hqo
          replace rp := ((rp.other gq 0 (.int .i64 x) hqp).other gq 1 (.int .i64 y) hqp).other gq 2 (.int .i64 z) hqp
          simp only [List.set_cons_zero, List.set_cons_succ] at rq
          generalize ((w2.setCell ⟨gq, 0, none⟩ (.int .i64 x)).setCell ⟨gq, 1, none⟩ (.int .i64 y)).setCell ⟨gq, 2, none⟩ (.int .i64 z) = x2 at *
          obtain ⟨ga, oa, hpa, z1, -⟩ := (HA.out.up hu) k hk1
          obtain ⟨rfl, rfl⟩ : ga0 = ga ∧ oa0 = oa := (by simpa using hpa)
          clear hpa z0
          go_upto_region 17 with fail
          by_cases hE0 : E = 0
          · subst hE0
            obtain ⟨hL, hR, -⟩ := hup rfl
            have d1 := fun w => prog_Less a b c x y z w hb0 hy0
            have d2 := fun w => prog_Right x y z w hy0
            have d3 := fun w => prog_Less x y z a b c w hy0 hb0
            rw [hL] at d1; rw [hR] at d2; rw [less_asymm hL] at d3
            unfold progV at d1 d2 d3
            have D1 := Lib.hid d1; have D2 := Lib.hid d2; have D3 := Lib.hid d3
            clear d1 d2 d3
            have HR := Lib.hid hR; clear hL hR hup
            obtain ⟨p0, p1, p2, p3, p4, p5⟩ := rp.c3; obtain ⟨q0, q1, q2, -⟩ := rq.c3; obtain ⟨o0, o1, o2, -⟩ := ro.c3
            go_upto_region 20 with ((with_reducible refine (D1.out _).mono ?_); rintro e wt ⟨rfl, hw⟩; replace rp := rp.up hw; replace rq := rq.up hw; replace ro := ro.up hw; replace hu := hu.next hw; clear hw)
            clear p0 p1 p2 p3 p4 p5 q0 q1 q2 o0 o1 o2
            obtain ⟨p0, p1, p2, p3, p4, p5⟩ := rp.c3; obtain ⟨q0, q1, q2, -⟩ := rq.c3
            go_upto_region 21 with fail
            clear p0 p1 p2 p3 p4 p5 q0 q1 q2
            replace hu := ((hu.setCell w.heap.size 0 (.int .i64 x) (Nat.le_refl _)).setCell w.heap.size 1 (.int .i64 y) (Nat.le_refl _)).setCell w.heap.size 2 (.int .i64 z) (Nat.le_refl _)
            replace rp := ((rp.set 0 (.int .i64 x) (by simp)).set 1 (.int .i64 y) (by simp)).set 2 (.int .i64 z) (by simp)
            replace ro := ((ro.other w.heap.size 0 (.int .i64 x) ho).other w.heap.size 1 (.int .i64 y) ho).other w.heap.size 2 (.int .i64 z) ho
            simp only [List.set_cons_zero, List.set_cons_succ] at rp
            generalize ((wt.setCell ⟨w.heap.size, 0, none⟩ (.int .i64 x)).setCell ⟨w.heap.size, 1, none⟩ (.int .i64 y)).setCell ⟨w.heap.size, 2, none⟩ (.int .i64 z) = xt at *
            obtain ⟨p0, p1, p2, -⟩ := rp.c3; obtain ⟨o0, o1, o2, -⟩ := ro.c3
            go_wp2_with (first
              | ((with_reducible refine (D2.out _).mono ?_); rintro e wt2 ⟨rfl, hw⟩; replace rp := rp.up hw; replace ro := ro.up hw; replace hu := hu.next hw; clear hw; obtain ⟨p0, p1, p2, -⟩ := rp.c3; obtain ⟨o0, o1, o2, -⟩ := ro.c3)
              | ((with_reducible refine (D3.out _).mono ?_); rintro e wt2 ⟨rfl, hw⟩; replace rp := rp.up hw; replace ro := ro.up hw; replace hu := hu.next hw; clear hw))
            exact ⟨⟨k + 1, x, y, z, by omega, by go_num, HR.out, hy0, rp, hu⟩, by simp [intOf]; omega⟩
          · have hEb : (E == 0) = false := by simp [hE0]
            have d2 := fun w => prog_Right a b c w hb0
            have d3 := fun w => prog_Less a b c a b c w hb0 hb0
            rw [HRight.out] at d2; rw [less_irrefl] at d3
            unfold progV at d2 d3
            have D2 := Lib.hid d2; have D3 := Lib.hid d3
            clear d2 d3
            obtain ⟨p0, p1, p2, -⟩ := rp.c3; obtain ⟨q0, q1, q2, -⟩ := rq.c3; obtain ⟨o0, o1, o2, -⟩ := ro.c3
            go_wp2_with (first
              | ((with_reducible refine (D2.out _).mono ?_); rintro e wt2 ⟨rfl, hw⟩; replace rp := rp.up hw; replace ro := ro.up hw; replace hu := hu.next hw; clear hw; obtain ⟨p0, p1, p2, -⟩ := rp.c3; obtain ⟨o0, o1, o2, -⟩ := ro.c3)
              | ((with_reducible refine (D3.out _).mono ?_); rintro e wt2 ⟨rfl, hw⟩; replace rp := rp.up hw; replace ro := ro.up hw; replace hu := hu.next hw; clear hw))
            exact ⟨⟨k + 1, a, b, c, by omega, by go_num, HRight.out, hb0, rp, hu⟩, by simp [intOf]; omega⟩
        · have hfv := fwd_up HRight.out
          have c2 := fun w => prog_Forward a b c w hb0
          by_cases hc : c = 0
          · subst hc
            obtain ⟨f1, f2, f3⟩ := hfv.1 rfl
            rw [f1, f2, f3] at c2
            have d3 := fun w => prog_Less a b 0 a b 0 w hb0 hb0
            have d2 := fun w => prog_Right a b 0 w hb0
            rw [less_irrefl] at d3
            rw [HRight.out] at d2
            have D4 := Lib.hid d3
            clear hfv f1 f2 f3
            unfold progV at c2 d2 d3 D4
            have C2 := Lib.hid c2; have D2 := Lib.hid d2; have D3 := Lib.hid d3
            clear c2 d2 d3
            obtain ⟨p0, p1, p2, -⟩ := rp.c3
            go_upto_region 12 with fail
            go_upto_region 13 with ((with_reducible refine (C2.out _).mono ?_); rintro e w2 ⟨rfl, hw⟩; replace rp := rp.up hw; replace rq := rq.up hw; replace ro := ro.up hw; replace hu := hu.next hw; clear hw)
            clear p0 p1 p2 z0
            have hgq1 := rq.lt
            have hgp1 := rp.lt
            have hgo1 := ro.lt
            have rx := RowAt.made w2 23 [.int .i64 a, .int .i64 b, .int .i64 0]
            replace hu := hu.alloc (.cells #[.int .i64 a, .int .i64 b, .int .i64 0] 23)
            replace rp := rp.alloc (.cells #[.int .i64 a, .int .i64 b, .int .i64 0] 23)
            replace ro := ro.alloc (.cells #[.int .i64 a, .int .i64 b, .int .i64 0] 23)
            replace rq := rq.alloc (.cells #[.int .i64 a, .int .i64 b, .int .i64 0] 23)
            generalize hgx : w2.heap.size = gx at *
            generalize w2.alloc (.cells #[.int .i64 a, .int .i64 b, .int .i64 0] 23) = x2 at *
            have hqx : ¬ gq = gx := by omega
            have hpx : ¬ w.heap.size = gx := by omega
            clear hgx hgq1 hgp1 hgo1
            obtain ⟨q0, q1, q2, q3, q4, q5⟩ := rq.c3; obtain ⟨x0', x1', x2', -⟩ := rx.c3
            go_upto_region 15 with fail
            clear q0 q1 q2 q3 q4 q5 x0' x1' x2'
            replace hu := ((hu.setCell gq 0 (.int .i64 a) hgq0).setCell gq 1 (.int .i64 b) hgq0).setCell gq 2 (.int .i64 0) hgq0
            replace rq := ((rq.set 0 (.int .i64 a) (by simp)).set 1 (.int .i64 b) (by simp)).set 2 (.int .i64 0) (by simp)
            replace ro := ((ro.other gq 0 (.int .i64 a) hqo).other gq 1 (.int .i64 b) hqo).other gq 2 (.int .i64 0) hqo
            replace rx := ((rx.other gq 0 (.int .i64 a) hqx).other gq 1 (.int .i64 b) hqx).other gq 2 (.int .i64 0) hqx
            replace rp := ((rp.other gq 0 (.int .i64 a) hqp).other gq 1 (.int .i64 b) hqp).other gq 2 (.int .i64 0) hqp
            simp only [List.set_cons_zero, List.set_cons_succ] at rq
            generalize ((x2.setCell ⟨gq, 0, none⟩ (.int .i64 a)).setCell ⟨gq, 1, none⟩ (.int .i64 b)).setCell ⟨gq, 2, none⟩ (.int .i64 0) = x3 at *
            obtain ⟨p0, p1, p2, -⟩ := rp.c3; obtain ⟨x0', x1', x2', -⟩ := rx.c3
            go_upto_region 20 with ((with_reducible refine (D4.out _).mono ?_); rintro e wt ⟨rfl, hw⟩; replace rp := rp.up hw; replace rq := rq.up hw; replace ro := ro.up hw; replace rx := rx.up hw; replace hu := hu.next hw; clear hw p0 p1 p2 x0' x1' x2'; obtain ⟨p0, p1, p2, -⟩ := rp.c3; obtain ⟨x0', x1', x2', -⟩ := rx.c3)
            clear p0 p1 p2 x0' x1' x2'
            obtain ⟨p0, p1, p2, p3, p4, p5⟩ := rp.c3; obtain ⟨q0, q1, q2, -⟩ := rq.c3
            go_upto_region 21 with fail
            clear p0 p1 p2 p3 p4 p5 q0 q1 q2
            replace hu := ((hu.setCell w.heap.size 0 (.int .i64 a) (Nat.le_refl _)).setCell w.heap.size 1 (.int .i64 b) (Nat.le_refl _)).setCell w.heap.size 2 (.int .i64 0) (Nat.le_refl _)
            replace rp := ((rp.set 0 (.int .i64 a) (by simp)).set 1 (.int .i64 b) (by simp)).set 2 (.int .i64 0) (by simp)
            replace ro := ((ro.other w.heap.size 0 (.int .i64 a) ho).other w.heap.size 1 (.int .i64 b) ho).other w.heap.size 2 (.int .i64 0) ho
            simp only [List.set_cons_zero, List.set_cons_succ] at rp
            generalize ((wt.setCell ⟨w.heap.size, 0, none⟩ (.int .i64 a)).setCell ⟨w.heap.size, 1, none⟩ (.int .i64 b)).setCell ⟨w.heap.size, 2, none⟩ (.int .i64 0) = xt at *
            obtain ⟨p0, p1, p2, -⟩ := rp.c3; obtain ⟨o0, o1, o2, -⟩ := ro.c3
            go_wp2_with (first
              | ((with_reducible refine (D2.out _).mono ?_); rintro e wt2 ⟨rfl, hw⟩; replace rp := rp.up hw; replace ro := ro.up hw; replace hu := hu.next hw; clear hw; obtain ⟨p0, p1, p2, -⟩ := rp.c3; obtain ⟨o0, o1, o2, -⟩ := ro.c3)
              | ((with_reducible refine (D3.out _).mono ?_); rintro e wt2 ⟨rfl, hw⟩; replace rp := rp.up hw; replace ro := ro.up hw; replace hu := hu.next hw; clear hw))
            exact ⟨⟨k + 1, a, b, 0, by omega, by go_num, HRight.out, hb0, rp, hu⟩, by simp [intOf]; omega⟩
          · obtain ⟨f1, f2, f3, f4, f5, f6, f7⟩ := hfv.2 hc
            rw [f1, f2, f3] at c2
            have hc0 : -9223372036854775808 ≤ c := by omega
            have d3 := fun w => prog_Less a c 0 a b c w hc0 hb0
            have d2 := fun w => prog_Right a c 0 w hc0
            rw [less_asymm f4] at d3
            rw [f5] at d2
            have D4 := Lib.hid d3
            have HR2 := Lib.hid f5
            have hcb : (c == b) = false := by simp; omega
            have hc2 : decide (0 < c) = true := by simp; omega
            have hc3 : 0 < c := by omega
            have hce : (c == 0) = false := by simp; omega
            clear hfv f1 f2 f3 f4 f5 f6 f7
            unfold progV at c2 d2 d3 D4
            have C2 := Lib.hid c2; have D2 := Lib.hid d2; have D3 := Lib.hid d3
            clear c2 d2 d3
            obtain ⟨p0, p1, p2, -⟩ := rp.c3
            go_upto_region 12 with fail
            go_upto_region 13 with ((with_reducible refine (C2.out _).mono ?_); rintro e w2 ⟨rfl, hw⟩; replace rp := rp.up hw; replace rq := rq.up hw; replace ro := ro.up hw; replace hu := hu.next hw; clear hw)
            clear p0 p1 p2 z0
            have hgq1 := rq.lt
            have hgp1 := rp.lt
            have hgo1 := ro.lt
            have rx := RowAt.made w2 23 [.int .i64 a, .int .i64 c, .int .i64 0]
            replace hu := hu.alloc (.cells #[.int .i64 a, .int .i64 c, .int .i64 0] 23)
            replace rp := rp.alloc (.cells #[.int .i64 a, .int .i64 c, .int .i64 0] 23)
            replace ro := ro.alloc (.cells #[.int .i64 a, .int .i64 c, .int .i64 0] 23)
            replace rq := rq.alloc (.cells #[.int .i64 a, .int .i64 c, .int .i64 0] 23)
            generalize hgx : w2.heap.size = gx at *
            generalize w2.alloc (.cells #[.int .i64 a, .int .i64 c, .int .i64 0] 23) = x2 at *
            have hqx : ¬ gq = gx := by omega
            have hpx : ¬ w.heap.size = gx := by omega
            clear hgx hgq1 hgp1 hgo1
            obtain ⟨q0, q1, q2, q3, q4, q5⟩ := rq.c3; obtain ⟨x0', x1', x2', -⟩ := rx.c3
            go_upto_region 15 with fail
            clear q0 q1 q2 q3 q4 q5 x0' x1' x2'
            replace hu := ((hu.setCell gq 0 (.int .i64 a) hgq0).setCell gq 1 (.int .i64 c) hgq0).setCell gq 2 (.int .i64 0) hgq0
            replace rq := ((rq.set 0 (.int .i64 a) (by simp)).set 1 (.int .i64 c) (by simp)).set 2 (.int .i64 0) (by simp)
            replace ro := ((ro.other gq 0 (.int .i64 a) hqo).other gq 1 (.int .i64 c) hqo).other gq 2 (.int .i64 0) hqo
            replace rx := ((rx.other gq 0 (.int .i64 a) hqx).other gq 1 (.int .i64 c) hqx).other gq 2 (.int .i64 0) hqx
            replace rp := ((rp.other gq 0 (.int .i64 a) hqp).other gq 1 (.int .i64 c) hqp).other gq 2 (.int .i64 0) hqp
            simp only [List.set_cons_zero, List.set_cons_succ] at rq
            generalize ((x2.setCell ⟨gq, 0, none⟩ (.int .i64 a)).setCell ⟨gq, 1, none⟩ (.int .i64 c)).setCell ⟨gq, 2, none⟩ (.int .i64 0) = x3 at *
            obtain ⟨p0, p1, p2, -⟩ := rp.c3; obtain ⟨x0', x1', x2', -⟩ := rx.c3
            go_upto_region 20 with ((with_reducible refine (D4.out _).mono ?_); rintro e wt ⟨rfl, hw⟩; replace rp := rp.up hw; replace rq := rq.up hw; replace ro := ro.up hw; replace rx := rx.up hw; replace hu := hu.next hw; clear hw p0 p1 p2 x0' x1' x2'; obtain ⟨p0, p1, p2, -⟩ := rp.c3; obtain ⟨x0', x1', x2', -⟩ := rx.c3)
            clear p0 p1 p2 x0' x1' x2'
            obtain ⟨p0, p1, p2, p3, p4, p5⟩ := rp.c3; obtain ⟨q0, q1, q2, -⟩ := rq.c3
            go_upto_region 21 with fail
            clear p0 p1 p2 p3 p4 p5 q0 q1 q2
            replace hu := ((hu.setCell w.heap.size 0 (.int .i64 a) (Nat.le_refl _)).setCell w.heap.size 1 (.int .i64 c) (Nat.le_refl _)).setCell w.heap.size 2 (.int .i64 0) (Nat.le_refl _)
            replace rp := ((rp.set 0 (.int .i64 a) (by simp)).set 1 (.int .i64 c) (by simp)).set 2 (.int .i64 0) (by simp)
            replace ro := ((ro.other w.heap.size 0 (.int .i64 a) ho).other w.heap.size 1 (.int .i64 c) ho).other w.heap.size 2 (.int .i64 0) ho
            simp only [List.set_cons_zero, List.set_cons_succ] at rp
            generalize ((wt.setCell ⟨w.heap.size, 0, none⟩ (.int .i64 a)).setCell ⟨w.heap.size, 1, none⟩ (.int .i64 c)).setCell ⟨w.heap.size, 2, none⟩ (.int .i64 0) = xt at *
            obtain ⟨p0, p1, p2, -⟩ := rp.c3; obtain ⟨o0, o1, o2, -⟩ := ro.c3
            go_wp2_with (first
              | ((with_reducible refine (D2.out _).mono ?_); rintro e wt2 ⟨rfl, hw⟩; replace rp := rp.up hw; replace ro := ro.up hw; replace hu := hu.next hw; clear hw; obtain ⟨p0, p1, p2, -⟩ := rp.c3; obtain ⟨o0, o1, o2, -⟩ := ro.c3)
              | ((with_reducible refine (D3.out _).mono ?_); rintro e wt2 ⟨rfl, hw⟩; replace rp := rp.up hw; replace ro := ro.up hw; replace hu := hu.next hw; clear hw))
            exact ⟨⟨k + 1, a, c, 0, by omega, by go_num, HR2.out, hc0, rp, hu⟩, by simp [intOf]; omega⟩
      · have j1 : decide ((k : Int) < (n : Int)) = true := by simp; omega
        have j2 : decide ((k : Int) < 60) = false := by simp; omega
        go_wp2_with ((with_reducible refine (D5.out _).mono ?_); rintro e w5 ⟨rfl, hw⟩; replace hu := hu.next hw; clear hw)
        go_ret
        exact ⟨rfl, hu⟩
    · have j1 : decide ((k : Int) < (n : Int)) = false := by simp; omega
      go_wp2_with ((with_reducible refine (D5.out _).mono ?_); rintro e w5 ⟨rfl, hw⟩; replace hu := hu.next hw; clear hw)
      go_ret
      exact ⟨rfl, hu⟩
end Go.Proofs.Ytbjnklgicakndaa
