import Derived.Test.YtbjnklgicakndaaPgFixed
namespace Go.Proofs.Ytbjnklgicakndaa
open Go.RowKit Bw
set_option linter.unusedVariables false

theorem units_pure (P i : Int) (h1 : 1 ≤ P) (h2 : P ≤ 3) (h3 : 0 ≤ i) (h4 : i ≤ 200) :
    beginE P i 0 = 0 ∧ beginV P i 0 = progV P i (i + 1) ∧ beginE P i (i + 1) = 9 ∧ nextE P i (i + 1) = 9 ∧ endE P i (i + 1) = 0 ∧ endV P i (i + 1) = progV P (i + 1) 0 ∧ nextE P i 0 = 0 ∧ nextV P i 0 = progV (P + 1) 0 0 ∧ beginV P i (i + 1) = progV 0 0 0 ∧ nextV P i (i + 1) = progV 0 0 0 := by
  have r0 : rightB P i 0 = true := by simp [rightB, worksB]; omega
  have r1 : rightB P i (i + 1) = true := by simp [rightB, worksB]; omega
  have a1 : beginE P i 0 = 0 := by
    simp only [beginE, mayE, r0, if_true]; rw [if_pos]; simp [worksB]; omega
  have a2 : beginE P i (i + 1) = 9 := by
    simp only [beginE, mayE, r1, if_true]; rw [if_neg]; simp; omega
  have a3 : nextE P i (i + 1) = 9 := by
    simp only [nextE, mayE, r1, if_true]; rw [if_neg]; simp; omega
  have a4 : endE P i (i + 1) = 0 := by
    simp only [endE, mayE, r1, if_true]; rw [if_pos]; simp; omega
  have a5 : nextE P i 0 = 0 := by
    simp only [nextE, mayE, r0, if_true]; rw [if_pos]; simp; omega
  exact ⟨a1, by rw [beginV, if_pos a1], a2, a3, a4, by rw [endV, if_pos a4], a5, by rw [nextV, if_pos a5], by rw [beginV, if_neg (by omega)], by rw [nextV, if_neg (by omega)]⟩

set_option maxHeartbeats 4000000 in
set_option maxRecDepth 100000 in
theorem units_walk (a b : Int) (w : World) (ha : 0 ≤ a) (ha2 : a ≤ 255) (hb : 0 ≤ b) (hb2 : b ≤ 255) :
    Calls Try.prog 7 #[.int .u8 a, .int .u8 b] w fun e w' => e = .returned (.bool true) ∧ Below w.heap.size w w' := by
  have D5 := Lib.hid law20_fixed
  have hu := Up.refl w
  obtain ⟨P, hP⟩ : ∃ P, 1 + a % 3 = P := ⟨_, rfl⟩
  obtain ⟨N, hN⟩ : ∃ N, b % 200 = N := ⟨_, rfl⟩
  have hP1 : 1 ≤ P := by omega
  have hP2 : P ≤ 3 := by omega
  have hN1 : 0 ≤ N := by omega
  have hN2 : N < 200 := by omega
  go_enter Try.func7, Try.ntmps7
  go_upto_region 3 with fail
  have rp := RowAt.made w 23 [.int .i64 P, .int .i64 0, .int .i64 0]
  replace hu := hu.alloc (.cells #[.int .i64 P, .int .i64 0, .int .i64 0] 23)
  generalize w.alloc (.cells #[.int .i64 P, .int .i64 0, .int .i64 0] 23) = wx at *
  rw [hN]
  clear hN hP
  go_wp2_with fail
  go_loopw [7] (fun v wr => ∃ k : Nat, (k : Int) ≤ N ∧ v = .int .i64 k ∧ RowAt wr w.heap.size [.int .i64 P, .int .i64 k, .int .i64 0] ∧ Up w wr) (fun v _ => 200 - (intOf v).toNat)
  case atStart => exact ⟨0, by omega, rfl, rp, hu⟩
  case round =>
    clear rp hu
    obtain ⟨k, hk, rfl, rp, hu⟩ := hrel
    obtain ⟨e1, e2, e3, e4, e5, e6, e7, e8, e9, e10⟩ := units_pure P k hP1 hP2 (by omega) (by omega)
    by_cases hlt : (k : Int) < N
    · have c1 := fun w => prog_Begin P k 0 w (by omega)
      have c2 := fun w => prog_Begin P k (k + 1) w (by omega)
      have c3 := fun w => prog_Next P k (k + 1) w (by omega)
      have c4 := fun w => prog_End P k (k + 1) w (by omega)
      rw [e1, e2] at c1
      rw [e3, e9] at c2
      rw [e4, e10] at c3
      rw [e5, e6] at c4
      clear e1 e2 e3 e4 e5 e6 e7 e8 e9 e10
      unfold progV at *
      have C1 := Lib.hid c1; have C2 := Lib.hid c2; have C3 := Lib.hid c3; have C4 := Lib.hid c4
      clear c1 c2 c3 c4
      obtain ⟨p0, p1, p2, -⟩ := rp.c3
      go_upto_region 7 with ((with_reducible refine (C1.out _).mono ?_); rintro e w1 ⟨rfl, hw⟩; replace rp := rp.up hw; replace hu := hu.next hw; clear hw)
      clear p0 p1 p2
      have rq := RowAt.made w1 23 [.int .i64 P, .int .i64 k, .int .i64 (k + 1)]
      replace hu := hu.alloc (.cells #[.int .i64 P, .int .i64 k, .int .i64 (k + 1)] 23)
      replace rp := rp.alloc (.cells #[.int .i64 P, .int .i64 k, .int .i64 (k + 1)] 23)
      generalize w1.heap.size = g1 at *
      generalize w1.alloc (.cells #[.int .i64 P, .int .i64 k, .int .i64 (k + 1)] 23) = x1 at *
      obtain ⟨q0, q1, q2, -⟩ := rq.c3
      go_upto_region 8 with ((with_reducible refine (C2.out _).mono ?_); rintro e w2 ⟨rfl, hw⟩; replace rp := rp.up hw; replace rq := rq.up hw; replace hu := hu.next hw; clear hw)
      clear q0 q1 q2
      replace hu := hu.alloc (.cells #[.int .i64 0, .int .i64 0, .int .i64 0] 23)
      replace rp := rp.alloc (.cells #[.int .i64 0, .int .i64 0, .int .i64 0] 23)
      replace rq := rq.alloc (.cells #[.int .i64 0, .int .i64 0, .int .i64 0] 23)
      generalize w2.alloc (.cells #[.int .i64 0, .int .i64 0, .int .i64 0] 23) = x2 at *
      obtain ⟨q0, q1, q2, -⟩ := rq.c3
      go_upto_region 9 with ((with_reducible refine (C3.out _).mono ?_); rintro e w3 ⟨rfl, hw⟩; replace rp := rp.up hw; replace rq := rq.up hw; replace hu := hu.next hw; clear hw)
      clear q0 q1 q2
      replace hu := hu.alloc (.cells #[.int .i64 0, .int .i64 0, .int .i64 0] 23)
      replace rp := rp.alloc (.cells #[.int .i64 0, .int .i64 0, .int .i64 0] 23)
      replace rq := rq.alloc (.cells #[.int .i64 0, .int .i64 0, .int .i64 0] 23)
      generalize w3.alloc (.cells #[.int .i64 0, .int .i64 0, .int .i64 0] 23) = x3 at *
      obtain ⟨q0, q1, q2, -⟩ := rq.c3
      go_upto_region 10 with ((with_reducible refine (C4.out _).mono ?_); rintro e w4 ⟨rfl, hw⟩; replace rp := rp.up hw; replace rq := rq.up hw; replace hu := hu.next hw; clear hw)
      clear q0 q1 q2
      have hlp := rp.lt
      have rx := RowAt.made w4 23 [.int .i64 P, .int .i64 (k + 1), .int .i64 0]
      replace hu := hu.alloc (.cells #[.int .i64 P, .int .i64 (k + 1), .int .i64 0] 23)
      replace rp := rp.alloc (.cells #[.int .i64 P, .int .i64 (k + 1), .int .i64 0] 23)
      replace rq := rq.alloc (.cells #[.int .i64 P, .int .i64 (k + 1), .int .i64 0] 23)
      generalize w4.heap.size = g4 at *
      generalize w4.alloc (.cells #[.int .i64 P, .int .i64 (k + 1), .int .i64 0] 23) = x4 at *
      obtain ⟨q0, q1, q2, -⟩ := rq.c3
      obtain ⟨p0, p1, p2, p3, p4, p5⟩ := rp.c3
      obtain ⟨x0, x1, x2, -⟩ := rx.c3
      go_wp2_with fail
      have hle := hu.out.size
      refine ⟨⟨k + 1, by omega, by go_num, ?_, ?_⟩, by simp [intOf]; omega⟩
      · exact (((rp.set 0 _ (by simp)).set 1 _ (by simp)).set 2 _ (by simp))
      · repeat (refine Up.setCell ?_ _ _ _ (by omega))
        exact hu
    · obtain rfl : N = k := by omega
      have c1 := fun w => prog_Next P k 0 w (by omega)
      rw [e7, e8] at c1
      clear e1 e2 e3 e4 e5 e6 e7 e8 e9 e10
      unfold progV at *
      have C1 := Lib.hid c1; clear c1
      obtain ⟨p0, p1, p2, -⟩ := rp.c3
      go_upto_region 14 with ((with_reducible refine (C1.out _).mono ?_); rintro e w1 ⟨rfl, hw⟩; replace rp := rp.up hw; replace hu := hu.next hw; clear hw)
      clear p0 p1 p2
      have rq := RowAt.made w1 23 [.int .i64 (P + 1), .int .i64 0, .int .i64 0]
      replace hu := hu.alloc (.cells #[.int .i64 (P + 1), .int .i64 0, .int .i64 0] 23)
      replace rp := rp.alloc (.cells #[.int .i64 (P + 1), .int .i64 0, .int .i64 0] 23)
      generalize w1.heap.size = g1 at *
      generalize w1.alloc (.cells #[.int .i64 (P + 1), .int .i64 0, .int .i64 0] 23) = x1 at *
      obtain ⟨p0, p1, p2, -⟩ := rp.c3
      obtain ⟨q0, q1, q2, -⟩ := rq.c3
      go_wp2_with ((with_reducible refine (D5.out _).mono ?_); rintro e w5 ⟨rfl, hw⟩; replace hu := hu.next hw; clear hw)
      go_ret
      exact ⟨rfl, hu⟩
end Go.Proofs.Ytbjnklgicakndaa
