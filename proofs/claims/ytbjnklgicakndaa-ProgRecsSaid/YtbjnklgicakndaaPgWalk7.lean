import Derived.Test.YtbjnklgicakndaaPgWalk6
namespace Go.Proofs.Ytbjnklgicakndaa
open Go.RowKit Bw
set_option linter.unusedVariables false

set_option maxHeartbeats 1000000 in
theorem law5_Ref (r : RecD) (pp : Option Addr) (pn pc : Nat) (w : World) : Calls Try.prog 26 #[recV r (.slice pp pn pc)] w fun e w' => e = .returned (recV r (.slice pp pn pc)) ∧ Below w.heap.size w w' := by
  obtain ⟨k, t, key, val, p, u, n, l⟩ := r
  unfold recV
  have hu := Up.refl w
  go_enter Try.func26, Try.ntmps26
  go_upto_region 1 with fail
  have rp := ((RowAt.made w 41 [.int .i64 k, .int .i64 t, .string key, .string val, .int .i64 p, .int .i64 u, .int .i64 n, .slice pp pn pc]).alloc (.cells #[.int .i64 0, .int .i64 0, .string ⟨#[]⟩, .string ⟨#[]⟩, .int .i64 0, .int .i64 0, .int .i64 0, .slice none 0 0] 48))
  have rr := (RowAt.made (w.alloc (.cells #[.int .i64 k, .int .i64 t, .string key, .string val, .int .i64 p, .int .i64 u, .int .i64 n, .slice pp pn pc] 41)) 48 [.int .i64 0, .int .i64 0, .string ⟨#[]⟩, .string ⟨#[]⟩, .int .i64 0, .int .i64 0, .int .i64 0, .slice none 0 0])
  simp at rp rr
  replace hu := ((hu.alloc (.cells #[.int .i64 k, .int .i64 t, .string key, .string val, .int .i64 p, .int .i64 u, .int .i64 n, .slice pp pn pc] 41)).alloc (.cells #[.int .i64 0, .int .i64 0, .string ⟨#[]⟩, .string ⟨#[]⟩, .int .i64 0, .int .i64 0, .int .i64 0, .slice none 0 0] 48))
  generalize hw3 : (w.alloc (.cells #[.int .i64 k, .int .i64 t, .string key, .string val, .int .i64 p, .int .i64 u, .int .i64 n, .slice pp pn pc] 41)).alloc (.cells #[.int .i64 0, .int .i64 0, .string ⟨#[]⟩, .string ⟨#[]⟩, .int .i64 0, .int .i64 0, .int .i64 0, .slice none 0 0] 48) = w3 at *
  clear hw3
  obtain ⟨p0, p1, p2, p3, p4, p5, p6, p7, -⟩ := rp.c8
  obtain ⟨r0, r1, r2, r3, r4, r5, r6, r7, z0, z1, z2, z3, z4, z5, z6, z7⟩ := rr.c8
  have hrl := rr.lt
  go_wp2_with fail
  refine bodyPost_ret (v := .agg #[.int .i64 k, .int .i64 t, .string key, .string val, .int .i64 p, .int .i64 u, .int .i64 n, .slice pp pn pc]) (by simp [results, Try.results26, go_sem, progV, recV, *]) rfl ⟨rfl, ?_⟩
  repeat (first | refine Up.setCell ?_ _ _ _ (by first | omega | (simp; done) | (simp; omega)) | refine Up.alloc ?_ _)
  exact hu


theorem rightR_k {r : RecD} (h : r.rightR = true) : 1 ≤ r.k ∧ r.k ≤ 7 := by
  simp only [RecD.rightR, inB, Bool.and_eq_true, decide_eq_true_eq] at h
  omega

set_option maxHeartbeats 4000000 in
theorem ref20_Of (r : RecD) (pa : Option Addr) (ca : Nat) (w : World) (hA : PairsAt w pa r.l) (la : r.l.length ≤ 1099511627776) (hs : ∀ p ∈ r.l, p.1.size ≤ 1099511627776) :
    Calls Try.prog 25 #[recV r (.slice pa r.l.length ca)] w fun e w' => e = .returned (.tuple #[ofV r, .int .i64 (ofE r)]) ∧ Below w.heap.size w w' := by
  have C1 := Lib.hid (fun w1 (h : Up w w1) => ref5_Right r pa ca w1 (hA.up h) la hs)
  have C2 := Lib.hid (fun w => ref20_Right r.p r.u r.n w)
  have hV : ofV r = if ofE r = 0 then progV r.p r.u r.n else progV 0 0 0 := rfl
  have hE : ofE r = if r.rightR && (r.k == 6 || r.k == 7) && rightB r.p r.u r.n then 0 else 4 := rfl
  have hk := rightR_k (r := r)
  generalize ofV r = V at *
  generalize ofE r = E at *
  generalize r.rightR = R1 at *
  obtain ⟨k, t, key, val, p, u, n, l⟩ := r
  simp only at *
  generalize rightB p u n = R2 at *
  unfold recV progV at *
  have hu := Up.refl w
  clear hA la hs
  simp only at *
  cases R1
  · simp at hE
    subst hE
    simp at hV
    subst hV
    go_enter Try.func25, Try.ntmps25
    go_upto_region 2 with fail
    have rp := ((((RowAt.made w 48 [.int .i64 k, .int .i64 t, .string key, .string val, .int .i64 p, .int .i64 u, .int .i64 n, .slice pa l.length ca]).alloc (.cells #[.int .i64 0, .int .i64 0, .int .i64 0] 27)).alloc (.cells #[.int .i64 p, .int .i64 u, .int .i64 n] 27)))
    have rr := ((RowAt.made (w.alloc (.cells #[.int .i64 k, .int .i64 t, .string key, .string val, .int .i64 p, .int .i64 u, .int .i64 n, .slice pa l.length ca] 48)) 27 [.int .i64 0, .int .i64 0, .int .i64 0]).alloc (.cells #[.int .i64 p, .int .i64 u, .int .i64 n] 27))
    have rq := (RowAt.made ((w.alloc (.cells #[.int .i64 k, .int .i64 t, .string key, .string val, .int .i64 p, .int .i64 u, .int .i64 n, .slice pa l.length ca] 48)).alloc (.cells #[.int .i64 0, .int .i64 0, .int .i64 0] 27)) 27 [.int .i64 p, .int .i64 u, .int .i64 n])
    simp at rp rr rq
    replace hu := (((hu.alloc (.cells #[.int .i64 k, .int .i64 t, .string key, .string val, .int .i64 p, .int .i64 u, .int .i64 n, .slice pa l.length ca] 48)).alloc (.cells #[.int .i64 0, .int .i64 0, .int .i64 0] 27)).alloc (.cells #[.int .i64 p, .int .i64 u, .int .i64 n] 27))
    generalize hw3 : ((w.alloc (.cells #[.int .i64 k, .int .i64 t, .string key, .string val, .int .i64 p, .int .i64 u, .int .i64 n, .slice pa l.length ca] 48)).alloc (.cells #[.int .i64 0, .int .i64 0, .int .i64 0] 27)).alloc (.cells #[.int .i64 p, .int .i64 u, .int .i64 n] 27) = w3 at *
    clear hw3
    obtain ⟨p0, p1, p2, p3, p4, p5, p6, p7, -⟩ := rp.c8
    obtain ⟨q0, q1, q2, -⟩ := rq.c3
    obtain ⟨y0, y1, y2, z0, z1, z2⟩ := rr.c3
    have hrl := rq.lt
    go_wp2_with (first
      | ((with_reducible refine (C1.out _ ?_).mono ?_); (· exact hu); rintro e w9 ⟨rfl, hw9⟩; replace rp := rp.up hw9; replace rr := rr.up hw9; replace rq := rq.up hw9; obtain ⟨p0, p1, p2, p3, p4, p5, p6, p7, -⟩ := rp.c8; obtain ⟨q0, q1, q2, -⟩ := rq.c3; obtain ⟨y0, y1, y2, z0, z1, z2⟩ := rr.c3; have hrl := rq.lt; replace hu := hu.next hw9; clear hw9)
      | ((with_reducible refine (C2.out _).mono ?_); rintro e w9 ⟨rfl, hw9⟩; replace rp := rp.up hw9; replace rr := rr.up hw9; replace rq := rq.up hw9; obtain ⟨p0, p1, p2, p3, p4, p5, p6, p7, -⟩ := rp.c8; obtain ⟨q0, q1, q2, -⟩ := rq.c3; obtain ⟨y0, y1, y2, z0, z1, z2⟩ := rr.c3; have hrl := rq.lt; replace hu := hu.next hw9; clear hw9))
    refine bodyPost_ret (v := .tuple #[progV 0 0 0, .int .i64 4]) (by simp [results, Try.results25, go_sem, progV, recV, *]) rfl ⟨rfl, ?_⟩
    repeat (first | refine Up.setCell ?_ _ _ _ (by first | omega | (simp; done) | (simp; omega)) | refine Up.alloc ?_ _)
    exact hu
  have hkk := hk rfl
  clear hk
  by_cases h6 : k < 6
  · rw [show (k == 6 || k == 7) = false by simp; omega] at hE
    have b6 : decide (k < 6) = true := by simp [h6]
    simp at hE
    subst hE
    simp at hV
    subst hV
    go_enter Try.func25, Try.ntmps25
    go_upto_region 2 with fail
    have rp := ((((RowAt.made w 48 [.int .i64 k, .int .i64 t, .string key, .string val, .int .i64 p, .int .i64 u, .int .i64 n, .slice pa l.length ca]).alloc (.cells #[.int .i64 0, .int .i64 0, .int .i64 0] 27)).alloc (.cells #[.int .i64 p, .int .i64 u, .int .i64 n] 27)))
    have rr := ((RowAt.made (w.alloc (.cells #[.int .i64 k, .int .i64 t, .string key, .string val, .int .i64 p, .int .i64 u, .int .i64 n, .slice pa l.length ca] 48)) 27 [.int .i64 0, .int .i64 0, .int .i64 0]).alloc (.cells #[.int .i64 p, .int .i64 u, .int .i64 n] 27))
    have rq := (RowAt.made ((w.alloc (.cells #[.int .i64 k, .int .i64 t, .string key, .string val, .int .i64 p, .int .i64 u, .int .i64 n, .slice pa l.length ca] 48)).alloc (.cells #[.int .i64 0, .int .i64 0, .int .i64 0] 27)) 27 [.int .i64 p, .int .i64 u, .int .i64 n])
    simp at rp rr rq
    replace hu := (((hu.alloc (.cells #[.int .i64 k, .int .i64 t, .string key, .string val, .int .i64 p, .int .i64 u, .int .i64 n, .slice pa l.length ca] 48)).alloc (.cells #[.int .i64 0, .int .i64 0, .int .i64 0] 27)).alloc (.cells #[.int .i64 p, .int .i64 u, .int .i64 n] 27))
    generalize hw3 : ((w.alloc (.cells #[.int .i64 k, .int .i64 t, .string key, .string val, .int .i64 p, .int .i64 u, .int .i64 n, .slice pa l.length ca] 48)).alloc (.cells #[.int .i64 0, .int .i64 0, .int .i64 0] 27)).alloc (.cells #[.int .i64 p, .int .i64 u, .int .i64 n] 27) = w3 at *
    clear hw3
    obtain ⟨p0, p1, p2, p3, p4, p5, p6, p7, -⟩ := rp.c8
    obtain ⟨q0, q1, q2, -⟩ := rq.c3
    obtain ⟨y0, y1, y2, z0, z1, z2⟩ := rr.c3
    have hrl := rq.lt
    go_wp2_with (first
      | ((with_reducible refine (C1.out _ ?_).mono ?_); (· exact hu); rintro e w9 ⟨rfl, hw9⟩; replace rp := rp.up hw9; replace rr := rr.up hw9; replace rq := rq.up hw9; obtain ⟨p0, p1, p2, p3, p4, p5, p6, p7, -⟩ := rp.c8; obtain ⟨q0, q1, q2, -⟩ := rq.c3; obtain ⟨y0, y1, y2, z0, z1, z2⟩ := rr.c3; have hrl := rq.lt; replace hu := hu.next hw9; clear hw9)
      | ((with_reducible refine (C2.out _).mono ?_); rintro e w9 ⟨rfl, hw9⟩; replace rp := rp.up hw9; replace rr := rr.up hw9; replace rq := rq.up hw9; obtain ⟨p0, p1, p2, p3, p4, p5, p6, p7, -⟩ := rp.c8; obtain ⟨q0, q1, q2, -⟩ := rq.c3; obtain ⟨y0, y1, y2, z0, z1, z2⟩ := rr.c3; have hrl := rq.lt; replace hu := hu.next hw9; clear hw9))
    refine bodyPost_ret (v := .tuple #[progV 0 0 0, .int .i64 4]) (by simp [results, Try.results25, go_sem, progV, recV, *]) rfl ⟨rfl, ?_⟩
    repeat (first | refine Up.setCell ?_ _ _ _ (by first | omega | (simp; done) | (simp; omega)) | refine Up.alloc ?_ _)
    exact hu
  · rw [show (k == 6 || k == 7) = true by simp; omega] at hE
    have b6 : decide (k < 6) = false := by simp; omega
    cases R2
    · simp at hE
      subst hE
      simp at hV
      subst hV
      go_enter Try.func25, Try.ntmps25
      go_upto_region 2 with fail
      have rp := ((((RowAt.made w 48 [.int .i64 k, .int .i64 t, .string key, .string val, .int .i64 p, .int .i64 u, .int .i64 n, .slice pa l.length ca]).alloc (.cells #[.int .i64 0, .int .i64 0, .int .i64 0] 27)).alloc (.cells #[.int .i64 p, .int .i64 u, .int .i64 n] 27)))
      have rr := ((RowAt.made (w.alloc (.cells #[.int .i64 k, .int .i64 t, .string key, .string val, .int .i64 p, .int .i64 u, .int .i64 n, .slice pa l.length ca] 48)) 27 [.int .i64 0, .int .i64 0, .int .i64 0]).alloc (.cells #[.int .i64 p, .int .i64 u, .int .i64 n] 27))
      have rq := (RowAt.made ((w.alloc (.cells #[.int .i64 k, .int .i64 t, .string key, .string val, .int .i64 p, .int .i64 u, .int .i64 n, .slice pa l.length ca] 48)).alloc (.cells #[.int .i64 0, .int .i64 0, .int .i64 0] 27)) 27 [.int .i64 p, .int .i64 u, .int .i64 n])
      simp at rp rr rq
      replace hu := (((hu.alloc (.cells #[.int .i64 k, .int .i64 t, .string key, .string val, .int .i64 p, .int .i64 u, .int .i64 n, .slice pa l.length ca] 48)).alloc (.cells #[.int .i64 0, .int .i64 0, .int .i64 0] 27)).alloc (.cells #[.int .i64 p, .int .i64 u, .int .i64 n] 27))
      generalize hw3 : ((w.alloc (.cells #[.int .i64 k, .int .i64 t, .string key, .string val, .int .i64 p, .int .i64 u, .int .i64 n, .slice pa l.length ca] 48)).alloc (.cells #[.int .i64 0, .int .i64 0, .int .i64 0] 27)).alloc (.cells #[.int .i64 p, .int .i64 u, .int .i64 n] 27) = w3 at *
      clear hw3
      obtain ⟨p0, p1, p2, p3, p4, p5, p6, p7, -⟩ := rp.c8
      obtain ⟨q0, q1, q2, -⟩ := rq.c3
      obtain ⟨y0, y1, y2, z0, z1, z2⟩ := rr.c3
      have hrl := rq.lt
      go_wp2_with (first
        | ((with_reducible refine (C1.out _ ?_).mono ?_); (· exact hu); rintro e w9 ⟨rfl, hw9⟩; replace rp := rp.up hw9; replace rr := rr.up hw9; replace rq := rq.up hw9; obtain ⟨p0, p1, p2, p3, p4, p5, p6, p7, -⟩ := rp.c8; obtain ⟨q0, q1, q2, -⟩ := rq.c3; obtain ⟨y0, y1, y2, z0, z1, z2⟩ := rr.c3; have hrl := rq.lt; replace hu := hu.next hw9; clear hw9)
        | ((with_reducible refine (C2.out _).mono ?_); rintro e w9 ⟨rfl, hw9⟩; replace rp := rp.up hw9; replace rr := rr.up hw9; replace rq := rq.up hw9; obtain ⟨p0, p1, p2, p3, p4, p5, p6, p7, -⟩ := rp.c8; obtain ⟨q0, q1, q2, -⟩ := rq.c3; obtain ⟨y0, y1, y2, z0, z1, z2⟩ := rr.c3; have hrl := rq.lt; replace hu := hu.next hw9; clear hw9))
      refine bodyPost_ret (v := .tuple #[progV 0 0 0, .int .i64 4]) (by simp [results, Try.results25, go_sem, progV, recV, *]) rfl ⟨rfl, ?_⟩
      repeat (first | refine Up.setCell ?_ _ _ _ (by first | omega | (simp; done) | (simp; omega)) | refine Up.alloc ?_ _)
      exact hu
    · simp at hE
      subst hE
      simp at hV
      subst hV
      go_enter Try.func25, Try.ntmps25
      go_upto_region 2 with fail
      have rp := ((((RowAt.made w 48 [.int .i64 k, .int .i64 t, .string key, .string val, .int .i64 p, .int .i64 u, .int .i64 n, .slice pa l.length ca]).alloc (.cells #[.int .i64 0, .int .i64 0, .int .i64 0] 27)).alloc (.cells #[.int .i64 p, .int .i64 u, .int .i64 n] 27)))
      have rr := ((RowAt.made (w.alloc (.cells #[.int .i64 k, .int .i64 t, .string key, .string val, .int .i64 p, .int .i64 u, .int .i64 n, .slice pa l.length ca] 48)) 27 [.int .i64 0, .int .i64 0, .int .i64 0]).alloc (.cells #[.int .i64 p, .int .i64 u, .int .i64 n] 27))
      have rq := (RowAt.made ((w.alloc (.cells #[.int .i64 k, .int .i64 t, .string key, .string val, .int .i64 p, .int .i64 u, .int .i64 n, .slice pa l.length ca] 48)).alloc (.cells #[.int .i64 0, .int .i64 0, .int .i64 0] 27)) 27 [.int .i64 p, .int .i64 u, .int .i64 n])
      simp at rp rr rq
      replace hu := (((hu.alloc (.cells #[.int .i64 k, .int .i64 t, .string key, .string val, .int .i64 p, .int .i64 u, .int .i64 n, .slice pa l.length ca] 48)).alloc (.cells #[.int .i64 0, .int .i64 0, .int .i64 0] 27)).alloc (.cells #[.int .i64 p, .int .i64 u, .int .i64 n] 27))
      generalize hw3 : ((w.alloc (.cells #[.int .i64 k, .int .i64 t, .string key, .string val, .int .i64 p, .int .i64 u, .int .i64 n, .slice pa l.length ca] 48)).alloc (.cells #[.int .i64 0, .int .i64 0, .int .i64 0] 27)).alloc (.cells #[.int .i64 p, .int .i64 u, .int .i64 n] 27) = w3 at *
      clear hw3
      obtain ⟨p0, p1, p2, p3, p4, p5, p6, p7, -⟩ := rp.c8
      obtain ⟨q0, q1, q2, -⟩ := rq.c3
      obtain ⟨y0, y1, y2, z0, z1, z2⟩ := rr.c3
      have hrl := rq.lt
      go_wp2_with (first
        | ((with_reducible refine (C1.out _ ?_).mono ?_); (· exact hu); rintro e w9 ⟨rfl, hw9⟩; replace rp := rp.up hw9; replace rr := rr.up hw9; replace rq := rq.up hw9; obtain ⟨p0, p1, p2, p3, p4, p5, p6, p7, -⟩ := rp.c8; obtain ⟨q0, q1, q2, -⟩ := rq.c3; obtain ⟨y0, y1, y2, z0, z1, z2⟩ := rr.c3; have hrl := rq.lt; replace hu := hu.next hw9; clear hw9)
        | ((with_reducible refine (C2.out _).mono ?_); rintro e w9 ⟨rfl, hw9⟩; replace rp := rp.up hw9; replace rr := rr.up hw9; replace rq := rq.up hw9; obtain ⟨p0, p1, p2, p3, p4, p5, p6, p7, -⟩ := rp.c8; obtain ⟨q0, q1, q2, -⟩ := rq.c3; obtain ⟨y0, y1, y2, z0, z1, z2⟩ := rr.c3; have hrl := rq.lt; replace hu := hu.next hw9; clear hw9))
      refine bodyPost_ret (v := .tuple #[progV p u n, .int .i64 0]) (by simp [results, Try.results25, go_sem, progV, recV, *]) rfl ⟨rfl, ?_⟩
      repeat (first | refine Up.setCell ?_ _ _ _ (by first | omega | (simp; done) | (simp; omega)) | refine Up.alloc ?_ _)
      exact hu
end Go.Proofs.Ytbjnklgicakndaa
