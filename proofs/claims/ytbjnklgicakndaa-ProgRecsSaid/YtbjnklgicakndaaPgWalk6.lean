import Derived.Test.YtbjnklgicakndaaPgWalk5
import Derived.Test.YtbjnklgicakndaaRecWalk6
import Derived.Test.YtbjnklgicakndaaRec5Walk3
namespace Go.Proofs.Ytbjnklgicakndaa
open Go.RowKit Bw
set_option linter.unusedVariables false

def noRec : RecD := ⟨0, 0, ByteArray.empty, ByteArray.empty, 0, 0, 0, []⟩
def progRec (p u o : Int) : RecD := if rightB p u o then ⟨6, 0, ByteArray.empty, ByteArray.empty, p, u, o, []⟩ else noRec

set_option maxHeartbeats 1000000 in
theorem prog_Rec (p u o : Int) (w : World) (hu1 : -9223372036854775808 ≤ u) :
    Calls Try.prog 21 #[progV p u o] w fun r w' => r = .returned (.tuple #[recV (progRec p u o) (.slice none 0 0), .int .i64 (fwdE p u o)]) ∧ Below w.heap.size w w' := by
  have c1 := fun w => may_none p u o w hu1
  unfold mayE at c1
  have hE : fwdE p u o = if rightB p u o then 0 else 1 := rfl
  have hR : progRec p u o = if rightB p u o then ⟨6, 0, ByteArray.empty, ByteArray.empty, p, u, o, []⟩ else noRec := rfl
  generalize fwdE p u o = E at *
  generalize progRec p u o = D at *
  generalize rightB p u o = R at *
  unfold progV at *
  have hu := (Up.refl w)
  have rp := ((RowAt.made w 23 [.int .i64 p, .int .i64 u, .int .i64 o]).alloc (.cells #[.int .i64 0, .int .i64 0, .string ⟨#[]⟩, .string ⟨#[]⟩, .int .i64 0, .int .i64 0, .int .i64 0, .slice none 0 0] 41))
  have rr := (RowAt.made (w.alloc (.cells #[.int .i64 p, .int .i64 u, .int .i64 o] 23)) 41 [.int .i64 0, .int .i64 0, .string ⟨#[]⟩, .string ⟨#[]⟩, .int .i64 0, .int .i64 0, .int .i64 0, .slice none 0 0])
  simp at rp rr
  replace hu := ((hu.alloc (.cells #[.int .i64 p, .int .i64 u, .int .i64 o] 23)).alloc (.cells #[.int .i64 0, .int .i64 0, .string ⟨#[]⟩, .string ⟨#[]⟩, .int .i64 0, .int .i64 0, .int .i64 0, .slice none 0 0] 41))
  cases R
  all_goals
    simp at hE hR c1
    subst hE hR
    have eE : (⟨#[]⟩ : ByteArray) = ByteArray.empty := rfl
    have C1 := Lib.hid c1; clear c1
    go_enter Try.func21, Try.ntmps21
    go_wp2_with ((with_reducible refine (C1.out _).mono ?_); rintro e w1 ⟨rfl, hw1⟩; replace rp := rp.up hw1; replace rr := rr.up hw1; obtain ⟨p0, p1, p2, -⟩ := rp.c3; obtain ⟨r0, r1, r2, r3, r4, r5, r6, r7, z0, z1, z2, z3, z4, z5, z6, z7⟩ := rr.c8; have hrl := rr.lt; replace hu := hu.next hw1; clear hw1)
  · have eR : recV noRec (.slice none 0 0) = .agg #[.int .i64 0, .int .i64 0, .string ByteArray.empty, .string ByteArray.empty, .int .i64 0, .int .i64 0, .int .i64 0, .slice none 0 0] := rfl
    refine bodyPost_ret (v := .tuple #[.agg #[.int .i64 0, .int .i64 0, .string ByteArray.empty, .string ByteArray.empty, .int .i64 0, .int .i64 0, .int .i64 0, .slice none 0 0], .int .i64 1]) (by simp [results, Try.results21, go_sem, progV, recV, *]) rfl ⟨rfl, ?_⟩
    repeat (first | refine Up.setCell ?_ _ _ _ (by first | omega | (simp; done) | (simp; omega)) | refine Up.alloc ?_ _)
    exact hu
  · refine bodyPost_ret (v := .tuple #[recV ⟨6, 0, ByteArray.empty, ByteArray.empty, p, u, o, []⟩ (.slice none 0 0), .int .i64 0]) (by simp [results, Try.results21, go_sem, progV, recV, *]) rfl ⟨rfl, ?_⟩
    repeat (first | refine Up.setCell ?_ _ _ _ (by first | omega | (simp; done) | (simp; omega)) | refine Up.alloc ?_ _)
    exact hu

def ofE (r : RecD) : Int := if r.rightR && (r.k == 6 || r.k == 7) && rightB r.p r.u r.n then 0 else 4
def ofV (r : RecD) : Value := if ofE r = 0 then progV r.p r.u r.n else progV 0 0 0

theorem all_three_of (a b c : Bool) (w : World) (g : Nat) (hg : w.heap.size = g) (e : TypeId) (d : Bool) (hd : (a && b && c) = d) :
    Calls Try.prog 32 #[.slice (some ⟨g, 0, none⟩) 3 3] (w.alloc (.cells #[.bool a, .bool b, .bool c] e)) fun e' w' => e' = .returned (.bool d) ∧ Below w.heap.size w w' := by
  subst hd; exact all_three_at a b c w g hg e


set_option maxHeartbeats 4000000 in
theorem prog_Of (r : RecD) (pa : Option Addr) (ca : Nat) (w : World) (hA : PairsAt w pa r.l) (la : r.l.length ≤ 1099511627776) (hu1 : -9223372036854775808 ≤ r.u) :
    Calls Try.prog 22 #[recV r (.slice pa r.l.length ca)] w fun e w' => e = .returned (.tuple #[ofV r, .int .i64 (ofE r)]) ∧ Below w.heap.size w w' := by
  have C1 := Lib.hid (fun w1 (h : Up w w1) => rec_Right r pa ca w1 (hA.up h) la)
  have C2 := Lib.hid (fun w => prog_Right r.p r.u r.n w hu1)
  have hV : ofV r = if ofE r = 0 then progV r.p r.u r.n else progV 0 0 0 := rfl
  have hE : ofE r = if r.rightR && (r.k == 6 || r.k == 7) && rightB r.p r.u r.n then 0 else 4 := rfl
  generalize ofV r = V at *
  generalize ofE r = E at *
  generalize r.rightR = R1 at *
  obtain ⟨k, t, key, val, p, u, n, l⟩ := r
  simp only at *
  generalize rightB p u n = R2 at *
  unfold recV progV at *
  have hu := Up.refl w
  clear hA la hu1
  simp only at *
  have ew : ∀ (K : Bool), (R1 && K && R2) = true ∨ (R1 && K && R2) = false := fun K => by cases R1 && K && R2 <;> simp
  by_cases h6 : k = 6
  · subst h6
    rw [show ((6 : Int) == 6 || (6 : Int) == 7) = true from rfl] at hE
    rcases ew true with he | he
    all_goals
      have C3 := Lib.hid (fun w g (hg : w.heap.size = g) => all_three_of R1 true R2 w g hg 4 _ he)
      simp only [he] at hE
      simp at hE
      subst hE
      simp at hV
      subst hV
      clear he ew
    · go_enter Try.func22, Try.ntmps22
      go_upto_region 2 with fail
      have rp := ((((RowAt.made w 41 [.int .i64 6, .int .i64 t, .string key, .string val, .int .i64 p, .int .i64 u, .int .i64 n, .slice pa l.length ca]).alloc (.cells #[.int .i64 0, .int .i64 0, .int .i64 0] 23)).alloc (.cells #[.int .i64 p, .int .i64 u, .int .i64 n] 23)))
      have rr := ((RowAt.made (w.alloc (.cells #[.int .i64 6, .int .i64 t, .string key, .string val, .int .i64 p, .int .i64 u, .int .i64 n, .slice pa l.length ca] 41)) 23 [.int .i64 0, .int .i64 0, .int .i64 0]).alloc (.cells #[.int .i64 p, .int .i64 u, .int .i64 n] 23))
      have rq := (RowAt.made ((w.alloc (.cells #[.int .i64 6, .int .i64 t, .string key, .string val, .int .i64 p, .int .i64 u, .int .i64 n, .slice pa l.length ca] 41)).alloc (.cells #[.int .i64 0, .int .i64 0, .int .i64 0] 23)) 23 [.int .i64 p, .int .i64 u, .int .i64 n])
      simp at rp rr rq
      replace hu := (((hu.alloc (.cells #[.int .i64 6, .int .i64 t, .string key, .string val, .int .i64 p, .int .i64 u, .int .i64 n, .slice pa l.length ca] 41)).alloc (.cells #[.int .i64 0, .int .i64 0, .int .i64 0] 23)).alloc (.cells #[.int .i64 p, .int .i64 u, .int .i64 n] 23))
      obtain ⟨p0, p1, p2, p3, p4, p5, p6, p7, -⟩ := rp.c8
      obtain ⟨q0, q1, q2, -⟩ := rq.c3
      have l0 := Later.cell_of p0; have l1 := Later.cell_of p1; have l2 := Later.cell_of p2; have l3 := Later.cell_of p3
      have l4 := Later.cell_of p4; have l5 := Later.cell_of p5; have l6 := Later.cell_of p6; have l7 := Later.cell_of p7
      have m0 := Later.cell_of q0; have m1 := Later.cell_of q1; have m2 := Later.cell_of q2
      clear p0 p1 p2 p3 p4 p5 p6 p7 q0 q1 q2
      generalize hw3 : ((w.alloc (.cells #[.int .i64 6, .int .i64 t, .string key, .string val, .int .i64 p, .int .i64 u, .int .i64 n, .slice pa l.length ca] 41)).alloc (.cells #[.int .i64 0, .int .i64 0, .int .i64 0] 23)).alloc (.cells #[.int .i64 p, .int .i64 u, .int .i64 n] 23) = w3 at *
      clear hw3
      have C5 := Lib.hid (show ∀ x : Later w3, Up w x.world from fun x => hu.trans x.up)
      have hne := later_ne w3
      refine wp_region_later_tail 12 (by kernel_rfl) (by kernel_rfl) ?_
      simp only [List.take_succ_cons, List.take_zero, List.drop_succ_cons, List.drop_zero]
      repeat (go_big_quiet_step (first
        | (go_at_call 23; exact Calls.later (C1.out _ (C5.out _)))
        | (go_at_call 16; exact Calls.later (C2.out _))))
      refine wpQuiet_nil ?_
      intro w9 hw9
      obtain ⟨u9, rfl⟩ := hw9
      replace hu := hu.trans u9.up
      replace rp := rp.up u9.up; replace rr := rr.up u9.up; replace rq := rq.up u9.up
      clear l0 l1 l2 l3 l4 l5 l6 l7 m0 m1 m2 hne C5
      generalize u9.world = w9 at *
      go_wp2_with ((with_reducible refine (C3.out _ _ ?_).mono ?_); (· first | rfl | (simp; done)); rintro e w7 ⟨rfl, hw9⟩; replace rp := rp.up hw9; replace rr := rr.up hw9; replace rq := rq.up hw9; obtain ⟨d0, d1, d2, -⟩ := rq.c3; obtain ⟨y0, y1, y2, z0, z1, z2⟩ := rr.c3; have hrl := rq.lt; replace hu := hu.next hw9; clear hw9)
      refine bodyPost_ret (v := .tuple #[progV p u n, .int .i64 0]) (by simp [results, Try.results22, go_sem, progV, recV, *]) rfl ⟨rfl, ?_⟩
      repeat (first | refine Up.setCell ?_ _ _ _ (by first | omega | (simp; done) | (simp; omega)) | refine Up.alloc ?_ _)
      exact hu
    · go_enter Try.func22, Try.ntmps22
      go_upto_region 2 with fail
      have rp := ((((RowAt.made w 41 [.int .i64 6, .int .i64 t, .string key, .string val, .int .i64 p, .int .i64 u, .int .i64 n, .slice pa l.length ca]).alloc (.cells #[.int .i64 0, .int .i64 0, .int .i64 0] 23)).alloc (.cells #[.int .i64 p, .int .i64 u, .int .i64 n] 23)))
      have rr := ((RowAt.made (w.alloc (.cells #[.int .i64 6, .int .i64 t, .string key, .string val, .int .i64 p, .int .i64 u, .int .i64 n, .slice pa l.length ca] 41)) 23 [.int .i64 0, .int .i64 0, .int .i64 0]).alloc (.cells #[.int .i64 p, .int .i64 u, .int .i64 n] 23))
      have rq := (RowAt.made ((w.alloc (.cells #[.int .i64 6, .int .i64 t, .string key, .string val, .int .i64 p, .int .i64 u, .int .i64 n, .slice pa l.length ca] 41)).alloc (.cells #[.int .i64 0, .int .i64 0, .int .i64 0] 23)) 23 [.int .i64 p, .int .i64 u, .int .i64 n])
      simp at rp rr rq
      replace hu := (((hu.alloc (.cells #[.int .i64 6, .int .i64 t, .string key, .string val, .int .i64 p, .int .i64 u, .int .i64 n, .slice pa l.length ca] 41)).alloc (.cells #[.int .i64 0, .int .i64 0, .int .i64 0] 23)).alloc (.cells #[.int .i64 p, .int .i64 u, .int .i64 n] 23))
      obtain ⟨p0, p1, p2, p3, p4, p5, p6, p7, -⟩ := rp.c8
      obtain ⟨q0, q1, q2, -⟩ := rq.c3
      have l0 := Later.cell_of p0; have l1 := Later.cell_of p1; have l2 := Later.cell_of p2; have l3 := Later.cell_of p3
      have l4 := Later.cell_of p4; have l5 := Later.cell_of p5; have l6 := Later.cell_of p6; have l7 := Later.cell_of p7
      have m0 := Later.cell_of q0; have m1 := Later.cell_of q1; have m2 := Later.cell_of q2
      clear p0 p1 p2 p3 p4 p5 p6 p7 q0 q1 q2
      generalize hw3 : ((w.alloc (.cells #[.int .i64 6, .int .i64 t, .string key, .string val, .int .i64 p, .int .i64 u, .int .i64 n, .slice pa l.length ca] 41)).alloc (.cells #[.int .i64 0, .int .i64 0, .int .i64 0] 23)).alloc (.cells #[.int .i64 p, .int .i64 u, .int .i64 n] 23) = w3 at *
      clear hw3
      have C5 := Lib.hid (show ∀ x : Later w3, Up w x.world from fun x => hu.trans x.up)
      have hne := later_ne w3
      refine wp_region_later_tail 12 (by kernel_rfl) (by kernel_rfl) ?_
      simp only [List.take_succ_cons, List.take_zero, List.drop_succ_cons, List.drop_zero]
      repeat (go_big_quiet_step (first
        | (go_at_call 23; exact Calls.later (C1.out _ (C5.out _)))
        | (go_at_call 16; exact Calls.later (C2.out _))))
      refine wpQuiet_nil ?_
      intro w9 hw9
      obtain ⟨u9, rfl⟩ := hw9
      replace hu := hu.trans u9.up
      replace rp := rp.up u9.up; replace rr := rr.up u9.up; replace rq := rq.up u9.up
      clear l0 l1 l2 l3 l4 l5 l6 l7 m0 m1 m2 hne C5
      generalize u9.world = w9 at *
      go_wp2_with ((with_reducible refine (C3.out _ _ ?_).mono ?_); (· first | rfl | (simp; done)); rintro e w7 ⟨rfl, hw9⟩; replace rp := rp.up hw9; replace rr := rr.up hw9; replace rq := rq.up hw9; obtain ⟨d0, d1, d2, -⟩ := rq.c3; obtain ⟨y0, y1, y2, z0, z1, z2⟩ := rr.c3; have hrl := rq.lt; replace hu := hu.next hw9; clear hw9)
      refine bodyPost_ret (v := .tuple #[progV 0 0 0, .int .i64 4]) (by simp [results, Try.results22, go_sem, progV, recV, *]) rfl ⟨rfl, ?_⟩
      repeat (first | refine Up.setCell ?_ _ _ _ (by first | omega | (simp; done) | (simp; omega)) | refine Up.alloc ?_ _)
      exact hu
  have b6 : (k == 6) = false := by simp [h6]
  by_cases h7 : k = 7
  · subst h7
    rw [show ((7 : Int) == 6 || (7 : Int) == 7) = true from rfl] at hE
    rcases ew true with he | he
    all_goals
      have C3 := Lib.hid (fun w g (hg : w.heap.size = g) => all_three_of R1 true R2 w g hg 4 _ he)
      simp only [he] at hE
      simp at hE
      subst hE
      simp at hV
      subst hV
      clear he ew
    · go_enter Try.func22, Try.ntmps22
      go_upto_region 2 with fail
      have rp := ((((RowAt.made w 41 [.int .i64 7, .int .i64 t, .string key, .string val, .int .i64 p, .int .i64 u, .int .i64 n, .slice pa l.length ca]).alloc (.cells #[.int .i64 0, .int .i64 0, .int .i64 0] 23)).alloc (.cells #[.int .i64 p, .int .i64 u, .int .i64 n] 23)))
      have rr := ((RowAt.made (w.alloc (.cells #[.int .i64 7, .int .i64 t, .string key, .string val, .int .i64 p, .int .i64 u, .int .i64 n, .slice pa l.length ca] 41)) 23 [.int .i64 0, .int .i64 0, .int .i64 0]).alloc (.cells #[.int .i64 p, .int .i64 u, .int .i64 n] 23))
      have rq := (RowAt.made ((w.alloc (.cells #[.int .i64 7, .int .i64 t, .string key, .string val, .int .i64 p, .int .i64 u, .int .i64 n, .slice pa l.length ca] 41)).alloc (.cells #[.int .i64 0, .int .i64 0, .int .i64 0] 23)) 23 [.int .i64 p, .int .i64 u, .int .i64 n])
      simp at rp rr rq
      replace hu := (((hu.alloc (.cells #[.int .i64 7, .int .i64 t, .string key, .string val, .int .i64 p, .int .i64 u, .int .i64 n, .slice pa l.length ca] 41)).alloc (.cells #[.int .i64 0, .int .i64 0, .int .i64 0] 23)).alloc (.cells #[.int .i64 p, .int .i64 u, .int .i64 n] 23))
      obtain ⟨p0, p1, p2, p3, p4, p5, p6, p7, -⟩ := rp.c8
      obtain ⟨q0, q1, q2, -⟩ := rq.c3
      have l0 := Later.cell_of p0; have l1 := Later.cell_of p1; have l2 := Later.cell_of p2; have l3 := Later.cell_of p3
      have l4 := Later.cell_of p4; have l5 := Later.cell_of p5; have l6 := Later.cell_of p6; have l7 := Later.cell_of p7
      have m0 := Later.cell_of q0; have m1 := Later.cell_of q1; have m2 := Later.cell_of q2
      clear p0 p1 p2 p3 p4 p5 p6 p7 q0 q1 q2
      generalize hw3 : ((w.alloc (.cells #[.int .i64 7, .int .i64 t, .string key, .string val, .int .i64 p, .int .i64 u, .int .i64 n, .slice pa l.length ca] 41)).alloc (.cells #[.int .i64 0, .int .i64 0, .int .i64 0] 23)).alloc (.cells #[.int .i64 p, .int .i64 u, .int .i64 n] 23) = w3 at *
      clear hw3
      have C5 := Lib.hid (show ∀ x : Later w3, Up w x.world from fun x => hu.trans x.up)
      have hne := later_ne w3
      refine wp_region_later_tail 12 (by kernel_rfl) (by kernel_rfl) ?_
      simp only [List.take_succ_cons, List.take_zero, List.drop_succ_cons, List.drop_zero]
      repeat (go_big_quiet_step (first
        | (go_at_call 23; exact Calls.later (C1.out _ (C5.out _)))
        | (go_at_call 16; exact Calls.later (C2.out _))))
      refine wpQuiet_nil ?_
      intro w9 hw9
      obtain ⟨u9, rfl⟩ := hw9
      replace hu := hu.trans u9.up
      replace rp := rp.up u9.up; replace rr := rr.up u9.up; replace rq := rq.up u9.up
      clear l0 l1 l2 l3 l4 l5 l6 l7 m0 m1 m2 hne C5
      generalize u9.world = w9 at *
      go_wp2_with ((with_reducible refine (C3.out _ _ ?_).mono ?_); (· first | rfl | (simp; done)); rintro e w7 ⟨rfl, hw9⟩; replace rp := rp.up hw9; replace rr := rr.up hw9; replace rq := rq.up hw9; obtain ⟨d0, d1, d2, -⟩ := rq.c3; obtain ⟨y0, y1, y2, z0, z1, z2⟩ := rr.c3; have hrl := rq.lt; replace hu := hu.next hw9; clear hw9)
      refine bodyPost_ret (v := .tuple #[progV p u n, .int .i64 0]) (by simp [results, Try.results22, go_sem, progV, recV, *]) rfl ⟨rfl, ?_⟩
      repeat (first | refine Up.setCell ?_ _ _ _ (by first | omega | (simp; done) | (simp; omega)) | refine Up.alloc ?_ _)
      exact hu
    · go_enter Try.func22, Try.ntmps22
      go_upto_region 2 with fail
      have rp := ((((RowAt.made w 41 [.int .i64 7, .int .i64 t, .string key, .string val, .int .i64 p, .int .i64 u, .int .i64 n, .slice pa l.length ca]).alloc (.cells #[.int .i64 0, .int .i64 0, .int .i64 0] 23)).alloc (.cells #[.int .i64 p, .int .i64 u, .int .i64 n] 23)))
      have rr := ((RowAt.made (w.alloc (.cells #[.int .i64 7, .int .i64 t, .string key, .string val, .int .i64 p, .int .i64 u, .int .i64 n, .slice pa l.length ca] 41)) 23 [.int .i64 0, .int .i64 0, .int .i64 0]).alloc (.cells #[.int .i64 p, .int .i64 u, .int .i64 n] 23))
      have rq := (RowAt.made ((w.alloc (.cells #[.int .i64 7, .int .i64 t, .string key, .string val, .int .i64 p, .int .i64 u, .int .i64 n, .slice pa l.length ca] 41)).alloc (.cells #[.int .i64 0, .int .i64 0, .int .i64 0] 23)) 23 [.int .i64 p, .int .i64 u, .int .i64 n])
      simp at rp rr rq
      replace hu := (((hu.alloc (.cells #[.int .i64 7, .int .i64 t, .string key, .string val, .int .i64 p, .int .i64 u, .int .i64 n, .slice pa l.length ca] 41)).alloc (.cells #[.int .i64 0, .int .i64 0, .int .i64 0] 23)).alloc (.cells #[.int .i64 p, .int .i64 u, .int .i64 n] 23))
      obtain ⟨p0, p1, p2, p3, p4, p5, p6, p7, -⟩ := rp.c8
      obtain ⟨q0, q1, q2, -⟩ := rq.c3
      have l0 := Later.cell_of p0; have l1 := Later.cell_of p1; have l2 := Later.cell_of p2; have l3 := Later.cell_of p3
      have l4 := Later.cell_of p4; have l5 := Later.cell_of p5; have l6 := Later.cell_of p6; have l7 := Later.cell_of p7
      have m0 := Later.cell_of q0; have m1 := Later.cell_of q1; have m2 := Later.cell_of q2
      clear p0 p1 p2 p3 p4 p5 p6 p7 q0 q1 q2
      generalize hw3 : ((w.alloc (.cells #[.int .i64 7, .int .i64 t, .string key, .string val, .int .i64 p, .int .i64 u, .int .i64 n, .slice pa l.length ca] 41)).alloc (.cells #[.int .i64 0, .int .i64 0, .int .i64 0] 23)).alloc (.cells #[.int .i64 p, .int .i64 u, .int .i64 n] 23) = w3 at *
      clear hw3
      have C5 := Lib.hid (show ∀ x : Later w3, Up w x.world from fun x => hu.trans x.up)
      have hne := later_ne w3
      refine wp_region_later_tail 12 (by kernel_rfl) (by kernel_rfl) ?_
      simp only [List.take_succ_cons, List.take_zero, List.drop_succ_cons, List.drop_zero]
      repeat (go_big_quiet_step (first
        | (go_at_call 23; exact Calls.later (C1.out _ (C5.out _)))
        | (go_at_call 16; exact Calls.later (C2.out _))))
      refine wpQuiet_nil ?_
      intro w9 hw9
      obtain ⟨u9, rfl⟩ := hw9
      replace hu := hu.trans u9.up
      replace rp := rp.up u9.up; replace rr := rr.up u9.up; replace rq := rq.up u9.up
      clear l0 l1 l2 l3 l4 l5 l6 l7 m0 m1 m2 hne C5
      generalize u9.world = w9 at *
      go_wp2_with ((with_reducible refine (C3.out _ _ ?_).mono ?_); (· first | rfl | (simp; done)); rintro e w7 ⟨rfl, hw9⟩; replace rp := rp.up hw9; replace rr := rr.up hw9; replace rq := rq.up hw9; obtain ⟨d0, d1, d2, -⟩ := rq.c3; obtain ⟨y0, y1, y2, z0, z1, z2⟩ := rr.c3; have hrl := rq.lt; replace hu := hu.next hw9; clear hw9)
      refine bodyPost_ret (v := .tuple #[progV 0 0 0, .int .i64 4]) (by simp [results, Try.results22, go_sem, progV, recV, *]) rfl ⟨rfl, ?_⟩
      repeat (first | refine Up.setCell ?_ _ _ _ (by first | omega | (simp; done) | (simp; omega)) | refine Up.alloc ?_ _)
      exact hu
  · have b7 : (k == 7) = false := by simp [h7]
    have he : (R1 && false && R2) = false := by simp
    rw [show (k == 6 || k == 7) = false by simp [b6, b7]] at hE
    have C3 := Lib.hid (fun w g (hg : w.heap.size = g) => all_three_of R1 false R2 w g hg 4 _ he)
    simp only [he] at hE
    simp at hE
    subst hE
    simp at hV
    subst hV
    clear he ew
    go_enter Try.func22, Try.ntmps22
    go_upto_region 2 with fail
    have rp := ((((RowAt.made w 41 [.int .i64 k, .int .i64 t, .string key, .string val, .int .i64 p, .int .i64 u, .int .i64 n, .slice pa l.length ca]).alloc (.cells #[.int .i64 0, .int .i64 0, .int .i64 0] 23)).alloc (.cells #[.int .i64 p, .int .i64 u, .int .i64 n] 23)))
    have rr := ((RowAt.made (w.alloc (.cells #[.int .i64 k, .int .i64 t, .string key, .string val, .int .i64 p, .int .i64 u, .int .i64 n, .slice pa l.length ca] 41)) 23 [.int .i64 0, .int .i64 0, .int .i64 0]).alloc (.cells #[.int .i64 p, .int .i64 u, .int .i64 n] 23))
    have rq := (RowAt.made ((w.alloc (.cells #[.int .i64 k, .int .i64 t, .string key, .string val, .int .i64 p, .int .i64 u, .int .i64 n, .slice pa l.length ca] 41)).alloc (.cells #[.int .i64 0, .int .i64 0, .int .i64 0] 23)) 23 [.int .i64 p, .int .i64 u, .int .i64 n])
    simp at rp rr rq
    replace hu := (((hu.alloc (.cells #[.int .i64 k, .int .i64 t, .string key, .string val, .int .i64 p, .int .i64 u, .int .i64 n, .slice pa l.length ca] 41)).alloc (.cells #[.int .i64 0, .int .i64 0, .int .i64 0] 23)).alloc (.cells #[.int .i64 p, .int .i64 u, .int .i64 n] 23))
    obtain ⟨p0, p1, p2, p3, p4, p5, p6, p7, -⟩ := rp.c8
    obtain ⟨q0, q1, q2, -⟩ := rq.c3
    have l0 := Later.cell_of p0; have l1 := Later.cell_of p1; have l2 := Later.cell_of p2; have l3 := Later.cell_of p3
    have l4 := Later.cell_of p4; have l5 := Later.cell_of p5; have l6 := Later.cell_of p6; have l7 := Later.cell_of p7
    have m0 := Later.cell_of q0; have m1 := Later.cell_of q1; have m2 := Later.cell_of q2
    clear p0 p1 p2 p3 p4 p5 p6 p7 q0 q1 q2
    generalize hw3 : ((w.alloc (.cells #[.int .i64 k, .int .i64 t, .string key, .string val, .int .i64 p, .int .i64 u, .int .i64 n, .slice pa l.length ca] 41)).alloc (.cells #[.int .i64 0, .int .i64 0, .int .i64 0] 23)).alloc (.cells #[.int .i64 p, .int .i64 u, .int .i64 n] 23) = w3 at *
    clear hw3
    have C5 := Lib.hid (show ∀ x : Later w3, Up w x.world from fun x => hu.trans x.up)
    have hne := later_ne w3
    refine wp_region_later_tail 12 (by kernel_rfl) (by kernel_rfl) ?_
    simp only [List.take_succ_cons, List.take_zero, List.drop_succ_cons, List.drop_zero]
    repeat (go_big_quiet_step (first
      | (go_at_call 23; exact Calls.later (C1.out _ (C5.out _)))
      | (go_at_call 16; exact Calls.later (C2.out _))))
    refine wpQuiet_nil ?_
    intro w9 hw9
    obtain ⟨u9, rfl⟩ := hw9
    replace hu := hu.trans u9.up
    replace rp := rp.up u9.up; replace rr := rr.up u9.up; replace rq := rq.up u9.up
    clear l0 l1 l2 l3 l4 l5 l6 l7 m0 m1 m2 hne C5
    generalize u9.world = w9 at *
    go_wp2_with ((with_reducible refine (C3.out _ _ ?_).mono ?_); (· first | rfl | (simp; done)); rintro e w7 ⟨rfl, hw9⟩; replace rp := rp.up hw9; replace rr := rr.up hw9; replace rq := rq.up hw9; obtain ⟨d0, d1, d2, -⟩ := rq.c3; obtain ⟨y0, y1, y2, z0, z1, z2⟩ := rr.c3; have hrl := rq.lt; replace hu := hu.next hw9; clear hw9)
    refine bodyPost_ret (v := .tuple #[progV 0 0 0, .int .i64 4]) (by simp [results, Try.results22, go_sem, progV, recV, *]) rfl ⟨rfl, ?_⟩
    repeat (first | refine Up.setCell ?_ _ _ _ (by first | omega | (simp; done) | (simp; omega)) | refine Up.alloc ?_ _)
    exact hu
end Go.Proofs.Ytbjnklgicakndaa
