import Derived.Test.YtbjnklgicakndaaPgWalk2
import Derived.Test.YtbjnklgicakndaaUpLaw
import Derived.Deep.RegionHeld3
namespace Go.Proofs.Ytbjnklgicakndaa
open Go.RowKit Bw
set_option linter.unusedVariables false

theorem may_none (p u o : Int) (w : World) (hu1 : -9223372036854775808 ≤ u) :
    Calls Try.prog 28 #[progV p u o, .slice none 0 0] w fun e w' => e = .returned (.int .i64 (mayE p u o [])) ∧ Below w.heap.size w w' :=
  prog_may p u o none 0 [] (by simp) w (fun i hi => absurd hi (by simp)) hu1
theorem may_one (p u o : Int) (a : Bool) (w : World) (g : Nat) (hg : w.heap.size = g) (e : TypeId) (hu1 : -9223372036854775808 ≤ u) :
    Calls Try.prog 28 #[progV p u o, .slice (some ⟨g, 0, none⟩) 1 1] (w.alloc (.cells #[.bool a] e)) fun e w' => e = .returned (.int .i64 (mayE p u o [a])) ∧ Below w.heap.size w w' := by
  subst hg
  exact (prog_may p u o _ 1 [a] (by simp) _ (bools_alloc w e [a]) hu1).mono fun e' w' ⟨h1, h2⟩ => ⟨h1, ((Below.refl _ w).alloc (Nat.le_refl _) _).trans (h2.mono (by simp))⟩
theorem may_two (p u o : Int) (a b : Bool) (w : World) (g : Nat) (hg : w.heap.size = g) (e : TypeId) (hu1 : -9223372036854775808 ≤ u) :
    Calls Try.prog 28 #[progV p u o, .slice (some ⟨g, 0, none⟩) 2 2] (w.alloc (.cells #[.bool a, .bool b] e)) fun e w' => e = .returned (.int .i64 (mayE p u o [a, b])) ∧ Below w.heap.size w w' := by
  subst hg
  exact (prog_may p u o _ 2 [a, b] (by simp) _ (bools_alloc w e [a, b]) hu1).mono fun e' w' ⟨h1, h2⟩ => ⟨h1, ((Below.refl _ w).alloc (Nat.le_refl _) _).trans (h2.mono (by simp))⟩
theorem may_three (p u o : Int) (a b c : Bool) (w : World) (g : Nat) (hg : w.heap.size = g) (e : TypeId) (hu1 : -9223372036854775808 ≤ u) :
    Calls Try.prog 28 #[progV p u o, .slice (some ⟨g, 0, none⟩) 3 3] (w.alloc (.cells #[.bool a, .bool b, .bool c] e)) fun e w' => e = .returned (.int .i64 (mayE p u o [a, b, c])) ∧ Below w.heap.size w w' := by
  subst hg
  exact (prog_may p u o _ 3 [a, b, c] (by simp) _ (bools_alloc w e [a, b, c]) hu1).mono fun e' w' ⟨h1, h2⟩ => ⟨h1, ((Below.refl _ w).alloc (Nat.le_refl _) _).trans (h2.mono (by simp))⟩

def nextE (p u o : Int) : Int := mayE p u o [p != 4, o == 0]
def nextV (p u o : Int) : Value := if nextE p u o = 0 then progV (p + 1) 0 0 else progV 0 0 0

theorem right_bounds {p u o : Int} (h : rightB p u o = true) : 0 ≤ p ∧ p ≤ 4 ∧ 0 ≤ u ∧ u < 1099511627776 ∧ 0 ≤ o ∧ o < 1099511627776 := by
  simp only [rightB, Bool.and_eq_true, Bool.or_eq_true, decide_eq_true_eq, beq_iff_eq] at h
  omega
theorem may_right {p u o : Int} {l : List Bool} (h : mayE p u o l = 0) : rightB p u o = true := by
  unfold mayE at h
  split at h
  · assumption
  · omega

set_option maxHeartbeats 1000000 in
theorem prog_Next (p u o : Int) (w : World) (hu1 : -9223372036854775808 ≤ u) :
    Calls Try.prog 8 #[progV p u o] w fun r w' => r = .returned (.tuple #[nextV p u o, .int .i64 (nextE p u o)]) ∧ Below w.heap.size w w' := by
  have C1 := Lib.hid (fun w g (hg : w.heap.size = g) => may_two p u o (p != 4) (o == 0) w g hg 4 hu1)
  rw [show mayE p u o [p != 4, o == 0] = nextE p u o from rfl] at C1
  have hu := Up.refl w
  have hbb := fun h => right_bounds (may_right (p := p) (u := u) (o := o) (l := [p != 4, o == 0]) h)
  rw [show mayE p u o [p != 4, o == 0] = nextE p u o from rfl] at hbb
  unfold nextV
  generalize nextE p u o = E at *
  by_cases hE : E = 0
  · obtain ⟨b1, b2, _⟩ := hbb hE
    subst hE
    clear hbb
    unfold progV at *
    go_enter Try.func8, Try.ntmps8
    replace hu := (hu.alloc (.cells #[.int .i64 p, .int .i64 u, .int .i64 o] 23)).alloc (.cells #[.int .i64 0, .int .i64 0, .int .i64 0] 23)
    go_wp2_with ((with_reducible refine (C1.out _ _ ?_).mono ?_); (· simp); rintro e w1 ⟨rfl, hw1⟩; obtain ⟨hcc, hff⟩ := ucell hw1; replace hu := hu.next hw1; clear hw1)
    refine bodyPost_ret (v := .tuple #[progV (p + 1) 0 0, .int .i64 0]) (by simp [results, Try.results8, go_sem, progV, *]) rfl ⟨rfl, ?_⟩
    repeat (refine Up.setCell ?_ _ _ _ (by simp; done))
    exact hu
  · have hEb : (E != 0) = true := by simp [hE]
    clear hbb
    unfold progV at *
    go_enter Try.func8, Try.ntmps8
    replace hu := (hu.alloc (.cells #[.int .i64 p, .int .i64 u, .int .i64 o] 23)).alloc (.cells #[.int .i64 0, .int .i64 0, .int .i64 0] 23)
    go_wp2_with ((with_reducible refine (C1.out _ _ ?_).mono ?_); (· simp); rintro e w1 ⟨rfl, hw1⟩; obtain ⟨hcc, hff⟩ := ucell hw1; replace hu := hu.next hw1; clear hw1)
    refine bodyPost_ret (v := .tuple #[progV 0 0 0, .int .i64 E]) (by simp [results, Try.results8, go_sem, progV, *]) rfl ⟨rfl, ?_⟩
    repeat (refine Up.setCell ?_ _ _ _ (by simp; done))
    exact hu
def beginE (p u o : Int) : Int := mayE p u o [worksB p, o == 0, decide (u < 1099511627775)]
def beginV (p u o : Int) : Value := if beginE p u o = 0 then progV p u (u + 1) else progV 0 0 0

set_option maxHeartbeats 1000000 in
theorem prog_Begin (p u o : Int) (w : World) (hu1 : -9223372036854775808 ≤ u) :
    Calls Try.prog 11 #[progV p u o] w fun r w' => r = .returned (.tuple #[beginV p u o, .int .i64 (beginE p u o)]) ∧ Below w.heap.size w w' := by
  have C1 := Lib.hid (fun w g (hg : w.heap.size = g) => may_three p u o (worksB p) (o == 0) (decide (u < 1099511627775)) w g hg 4 hu1)
  rw [show mayE p u o [worksB p, o == 0, decide (u < 1099511627775)] = beginE p u o from rfl] at C1
  have C2 := Lib.hid (fun w => prog_works p u o w)
  have hu := Up.refl w
  have hbb := fun h => right_bounds (may_right (p := p) (u := u) (o := o) (l := [worksB p, o == 0, decide (u < 1099511627775)]) h)
  rw [show mayE p u o [worksB p, o == 0, decide (u < 1099511627775)] = beginE p u o from rfl] at hbb
  unfold beginV
  generalize beginE p u o = E at *
  generalize worksB p = wp at *
  have key : (E = 0 → 0 ≤ u ∧ u < 1099511627776) := fun h => by have := hbb h; omega
  clear hbb
  unfold progV at *
  by_cases hE : E = 0
  case' neg => have hEb : (E != 0) = true := by simp [hE]
  case' pos => subst hE; have hk := key rfl; obtain ⟨k1, k2⟩ := hk
  all_goals
    clear key
    go_enter Try.func11, Try.ntmps11
    go_upto_region 1 with fail
    replace hu := ((hu.alloc (.cells #[.int .i64 p, .int .i64 u, .int .i64 o] 23)).alloc (.cells #[.int .i64 0, .int .i64 0, .int .i64 0] 23)).drew
    have rp := ((RowAt.made w 23 [.int .i64 p, .int .i64 u, .int .i64 o]).alloc (.cells #[.int .i64 0, .int .i64 0, .int .i64 0] 23)).drew
    have rr := (RowAt.made (w.alloc (.cells #[.int .i64 p, .int .i64 u, .int .i64 o] 23)) 23 [.int .i64 0, .int .i64 0, .int .i64 0]).drew
    simp at rp rr
    obtain ⟨p0, p1, p2, -⟩ := rp.c3
    go_region_held3 (fun w' => w'.cell? ⟨w.heap.size, 0, none⟩ = some (.int .i64 p) ∧ w'.cell? ⟨w.heap.size, 1, none⟩ = some (.int .i64 u) ∧ w'.cell? ⟨w.heap.size, 2, none⟩ = some (.int .i64 o)) (go_keep)
      (first
        | ((with_reducible refine (C2.out _).mono ?_); rintro e w9 ⟨rfl, hw9⟩; replace rp := rp.up hw9; replace rr := rr.up hw9; obtain ⟨q0, q1, q2, -⟩ := rp.c3; replace hu := hu.next hw9; clear hw9)
        | ((with_reducible refine (C1.out _ _ ?_).mono ?_); (· first | rfl | (simp; done)); rintro e w1 ⟨rfl, hw9⟩; replace rp := rp.up hw9; replace rr := rr.up hw9; obtain ⟨t0, t1, t2, -⟩ := rp.c3; replace hu := hu.next hw9; clear hw9))
    obtain ⟨y0, y1, y2, z0, z1, z2⟩ := rr.c3
    go_wp2_with fail
  · have := hu.out.size
    have hs1 := rp.lt
    refine bodyPost_ret (v := .tuple #[progV p u (u + 1), .int .i64 0]) (by simp [results, Try.results11, go_sem, progV, *]) rfl ⟨rfl, ?_⟩
    repeat (first | refine Up.setCell ?_ _ _ _ (by first | omega | (simp; done) | (simp; omega)) | refine Up.alloc ?_ _)
    exact hu
  · have := hu.out.size
    have hs1 := rp.lt
    refine bodyPost_ret (v := .tuple #[progV 0 0 0, .int .i64 E]) (by simp [results, Try.results11, go_sem, progV, *]) rfl ⟨rfl, ?_⟩
    repeat (first | refine Up.setCell ?_ _ _ _ (by first | omega | (simp; done) | (simp; omega)) | refine Up.alloc ?_ _)
    exact hu

def endE (p u o : Int) : Int := mayE p u o [o != 0]
def endV (p u o : Int) : Value := if endE p u o = 0 then progV p o 0 else progV 0 0 0

set_option maxHeartbeats 1000000 in
theorem prog_End (p u o : Int) (w : World) (hu1 : -9223372036854775808 ≤ u) :
    Calls Try.prog 13 #[progV p u o] w fun r w' => r = .returned (.tuple #[endV p u o, .int .i64 (endE p u o)]) ∧ Below w.heap.size w w' := by
  have C1 := Lib.hid (fun w g (hg : w.heap.size = g) => may_one p u o (o != 0) w g hg 4 hu1)
  rw [show mayE p u o [o != 0] = endE p u o from rfl] at C1
  have hu := Up.refl w
  unfold endV
  generalize endE p u o = E at *
  unfold progV at *
  by_cases hE : E = 0
  case' neg => have hEb : (E != 0) = true := by simp [hE]
  case' pos => subst hE
  all_goals
    go_enter Try.func13, Try.ntmps13
    replace hu := (hu.alloc (.cells #[.int .i64 p, .int .i64 u, .int .i64 o] 23)).alloc (.cells #[.int .i64 0, .int .i64 0, .int .i64 0] 23)
    go_wp2_with ((with_reducible refine (C1.out _ _ ?_).mono ?_); (· first | rfl | (simp; done)); rintro e w1 ⟨rfl, hw1⟩; obtain ⟨hcc, hff⟩ := ucell hw1; replace hu := hu.next hw1; clear hw1)
  · refine bodyPost_ret (v := .tuple #[progV p o 0, .int .i64 0]) (by simp [results, Try.results13, go_sem, progV, *]) rfl ⟨rfl, ?_⟩
    repeat (first | refine Up.setCell ?_ _ _ _ (by first | omega | (simp; done) | (simp; omega)) | refine Up.alloc ?_ _)
    exact hu
  · refine bodyPost_ret (v := .tuple #[progV 0 0 0, .int .i64 E]) (by simp [results, Try.results13, go_sem, progV, *]) rfl ⟨rfl, ?_⟩
    repeat (first | refine Up.setCell ?_ _ _ _ (by first | omega | (simp; done) | (simp; omega)) | refine Up.alloc ?_ _)
    exact hu

theorem all_two_at (a b : Bool) (w : World) (g : Nat) (hg : w.heap.size = g) (e : TypeId) :
    Calls Try.prog 32 #[.slice (some ⟨g, 0, none⟩) 2 2] (w.alloc (.cells #[.bool a, .bool b] e)) fun e' w' => e' = .returned (.bool (a && b)) ∧ Below w.heap.size w w' := by
  subst hg; exact all_two a b w e
theorem all_three_at (a b c : Bool) (w : World) (g : Nat) (hg : w.heap.size = g) (e : TypeId) :
    Calls Try.prog 32 #[.slice (some ⟨g, 0, none⟩) 3 3] (w.alloc (.cells #[.bool a, .bool b, .bool c] e)) fun e' w' => e' = .returned (.bool (a && b && c)) ∧ Below w.heap.size w w' := by
  subst hg; exact all_three a b c w e

def lessB (p u o r v s : Int) : Bool :=
  rightB p u o && rightB r v s && (if p = r then (if u = v then decide (o < s) else decide (u < v)) else decide (p < r))

set_option maxHeartbeats 1000000 in
theorem prog_Less (p u o r v s : Int) (w : World) (hu1 : -9223372036854775808 ≤ u) (hu2 : -9223372036854775808 ≤ v) :
    Calls Try.prog 18 #[progV p u o, progV r v s] w fun e w' => e = .returned (.bool (lessB p u o r v s)) ∧ Below w.heap.size w w' := by
  have c1 := fun w => prog_Right p u o w hu1
  have c2 := fun w => prog_Right r v s w hu2
  have C3 := Lib.hid (fun a b w g (hg : w.heap.size = g) => all_two_at a b w g hg 4)
  have hu := Up.refl w
  have hfin : lessB p u o r v s = (rightB p u o && rightB r v s && (if p = r then (if u = v then decide (o < s) else decide (u < v)) else decide (p < r))) := rfl
  generalize lessB p u o r v s = L at *
  generalize rightB p u o = R1 at *
  generalize rightB r v s = R2 at *
  unfold progV at *
  have HF := Lib.hid hfin; clear hfin
  have C1 := Lib.hid c1; clear c1
  have C2 := Lib.hid c2; clear c2
  go_enter Try.func18, Try.ntmps18
  go_upto_region 1 with fail
  replace hu := ((hu.alloc (.cells #[.int .i64 p, .int .i64 u, .int .i64 o] 23)).alloc (.cells #[.int .i64 r, .int .i64 v, .int .i64 s] 23)).drew
  have rp := ((RowAt.made w 23 [.int .i64 p, .int .i64 u, .int .i64 o]).alloc (.cells #[.int .i64 r, .int .i64 v, .int .i64 s] 23)).drew
  have rr := (RowAt.made (w.alloc (.cells #[.int .i64 p, .int .i64 u, .int .i64 o] 23)) 23 [.int .i64 r, .int .i64 v, .int .i64 s]).drew
  simp at rp rr
  obtain ⟨p0, p1, p2, -⟩ := rp.c3
  obtain ⟨r0, r1, r2, -⟩ := rr.c3
  go_region_held3 (fun w' => w'.cell? ⟨w.heap.size, 0, none⟩ = some (.int .i64 p) ∧ w'.cell? ⟨w.heap.size, 1, none⟩ = some (.int .i64 u) ∧ w'.cell? ⟨w.heap.size, 2, none⟩ = some (.int .i64 o) ∧
     w'.cell? ⟨w.heap.size + 1, 0, none⟩ = some (.int .i64 r) ∧ w'.cell? ⟨w.heap.size + 1, 1, none⟩ = some (.int .i64 v) ∧ w'.cell? ⟨w.heap.size + 1, 2, none⟩ = some (.int .i64 s)) (go_keep)
    (first
      | ((with_reducible refine (C1.out _).mono ?_); rintro e w9 ⟨rfl, hw9⟩; replace rp := rp.up hw9; replace rr := rr.up hw9; obtain ⟨q0, q1, q2, -⟩ := rp.c3; obtain ⟨q3, q4, q5, -⟩ := rr.c3; replace hu := hu.next hw9; clear hw9)
      | ((with_reducible refine (C2.out _).mono ?_); rintro e w9 ⟨rfl, hw9⟩; replace rp := rp.up hw9; replace rr := rr.up hw9; obtain ⟨q0, q1, q2, -⟩ := rp.c3; obtain ⟨q3, q4, q5, -⟩ := rr.c3; replace hu := hu.next hw9; clear hw9)
      | ((with_reducible refine (C3.out _ _ _ _ ?_).mono ?_); (· first | rfl | (simp; done)); rintro e w1 ⟨rfl, hw9⟩; replace rp := rp.up hw9; replace rr := rr.up hw9; obtain ⟨t0, t1, t2, -⟩ := rp.c3; obtain ⟨q3, q4, q5, -⟩ := rr.c3; replace hu := hu.next hw9; clear hw9))
  clear p0 p1 p2 r0 r1 r2
  cases R1 <;> cases R2
  all_goals go_wp2_with fail
  all_goals go_ret
  all_goals (refine ⟨?_, hu⟩)
  all_goals rw [HF.out]
  all_goals first
    | (rename_i h1; simp at h1; simp [h1]; done)
    | (rename_i h1 h2; simp at h1 h2; simp [h1, h2]; done)
    | (simp; done)
end Go.Proofs.Ytbjnklgicakndaa
