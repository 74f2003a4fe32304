import Derived.Test.YthhbndepiofmeaaDoorSpWalk1
import Derived.Test.YthhbndepiofmeaaDoorSpShelf
namespace Bw
open Go Ieee
def betterZ (x y v w : Int) : Bool := okZ x && okZ y && (okZ v && okZ w) && decide (x ≤ v) && decide (y ≤ w) && !(decide (x = v) && decide (y = w))
def farZ (x y : Int) : Int := if okZ x && okZ y then x + y else 0
theorem okZ_iff {z : Int} : okZ z = true ↔ 0 ≤ z ∧ z ≤ 1099511627776 := by simp [okZ]
theorem nZ_ok {z : Int} (h : okZ z = true) : nZ z = z := if_pos h
end Bw
namespace Go.Proofs.YthhbndepiofmeaaDoor
open Go.RowKit Bw
set_option linter.unusedVariables false
theorem sp_parts (x y : Int) (hx : Small x) (hy : Small y) (w : World) : Calls Tryd.prog 26 #[.complex .f64 (fltZ x) (fltZ y)] w fun e w' => e = .returned (.tuple #[.int .i64 (nZ x), .int .i64 (nZ y), .bool (okZ x && okZ y)]) ∧ w = w' := by
  have C1 := Lib.hid (sp_part x hx)
  have C2 := Lib.hid (sp_part y hy)
  generalize nZ x = nx at *
  generalize nZ y = ny at *
  generalize okZ x = ox at *
  generalize okZ y = oy at *
  clear hx hy
  cases ox
  · go_enter Tryd.func26, Tryd.ntmps26
    go_wp2_with (first
      | ((with_reducible refine (C1.out _).mono ?_); rintro e w1 ⟨rfl, rfl⟩)
      | ((with_reducible refine (C2.out _).mono ?_); rintro e w1 ⟨rfl, rfl⟩))
    refine bodyPost_ret (v := .tuple #[.int .i64 nx, .int .i64 ny, .bool false]) (by simp [results, Tryd.results26, go_sem]) rfl ⟨rfl, rfl⟩
  · go_enter Tryd.func26, Tryd.ntmps26
    go_wp2_with (first
      | ((with_reducible refine (C1.out _).mono ?_); rintro e w1 ⟨rfl, rfl⟩)
      | ((with_reducible refine (C2.out _).mono ?_); rintro e w1 ⟨rfl, rfl⟩))
    refine bodyPost_ret (v := .tuple #[.int .i64 nx, .int .i64 ny, .bool oy]) (by simp [results, Tryd.results26, go_sem]) rfl ⟨rfl, rfl⟩
theorem sp_Far (x y : Int) (hx : Small x) (hy : Small y) (w : World) : Calls Tryd.prog 20 #[.complex .f64 (fltZ x) (fltZ y)] w fun e w' => e = .returned (.int .i64 (farZ x y)) ∧ w = w' := by
  have c1 := sp_parts x y hx hy
  cases ho : (okZ x && okZ y)
  · have e : farZ x y = 0 := by simp [farZ, ho]
    rw [e]
    rw [ho] at c1
    have C1 := Lib.hid c1
    clear c1 hx hy ho e
    go_enter Tryd.func20, Tryd.ntmps20
    go_wp2_with ((with_reducible refine (C1.out _).mono ?_); rintro e w1 ⟨rfl, rfl⟩)
    go_ret
    exact ⟨rfl, rfl⟩
  · have e : farZ x y = x + y := by simp [farZ, ho]
    rw [e]
    rw [ho] at c1
    obtain ⟨o1, o2⟩ := Bool.and_eq_true_iff.1 ho
    rw [nZ_ok o1, nZ_ok o2] at c1
    obtain ⟨x0, x1⟩ := okZ_iff.1 o1
    obtain ⟨y0, y1⟩ := okZ_iff.1 o2
    have C1 := Lib.hid c1
    clear c1 hx hy ho e o1 o2
    go_enter Tryd.func20, Tryd.ntmps20
    go_wp2_with ((with_reducible refine (C1.out _).mono ?_); rintro e w1 ⟨rfl, rfl⟩)
    go_ret
    exact ⟨rfl, rfl⟩
set_option maxHeartbeats 1000000 in
theorem sp_Better (x y v u : Int) (hx : Small x) (hy : Small y) (hv : Small v) (hu : Small u) (w : World) : Calls Tryd.prog 18 #[.complex .f64 (fltZ x) (fltZ y), .complex .f64 (fltZ v) (fltZ u)] w fun e w' => e = .returned (.bool (betterZ x y v u)) ∧ w = w' := by
  have c1 := sp_parts x y hx hy
  have c2 := sp_parts v u hv hu
  cases ho : (okZ x && okZ y)
  · have e : betterZ x y v u = false := by simp [betterZ, ho]
    rw [e]
    rw [ho] at c1
    have C1 := Lib.hid c1; have C2 := Lib.hid c2
    clear c1 c2 hx hy hv hu ho e
    go_enter Tryd.func18, Tryd.ntmps18
    go_wp2_with (first
      | ((with_reducible refine (C1.out _).mono ?_); rintro e w1 ⟨rfl, rfl⟩)
      | ((with_reducible refine (C2.out _).mono ?_); rintro e w1 ⟨rfl, rfl⟩))
    go_ret
    exact ⟨rfl, rfl⟩
  · cases ho2 : (okZ v && okZ u)
    · have e : betterZ x y v u = false := by simp [betterZ, ho2]
      rw [e]
      rw [ho] at c1
      rw [ho2] at c2
      have C1 := Lib.hid c1; have C2 := Lib.hid c2
      clear c1 c2 hx hy hv hu ho ho2 e
      go_enter Tryd.func18, Tryd.ntmps18
      go_wp2_with (first
        | ((with_reducible refine (C1.out _).mono ?_); rintro e w1 ⟨rfl, rfl⟩)
        | ((with_reducible refine (C2.out _).mono ?_); rintro e w1 ⟨rfl, rfl⟩))
      go_ret
      exact ⟨rfl, rfl⟩
    · have e : betterZ x y v u = (decide (x ≤ v) && decide (y ≤ u) && !(decide (x = v) && decide (y = u))) := by simp [betterZ, ho, ho2]
      rw [e]
      rw [ho] at c1
      rw [ho2] at c2
      obtain ⟨o1, o2⟩ := Bool.and_eq_true_iff.1 ho
      obtain ⟨o3, o4⟩ := Bool.and_eq_true_iff.1 ho2
      rw [nZ_ok o1, nZ_ok o2] at c1
      rw [nZ_ok o3, nZ_ok o4] at c2
      have g1 : FloatKind.f64.format.order (fltZ x) (fltZ v) = some (compare x v) := ford hx hv
      have g2 : FloatKind.f64.format.order (fltZ y) (fltZ u) = some (compare y u) := ford hy hu
      have C1 := Lib.hid c1; have C2 := Lib.hid c2
      clear c1 c2 hx hy hv hu ho ho2 e o1 o2 o3 o4
      by_cases h1 : x ≤ v
      · by_cases h2 : y ≤ u
        · have e3 : (decide (x ≤ v) && decide (y ≤ u) && !(decide (x = v) && decide (y = u))) = !((some (compare x v) == some .eq) && (some (compare y u) == some .eq)) := by
            rw [decide_eq_true h1, decide_eq_true h2]
            have q1 : decide (x = v) = (some (compare x v) == some .eq) := by
              by_cases hh : x = v
              · subst hh; rw [Int.compare_eq_eq.2 rfl]; simp
              · rw [decide_eq_false hh]; symm; apply beq_eq_false_iff_ne.2; intro h; exact hh (Int.compare_eq_eq.1 (Option.some.inj h))
            have q2 : decide (y = u) = (some (compare y u) == some .eq) := by
              by_cases hh : y = u
              · subst hh; rw [Int.compare_eq_eq.2 rfl]; simp
              · rw [decide_eq_false hh]; symm; apply beq_eq_false_iff_ne.2; intro h; exact hh (Int.compare_eq_eq.1 (Option.some.inj h))
            rw [q1, q2]; rfl
          rw [e3, ← g1, ← g2]
          clear e3 g1 g2
          go_enter Tryd.func18, Tryd.ntmps18
          go_wp2_with (first
            | ((with_reducible refine (C1.out _).mono ?_); rintro e w1 ⟨rfl, rfl⟩)
            | ((with_reducible refine (C2.out _).mono ?_); rintro e w1 ⟨rfl, rfl⟩))
          go_ret
          exact ⟨by first | rfl | simp, rfl⟩
        · rw [decide_eq_false h2, Bool.and_false, Bool.false_and]
          go_enter Tryd.func18, Tryd.ntmps18
          go_wp2_with (first
            | ((with_reducible refine (C1.out _).mono ?_); rintro e w1 ⟨rfl, rfl⟩)
            | ((with_reducible refine (C2.out _).mono ?_); rintro e w1 ⟨rfl, rfl⟩))
          go_ret
          exact ⟨rfl, rfl⟩
      · rw [decide_eq_false h1, Bool.false_and, Bool.false_and]
        go_enter Tryd.func18, Tryd.ntmps18
        go_wp2_with (first
          | ((with_reducible refine (C1.out _).mono ?_); rintro e w1 ⟨rfl, rfl⟩)
          | ((with_reducible refine (C2.out _).mono ?_); rintro e w1 ⟨rfl, rfl⟩))
        go_ret
        exact ⟨rfl, rfl⟩
end Go.Proofs.YthhbndepiofmeaaDoor
