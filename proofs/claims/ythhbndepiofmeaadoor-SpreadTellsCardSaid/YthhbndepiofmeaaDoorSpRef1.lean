/- Layer 18, the document's side: in, Right, Better, digits, Show. -/
import Derived.Test.YthhbndepiofmeaaDoorSpWalk5
namespace Bw
open Go Ieee
/-- A spread of the document. -/
def spV (x y : Int) : Value := .agg #[.int .i64 x, .int .i64 y]
def dig (n : Int) : ByteArray := ⟨#[IntKind.u8.wrap (48 + n % 10) |>.toNat.toUInt8]⟩
theorem betterZ_eq (x y v w : Int) : betterZ x y v w = (okZ x && okZ y && (okZ v && okZ w) && decide (x ≤ v) && decide (y ≤ w) && (decide (x < v) || decide (y < w))) := by
  unfold betterZ
  by_cases h1 : x ≤ v
  · by_cases h2 : y ≤ w
    · have : (!(decide (x = v) && decide (y = w))) = (decide (x < v) || decide (y < w)) := by
        by_cases e1 : x = v <;> by_cases e2 : y = w <;> simp [e1, e2] <;> omega
      rw [this]
    · rw [decide_eq_false h2, Bool.and_false, Bool.false_and, Bool.false_and]
  · rw [decide_eq_false h1, Bool.and_false, Bool.false_and, Bool.false_and, Bool.false_and]
end Bw
namespace Go.Proofs.YthhbndepiofmeaaDoor
open Go.RowKit Bw
set_option linter.unusedVariables false
theorem r_in (n l m : Int) (w : World) : Calls Tryd.prog 24 #[.int .i64 n, .int .i64 l, .int .i64 m] w fun e w' => e = .returned (.bool (inB n l m)) ∧ w = w' := by
  unfold inB
  by_cases h1 : l ≤ n
  · rw [decide_eq_true h1, Bool.true_and]
    go_enter Tryd.func24, Tryd.ntmps24
    go_wp2_with fail
    go_ret
    exact ⟨by first | rfl | simp [*], rfl⟩
  · rw [decide_eq_false h1, Bool.false_and]
    go_enter Tryd.func24, Tryd.ntmps24
    go_wp2_with fail
    go_ret
    exact ⟨by first | rfl | simp [*], rfl⟩
theorem r_Right (x y : Int) (w : World) : Calls Tryd.prog 17 #[spV x y] w fun e w' => e = .returned (.bool (okZ x && okZ y)) ∧ w' = w.alloc (.cells #[.int .i64 x, .int .i64 y] 30) := by
  have c1 := r_in x 0 1099511627776
  have c2 := r_in y 0 1099511627776
  have e1 : inB x 0 1099511627776 = okZ x := rfl
  have e2 : inB y 0 1099511627776 = okZ y := rfl
  rw [e1] at c1
  rw [e2] at c2
  clear e1 e2
  have hu := Up.refl w
  unfold spV
  have C1 := Lib.hid c1; have C2 := Lib.hid c2
  clear c1 c2
  generalize okZ x = b1 at *
  generalize okZ y = b2 at *
  cases b1
  all_goals
    go_enter Tryd.func17, Tryd.ntmps17
    go_wp2_with (first
      | ((with_reducible refine (C1.out _).mono ?_); rintro e w1 ⟨rfl, rfl⟩)
      | ((with_reducible refine (C2.out _).mono ?_); rintro e w1 ⟨rfl, rfl⟩))
    go_ret
    exact ⟨rfl, rfl⟩
theorem r_Better (x y v u : Int) (w : World) : Calls Tryd.prog 19 #[spV x y, spV v u] w fun e w' => e = .returned (.bool (betterZ x y v u)) ∧ Below w.heap.size w w' := by
  rw [betterZ_eq]
  have c1 := r_Right x y
  have c2 := r_Right v u
  have hu := Up.refl w
  have C1 := Lib.hid c1; have C2 := Lib.hid c2
  clear c1 c2
  generalize (okZ x && okZ y) = b1 at *
  generalize (okZ v && okZ u) = b2 at *
  unfold spV at *
  cases b1
  · go_enter Tryd.func19, Tryd.ntmps19
    go_wp2_with (first
      | ((with_reducible refine (C1.out _).mono ?_); rintro e w1 ⟨rfl, rfl⟩)
      | ((with_reducible refine (C2.out _).mono ?_); rintro e w1 ⟨rfl, rfl⟩))
    go_ret
    exact ⟨rfl, by repeat (first | exact hu | refine Up.alloc ?_ _)⟩
  · cases b2
    · go_enter Tryd.func19, Tryd.ntmps19
      go_wp2_with (first
        | ((with_reducible refine (C1.out _).mono ?_); rintro e w1 ⟨rfl, rfl⟩)
        | ((with_reducible refine (C2.out _).mono ?_); rintro e w1 ⟨rfl, rfl⟩))
      go_ret
      exact ⟨rfl, by repeat (first | exact hu | refine Up.alloc ?_ _)⟩
    · by_cases h1 : x ≤ v
      · rw [decide_eq_true h1]
        by_cases h2 : y ≤ u
        · rw [decide_eq_true h2]
          by_cases h3 : x < v
          · rw [decide_eq_true h3]
            go_enter Tryd.func19, Tryd.ntmps19
            go_wp2_with (first
              | ((with_reducible refine (C1.out _).mono ?_); rintro e w1 ⟨rfl, rfl⟩)
              | ((with_reducible refine (C2.out _).mono ?_); rintro e w1 ⟨rfl, rfl⟩))
            go_ret
            exact ⟨rfl, by repeat (first | exact hu | refine Up.alloc ?_ _)⟩
          · rw [decide_eq_false h3]
            go_enter Tryd.func19, Tryd.ntmps19
            go_wp2_with (first
              | ((with_reducible refine (C1.out _).mono ?_); rintro e w1 ⟨rfl, rfl⟩)
              | ((with_reducible refine (C2.out _).mono ?_); rintro e w1 ⟨rfl, rfl⟩))
            go_ret
            exact ⟨by first | rfl | (simp; omega), by repeat (first | exact hu | refine Up.alloc ?_ _)⟩
        · rw [decide_eq_false h2]
          go_enter Tryd.func19, Tryd.ntmps19
          go_wp2_with (first
            | ((with_reducible refine (C1.out _).mono ?_); rintro e w1 ⟨rfl, rfl⟩)
            | ((with_reducible refine (C2.out _).mono ?_); rintro e w1 ⟨rfl, rfl⟩))
          go_ret
          exact ⟨rfl, by repeat (first | exact hu | refine Up.alloc ?_ _)⟩
      · rw [decide_eq_false h1]
        go_enter Tryd.func19, Tryd.ntmps19
        go_wp2_with (first
          | ((with_reducible refine (C1.out _).mono ?_); rintro e w1 ⟨rfl, rfl⟩)
          | ((with_reducible refine (C2.out _).mono ?_); rintro e w1 ⟨rfl, rfl⟩))
        go_ret
        exact ⟨rfl, by repeat (first | exact hu | refine Up.alloc ?_ _)⟩
end Go.Proofs.YthhbndepiofmeaaDoor
