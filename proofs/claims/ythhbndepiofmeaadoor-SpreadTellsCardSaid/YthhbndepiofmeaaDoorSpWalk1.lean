import Derived.Test.YthhbndepiofmeaaDoorUpTail
import Derived.Test.YthhbndepiofmeaaDoorFlt
import Derived.Test.YthhbndepiofmeaaDoorRows
namespace Bw
open Go Ieee
def okZ (z : Int) : Bool := decide (0 ≤ z) && decide (z ≤ 1099511627776)
def nZ (z : Int) : Int := if okZ z = true then z else 0
def Small (z : Int) : Prop := z.natAbs < 2 ^ 53
theorem c40 : fltZ 1099511627776 = 4787326403894837248 := by decide +kernel
theorem c0 : fltZ 0 = 0 := by decide +kernel
theorem small0 : Small 0 := by unfold Small; decide
theorem small40 : Small 1099511627776 := by unfold Small; decide
theorem ford {a b : Int} (ha : Small a) (hb : Small b) : FloatKind.f64.format.order (fltZ a) (fltZ b) = some (compare a b) := order_fltZ a b ha hb
theorem ford_lt {a b : Int} (ha : Small a) (hb : Small b) (h : a < b) : FloatKind.f64.format.order (fltZ a) (fltZ b) = some .lt := by rw [ford ha hb, Int.compare_eq_lt.2 h]
theorem ford_eq {a : Int} (ha : Small a) : FloatKind.f64.format.order (fltZ a) (fltZ a) = some .eq := by rw [ford ha ha, Int.compare_eq_eq.2 rfl]
theorem ford_gt {a b : Int} (ha : Small a) (hb : Small b) (h : b < a) : FloatKind.f64.format.order (fltZ a) (fltZ b) = some .gt := by rw [ford ha hb, Int.compare_eq_gt.2 h]
end Bw
namespace Go.Proofs.YthhbndepiofmeaaDoor
open Go.RowKit Bw
set_option linter.unusedVariables false
theorem conv_int (n : Int) (w : World) : (convert 3 48 (.int .i64 n)).run Tryd.prog w = .ok (.float .f64 (fltZ n)) w :=
  run_convert_int_float w 3 48 .i64 .f64 n (by rw [Tryd.underlying3]; rfl) Tryd.underlying48
theorem conv_flt (z : Int) (hz : Small z) (h0 : -9223372036854775808 ≤ z) (h1 : z ≤ 9223372036854775807) (w : World) : (convert 48 3 (.float .f64 (fltZ z))).run Tryd.prog w = .ok (.int .i64 z) w := by
  refine run_convert_float_int w 48 3 .f64 .i64 (fltZ z) z (by rw [Tryd.underlying48]; rfl) Tryd.underlying3 ?_
  unfold floatToIntVal
  rw [show (FloatKind.f64.decode (fltZ z)).toInt .zero = some z from toInt_fltZ z hz]
  simp only
  rw [if_pos ⟨h0, h1⟩]
theorem sp_within (n l m : Int) (w : World) : Calls Tryd.prog 23 #[.int .i64 n, .int .i64 l, .int .i64 m] w fun e w' => e = .returned (.bool (decide (l ≤ n) && decide (n ≤ m))) ∧ w = w' := by
  by_cases h1 : l ≤ n
  · rw [decide_eq_true h1, Bool.true_and]
    go_enter Tryd.func23, Tryd.ntmps23
    go_wp2_with fail
    go_ret
    exact ⟨by first | rfl | simp [*], rfl⟩
  · rw [decide_eq_false h1, Bool.false_and]
    go_enter Tryd.func23, Tryd.ntmps23
    go_wp2_with fail
    go_ret
    exact ⟨by first | rfl | simp [*], rfl⟩
theorem sp_whole (a b : Int) (w : World) : Calls Tryd.prog 25 #[.int .i64 a, .int .i64 b] w fun e w' => e = .returned (.complex .f64 (fltZ a) (fltZ b)) ∧ w = w' := by
  have h1 := conv_int a
  have h2 := conv_int b
  go_enter Tryd.func25, Tryd.ntmps25
  go_wp2_with fail
  go_ret
  exact ⟨rfl, rfl⟩
theorem sp_part (z : Int) (hz : Small z) (w : World) : Calls Tryd.prog 29 #[.float .f64 (fltZ z)] w fun e w' => e = .returned (.tuple #[.int .i64 (nZ z), .bool (okZ z)]) ∧ w = w' := by
  have hc0 := conv_int 0
  rw [c0] at hc0
  by_cases h0 : z < 0
  · have e1 : okZ z = false := by simp [okZ]; omega
    have e2 : nZ z = 0 := by simp [nZ, e1]
    rw [e1, e2]
    have g1 := ford_lt hz small0 h0
    rw [c0] at g1
    clear e1 e2 h0
    go_enter Tryd.func29, Tryd.ntmps29
    go_wp2_with fail
    go_ret2
    exact ⟨rfl, rfl⟩
  · by_cases h1 : z ≤ 1099511627776
    · have e1 : okZ z = true := by simp [okZ]; omega
      have e2 : nZ z = z := by simp [nZ, e1]
      rw [e1, e2]
      have g1 : FloatKind.f64.format.order (fltZ z) 0 = some .gt ∨ FloatKind.f64.format.order (fltZ z) 0 = some .eq := by
        by_cases hzz : z = 0
        · subst hzz; right; have := ford_eq small0; rw [c0] at this ⊢; exact this
        · left; have := ford_gt hz small0 (by omega); rw [c0] at this; exact this
      have g2 : FloatKind.f64.format.order (fltZ z) 4787326403894837248 = some .lt ∨ FloatKind.f64.format.order (fltZ z) 4787326403894837248 = some .eq := by
        rw [← c40]
        by_cases hzz : z = 1099511627776
        · subst hzz; right; exact ford_eq small40
        · left; exact ford_lt hz small40 (by omega)
      have g3 := ford_eq hz
      have hcf := conv_flt z hz (by omega) (by omega)
      have hci := conv_int z
      clear e1 e2 h0 h1
      generalize fltZ z = f at *
      rcases g1 with g1 | g1 <;> rcases g2 with g2 | g2
      all_goals
        go_enter Tryd.func29, Tryd.ntmps29
        go_wp2_with fail
        go_ret2
        exact ⟨rfl, rfl⟩
    · have e1 : okZ z = false := by simp [okZ]; omega
      have e2 : nZ z = 0 := by simp [nZ, e1]
      rw [e1, e2]
      have g1 := ford_gt hz small0 (by omega)
      rw [c0] at g1
      have g2 := ford_gt hz small40 (by omega)
      rw [c40] at g2
      clear e1 e2 h0 h1
      go_enter Tryd.func29, Tryd.ntmps29
      go_wp2_with fail
      go_ret2
      exact ⟨rfl, rfl⟩
end Go.Proofs.YthhbndepiofmeaaDoor
