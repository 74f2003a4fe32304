import Derived.Test.YthhbndepiofmeaaDoorSpWalk4
import Derived.Lib.SmallJoins
import Derived.Lib.LaidTab
import Derived.Lib.AppendIntMem
namespace Bw
open Go
def itoaS (n : Int) : ByteArray := ⟨(Lib.itoa n).toArray⟩
def showZ (x y : Int) : ByteArray := if (okZ x && okZ y) = true then itoaS x ++ ⟨#[43]⟩ ++ itoaS y ++ ⟨#[105]⟩ else ⟨#[]⟩
end Bw
namespace Go.Proofs.YthhbndepiofmeaaDoor
open Go.RowKit Bw
set_option linter.unusedVariables false
/-- strconv's table of powers of ten lies as its text lays it. -/
def Tab (w : World) : Prop := Lib.TabIs Tryd.prog w "internal/strconv.uint64pow10" .u64 Lib.pow10Tab
theorem Tab.up {w w' : World} (h : Tab w) (hu : Up w w') : Tab w' := Go.Joins.tab_stays (g := 0) (by kernel_rfl) h hu (Nat.le_refl _)
theorem sp_Itoa (n : Int) (h0 : 0 ≤ n) (h1 : n ≤ 1099511627776) (w : World) (ht : Tab w) : Calls Tryd.prog 27 #[.int .i64 n] w fun e w' => e = .returned (.string (itoaS n)) ∧ Below w.heap.size w w' :=
  (Tryd.strconv_Itoa n (by omega) (by omega) w ht).mono fun e w' ⟨he, k, os, hw⟩ => ⟨he, by rw [hw]; exact Lib.below_grow _ _ (Nat.le_refl _) _ _⟩
theorem itoaS_size (n : Int) (h0 : 0 ≤ n) (h1 : n ≤ 1099511627776) : (itoaS n).size ≤ 100 := by
  have hd : ∀ k : Nat, ∀ u : Nat, u < 10 ^ (k + 1) → (Lib.decDigits u).length ≤ k + 1 := by
    intro k
    induction k with
    | zero => intro u hu; unfold Lib.decDigits; rw [dif_pos (by omega)]; simp
    | succ k ih =>
      intro u hu
      unfold Lib.decDigits
      split
      · simp
      · rw [List.length_append]
        have := ih (u / 10) (by rw [Nat.pow_succ] at hu; omega)
        simp; omega
  show (Lib.itoa n).length ≤ 100
  unfold Lib.itoa
  rw [if_neg (by omega)]
  have := hd 12 n.toNat (by omega)
  omega
set_option maxHeartbeats 1000000 in
theorem sp_Show (x y : Int) (hx : Small x) (hy : Small y) (w : World) (ht : Tab w) : Calls Tryd.prog 21 #[.complex .f64 (fltZ x) (fltZ y)] w fun e w' => e = .returned (.string (showZ x y)) ∧ Below w.heap.size w w' := by
  have c1 := sp_parts x y hx hy
  cases ho : (okZ x && okZ y)
  · have e : showZ x y = ⟨#[]⟩ := by simp [showZ, ho]
    rw [e]
    rw [ho] at c1
    have C1 := Lib.hid c1
    clear c1 hx hy ho e
    go_enter Tryd.func21, Tryd.ntmps21
    go_wp2_with ((with_reducible refine (C1.out _).mono ?_); rintro e w1 ⟨rfl, rfl⟩)
    go_ret
    exact ⟨rfl, Below.refl _ _⟩
  · have e : showZ x y = itoaS x ++ ⟨#[43]⟩ ++ itoaS y ++ ⟨#[105]⟩ := by simp [showZ, ho]
    rw [e]
    rw [ho] at c1
    obtain ⟨o1, o2⟩ := Bool.and_eq_true_iff.1 ho
    rw [nZ_ok o1, nZ_ok o2] at c1
    obtain ⟨x0, x1⟩ := okZ_iff.1 o1
    obtain ⟨y0, y1⟩ := okZ_iff.1 o2
    have C1 := Lib.hid c1
    have C2 := Lib.hid (sp_Itoa x x0 x1)
    have C3 := Lib.hid (sp_Itoa y y0 y1)
    have z1 := itoaS_size x x0 x1
    have z2 := itoaS_size y y0 y1
    have hu := Up.refl w
    have HT := Lib.hid ht
    have k1 : ¬ 9223372036854775807 < (itoaS x).size + (⟨#[43]⟩ : ByteArray).size := by rw [show (⟨#[43]⟩ : ByteArray).size = 1 from rfl]; omega
    have k2 : ¬ 9223372036854775807 < (itoaS x ++ ⟨#[43]⟩).size + (itoaS y).size := by rw [ByteArray.size_append, show (⟨#[43]⟩ : ByteArray).size = 1 from rfl]; omega
    have k3 : ¬ 9223372036854775807 < (itoaS x ++ ⟨#[43]⟩ ++ itoaS y).size + (⟨#[105]⟩ : ByteArray).size := by rw [ByteArray.size_append, ByteArray.size_append, show (⟨#[43]⟩ : ByteArray).size = 1 from rfl, show (⟨#[105]⟩ : ByteArray).size = 1 from rfl]; omega
    clear c1 hx hy ho e o1 o2 ht z1 z2
    generalize itoaS x = X at *
    generalize itoaS y = Y at *
    go_enter Tryd.func21, Tryd.ntmps21
    go_wp2_with (first
      | ((with_reducible refine (C1.out _).mono ?_); rintro e w1 ⟨rfl, rfl⟩)
      | ((with_reducible refine (C2.out _ (HT.out.up hu)).mono ?_); rintro e w1 ⟨rfl, hB⟩; replace hu := hu.next hB; clear hB C2)
      | ((with_reducible refine (C3.out _ (HT.out.up hu)).mono ?_); rintro e w1 ⟨rfl, hB⟩; replace hu := hu.next hB; clear hB C3))
    go_ret
    exact ⟨rfl, hu⟩
end Go.Proofs.YthhbndepiofmeaaDoor
