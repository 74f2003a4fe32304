/- Layer 18, the document's side: digits, Show; a spread as a number. -/
import Derived.Test.YthhbndepiofmeaaDoorSpRef1
import Derived.Test.YthhbndepiofmeaaDoorBytesLaw
namespace Bw
open Go Ieee Go.RowKit
theorem itoaS_small {n : Int} (h0 : 0 ≤ n) (h1 : n < 10) : itoaS n = str [UInt8.ofNat (48 + (n % 10).toNat)] := by
  unfold itoaS str Lib.itoa
  rw [if_neg (by omega)]
  unfold Lib.decDigits
  rw [dif_pos (by omega), show (n % 10).toNat = n.toNat by omega]
theorem itoaS_big {n : Int} (h1 : 10 ≤ n) : itoaS n = itoaS (n / 10) ++ str [UInt8.ofNat (48 + (n % 10).toNat)] := by
  have e : itoaS (n / 10) = str (Lib.itoa (n / 10)) := rfl
  rw [e, str_append]
  unfold itoaS
  show str (Lib.itoa n) = _
  congr 1
  unfold Lib.itoa
  rw [if_neg (by omega), if_neg (by omega)]
  rw [Lib.decDigits, dif_neg (by omega), show (n / 10).toNat = n.toNat / 10 by omega, show (n % 10).toNat = n.toNat % 10 by omega]
theorem digit_byte {n : Int} (h0 : 0 ≤ n) : 48 + n % 10 = (((UInt8.ofNat (48 + (n % 10).toNat)).toNat : Nat) : Int) := by
  rw [UInt8.toNat_ofNat']; omega
theorem bytes_one18 (w : World) (e : TypeId) (b : UInt8) : BytesAt (w.alloc (.cells #[.int .u8 (b.toNat : Int)] e)) w.heap.size 0 [b] := by
  have h := RowAt.made w e [.int .u8 (b.toNat : Int)]
  refine ⟨fun j hj => ?_, fun j hj => ?_⟩
  · obtain rfl : j = 0 := by simp at hj; omega
    exact h.cell 0 (by simp)
  · obtain rfl : j = 0 := by simp at hj; omega
    exact h.free 0 (by simp)
end Bw
namespace Go.Proofs.YthhbndepiofmeaaDoor
open Go.RowKit Bw
set_option linter.unusedVariables false
set_option maxHeartbeats 1000000 in
theorem r_digits : ∀ (k : Nat) (n : Int), 0 ≤ n → n ≤ 1099511627776 → n.toNat < 10 ^ (k + 1) → ∀ w, Calls Tryd.prog 28 #[.int .i64 n] w fun e w' => e = .returned (.string (itoaS n)) ∧ Below w.heap.size w w' := by
  intro k
  induction k with
  | zero =>
    intro n h0 h1 hk w
    have i0 : n < 10 := by omega
    rw [itoaS_small h0 i0]
    have hone := fun w e => bytes_one18 w e (UInt8.ofNat (48 + (n % 10).toNat))
    rw [← digit_byte h0] at hone
    have HO := Lib.hid hone; clear hone hk
    generalize UInt8.ofNat (48 + (n % 10).toNat) = B at *
    have hu := Up.refl w
    go_enter Tryd.func28, Tryd.ntmps28
    go_wp2_with (with_reducible refine wpList_toString rfl _ 59 9 5 rfl Tryd.underlying59 Tryd.underlying9 Tryd.underlying5 [B] w.heap.size 0 1 1 rfl (by simp) (HO.out _ _) ?_)
    go_ret
    exact ⟨rfl, hu.alloc _⟩
  | succ k ih =>
    intro n h0 h1 hk w
    by_cases i0 : n < 10
    · exact ih n h0 h1 (by have := Nat.one_le_pow k 10 (by decide); rw [Nat.pow_succ]; omega) w
    · have C1 := Lib.hid (ih (n / 10) (by omega) (by omega) (by rw [Nat.pow_succ] at hk; omega))
      rw [itoaS_big (by omega)]
      have hz := itoaS_size (n / 10) (by omega) (by omega)
      have hone := fun w e => bytes_one18 w e (UInt8.ofNat (48 + (n % 10).toNat))
      rw [← digit_byte h0] at hone
      have HO := Lib.hid hone; clear hone hk ih
      generalize UInt8.ofNat (48 + (n % 10).toNat) = B at *
      have hz1 : ¬ 9223372036854775807 < (itoaS (n / 10)).size + (str [B]).size := by rw [size_str]; simp only [List.length_cons, List.length_nil]; omega
      clear hz
      generalize itoaS (n / 10) = X at *
      have hu := Up.refl w
      go_enter Tryd.func28, Tryd.ntmps28
      go_wp2_with (first
        | (with_reducible refine wpList_toString rfl _ 59 9 5 rfl Tryd.underlying59 Tryd.underlying9 Tryd.underlying5 [B] w.heap.size 0 1 1 rfl (by simp) (HO.out _ _) ?_; replace hu := hu.alloc (.cells #[.int .u8 (48 + n % 10)] 5))
        | ((with_reducible refine (C1.out _).mono ?_); rintro e w1 ⟨rfl, hB⟩; replace hu := hu.next hB; clear hB))
      go_ret
      exact ⟨rfl, hu⟩
theorem r_digits' (n : Int) (h0 : 0 ≤ n) (h1 : n ≤ 1099511627776) (w : World) : Calls Tryd.prog 28 #[.int .i64 n] w fun e w' => e = .returned (.string (itoaS n)) ∧ Below w.heap.size w w' := r_digits 12 n h0 h1 (by omega) w
theorem law_Of (x y : Int) (w : World) : Calls Tryd.prog 13 #[spV x y] w fun e w' => e = .returned (.complex .f64 (fltZ x) (fltZ y)) ∧ w' = w.alloc (.cells #[.int .i64 x, .int .i64 y] 30) := by
  have h1 := conv_int x
  have h2 := conv_int y
  unfold spV
  go_enter Tryd.func13, Tryd.ntmps13
  go_wp2_with fail
  go_ret
  exact ⟨rfl, rfl⟩
set_option maxHeartbeats 1000000 in
theorem r_Show (x y : Int) (w : World) : Calls Tryd.prog 22 #[spV x y] w fun e w' => e = .returned (.string (showZ x y)) ∧ Below w.heap.size w w' := by
  have c1 := r_Right x y
  have hu := Up.refl w
  unfold spV at *
  cases ho : (okZ x && okZ y)
  · have e : showZ x y = ⟨#[]⟩ := by simp [showZ, ho]
    rw [e]
    rw [ho] at c1
    have C1 := Lib.hid c1
    clear c1 ho e
    go_enter Tryd.func22, Tryd.ntmps22
    go_wp2_with ((with_reducible refine (C1.out _).mono ?_); rintro e w1 ⟨rfl, rfl⟩)
    go_ret
    exact ⟨rfl, by repeat (first | exact hu | refine Up.alloc ?_ _)⟩
  · have e : showZ x y = itoaS x ++ ⟨#[43]⟩ ++ itoaS y ++ ⟨#[105]⟩ := by simp [showZ, ho]
    rw [e]
    rw [ho] at c1
    obtain ⟨o1, o2⟩ := Bool.and_eq_true_iff.1 ho
    obtain ⟨x0, x1⟩ := okZ_iff.1 o1
    obtain ⟨y0, y1⟩ := okZ_iff.1 o2
    have C1 := Lib.hid c1
    have C2 := Lib.hid (r_digits' x x0 x1)
    have C3 := Lib.hid (r_digits' y y0 y1)
    have z1 := itoaS_size x x0 x1
    have z2 := itoaS_size y y0 y1
    have k1 : ¬ 9223372036854775807 < (itoaS x).size + (⟨#[43]⟩ : ByteArray).size := by rw [show (⟨#[43]⟩ : ByteArray).size = 1 from rfl]; omega
    have k2 : ¬ 9223372036854775807 < (itoaS x ++ ⟨#[43]⟩).size + (itoaS y).size := by rw [ByteArray.size_append, show (⟨#[43]⟩ : ByteArray).size = 1 from rfl]; omega
    have k3 : ¬ 9223372036854775807 < (itoaS x ++ ⟨#[43]⟩ ++ itoaS y).size + (⟨#[105]⟩ : ByteArray).size := by rw [ByteArray.size_append, ByteArray.size_append, show (⟨#[43]⟩ : ByteArray).size = 1 from rfl, show (⟨#[105]⟩ : ByteArray).size = 1 from rfl]; omega
    clear c1 ho e o1 o2 z1 z2 x0 x1 y0 y1
    generalize itoaS x = X at *
    generalize itoaS y = Y at *
    have rr := (RowAt.made w 30 [.int .i64 x, .int .i64 y]).alloc (.cells #[.int .i64 x, .int .i64 y] 30)
    replace hu := (hu.alloc (.cells #[.int .i64 x, .int .i64 y] 30)).alloc (.cells #[.int .i64 x, .int .i64 y] 30)
    go_enter Tryd.func22, Tryd.ntmps22
    go_upto_region 3 with ((with_reducible refine (C1.out _).mono ?_); rintro e w1 ⟨rfl, rfl⟩)
    generalize w.heap.size = g at *
    generalize (w.alloc (.cells #[.int .i64 x, .int .i64 y] 30)).alloc (.cells #[.int .i64 x, .int .i64 y] 30) = w5 at *
    obtain ⟨q0, q1, q2, q3⟩ := rr.c2
    have l0 := Later.cell_of q0; have l1 := Later.cell_of q1
    have hne := later_ne w5
    clear q0 q1 q2 q3
    refine wp_region_later (by kernel_rfl) (by kernel_rfl) ?_
    repeat (go_big_quiet_step (first
      | (go_at_call 28; with_reducible exact Calls.later (C2.out _))
      | (go_at_call 28; with_reducible exact Calls.later (C3.out _))))
    refine wpQuiet_nil ?_
    intro w9 hw9
    obtain ⟨u9, rfl⟩ := hw9
    replace hu := hu.trans u9.up
    clear l0 l1 hne
    generalize u9.world = w9 at *
    go_wp2_with fail
    go_ret
    exact ⟨rfl, hu⟩
end Go.Proofs.YthhbndepiofmeaaDoor
