/- Layer 24, the document's side: numerals. -/
import Derived.Test.YtkkgcmnipdkeeaaDoorScRef3
import Derived.Lib.ItoaNum
namespace Bw
open Go
theorem itoa_small {n : Int} (h0 : 0 ≤ n) (h1 : n < 10) : Lib.itoa n = [UInt8.ofNat (48 + (n % 10).toNat)] := by
  unfold Lib.itoa
  rw [if_neg (by omega)]
  unfold Lib.decDigits
  rw [dif_pos (by omega), show (n % 10).toNat = n.toNat by omega]
theorem itoa_big {n : Int} (h1 : 10 ≤ n) : Lib.itoa n = Lib.itoa (n / 10) ++ [UInt8.ofNat (48 + (n % 10).toNat)] := by
  unfold Lib.itoa
  rw [if_neg (by omega), if_neg (by omega)]
  rw [Lib.decDigits, dif_neg (by omega), show (n / 10).toNat = n.toNat / 10 by omega, show (n % 10).toNat = n.toNat % 10 by omega]
theorem itoa_len {n : Int} : ∀ (k : Nat), 0 ≤ n → n.toNat < 10 ^ (k + 1) → (Lib.itoa n).length ≤ k + 1 := by
  intro k
  induction k generalizing n with
  | zero => intro h0 hk; rw [itoa_small h0 (by omega)]; simp
  | succ k ih =>
    intro h0 hk
    by_cases h1 : n < 10
    · rw [itoa_small h0 h1]; simp
    · rw [itoa_big (by omega), List.length_append]
      have := ih (n := n / 10) (by omega) (by rw [Nat.pow_succ] at hk; omega)
      simp; omega
end Bw
namespace Go.Proofs.YtkkgcmnipdkeeaaDoor
open Go.RowKit Bw
set_option linter.unusedVariables false
set_option maxHeartbeats 1000000 in
theorem ref24_dec : ∀ (k : Nat) (n : Int), 0 ≤ n → n ≤ 1000 → n.toNat < 10 ^ (k + 1) → ∀ w, Calls Tryd.prog 36 #[.int .i64 n] w fun e w' => e = .returned (.string (str (Lib.itoa n))) ∧ Below w.heap.size w w' := by
  intro k
  induction k with
  | zero =>
    intro n h0 h1 hk w
    have i0 : n < 10 := by omega
    have CO := Lib.hid (fun w => ref24_one (48 + n % 10) (by omega) (by omega) w)
    rw [itoa_small h0 i0]
    rw [numL_one, show (48 + n % 10).toNat = 48 + (n % 10).toNat by omega] at CO
    generalize str [UInt8.ofNat (48 + (n % 10).toNat)] = B at *
    have hu := Up.refl w
    clear hk
    go_enter Tryd.func36, Tryd.ntmps36
    go_wp2_with ((with_reducible refine (CO.out _).mono ?_); rintro e w1 ⟨rfl, hB⟩; replace hu := hu.next hB; clear hB)
    go_ret
    exact ⟨rfl, hu⟩
  | succ k ih =>
    intro n h0 h1 hk w
    by_cases i0 : n < 10
    · exact ih n h0 h1 (by have := Nat.one_le_pow k 10 (by decide); rw [Nat.pow_succ]; omega) w
    · have C1 := Lib.hid (ih (n / 10) (by omega) (by omega) (by rw [Nat.pow_succ] at hk; omega))
      have CO := Lib.hid (fun w => ref24_one (48 + n % 10) (by omega) (by omega) w)
      rw [itoa_big (by omega)]
      rw [numL_one, show (48 + n % 10).toNat = 48 + (n % 10).toNat by omega] at CO
      have hz := itoa_len (n := n / 10) 3 (by omega) (by omega)
      have HS := Lib.hid (show str (Lib.itoa (n / 10)) ++ str [UInt8.ofNat (48 + (n % 10).toNat)] = str (Lib.itoa (n / 10) ++ [UInt8.ofNat (48 + (n % 10).toNat)]) from str_append _ _)
      have hz1 : ¬ 9223372036854775807 < (str (Lib.itoa (n / 10))).size + (str [UInt8.ofNat (48 + (n % 10).toNat)]).size := by rw [size_str, size_str]; simp only [List.length_cons, List.length_nil]; omega
      clear hz hk ih
      generalize str (Lib.itoa (n / 10) ++ [UInt8.ofNat (48 + (n % 10).toNat)]) = R at *
      generalize str [UInt8.ofNat (48 + (n % 10).toNat)] = B at *
      generalize str (Lib.itoa (n / 10)) = X at *
      have hu := Up.refl w
      go_enter Tryd.func36, Tryd.ntmps36
      go_wp2_with (first
        | ((with_reducible refine (CO.out _).mono ?_); rintro e w1 ⟨rfl, hB⟩; replace hu := hu.next hB; clear hB)
        | ((with_reducible refine (C1.out _).mono ?_); rintro e w1 ⟨rfl, hB⟩; replace hu := hu.next hB; clear hB))
      go_ret
      exact ⟨by rw [← HS.out]; rfl, hu⟩
theorem ref24_decimal (n : Int) (h0 : 0 ≤ n) (h1 : n ≤ 255) (w : World) : Calls Tryd.prog 36 #[.int .i64 n] w fun e w' => e = .returned (.string (str (Lib.itoa n))) ∧ Below w.heap.size w w' := ref24_dec 3 n h0 (by omega) (by omega) w
end Go.Proofs.YtkkgcmnipdkeeaaDoor
