import Derived.Test.YtoogmpoahnjfkaaField1Fixed
import Derived.Test.YtoogmpoahnjfkaaFieldFacts
import Derived.OpenShut
import Derived.Test.YtoogmpoahnjfkaaRegionLaw
namespace Go.Proofs.Ytoogmpoahnjfkaa
open Go.RowKit Bw
set_option linter.unusedVariables false

theorem and7 (n : Int) : ∃ A : Nat, bits .and .i64 n 7 = A ∧ A ≤ 7 := by
  refine ⟨((BitVec.ofInt 64 n &&& BitVec.ofInt 64 7).toNat), ?_, ?_⟩
  · have h : (BitVec.ofInt 64 n &&& BitVec.ofInt 64 7).toNat ≤ 7 := by
      rw [BitVec.toNat_and]; exact Nat.and_le_right
    show IntKind.i64.wrap ((BitVec.ofInt 64 n &&& BitVec.ofInt 64 7).toNat : Int) = _
    exact IntWalk.i64_in _ ⟨by omega, by omega⟩
  · rw [BitVec.toNat_and]; exact Nat.and_le_right

/-- One byte of a number. -/
theorem toLE_at (n k : Nat) : ∀ i, i < k → le (((toLE n k).drop i).take 1) = n / 256 ^ i % 256 := by
  induction k generalizing n with
  | zero => intro i h; omega
  | succ k ih =>
    intro i h
    cases i with
    | zero =>
      have e : (UInt8.ofNat n).toNat = n % 256 := UInt8.toNat_ofNat'
      simp [toLE, le, e]
    | succ i =>
      rw [toLE, List.drop_succ_cons, ih (n / 256) i (by omega), Nat.div_div_eq_div_mul, Nat.pow_succ, Nat.mul_comm 256]

def digits8 : ByteArray := ⟨#[49, 50, 51, 52, 53, 54, 55, 56]⟩

theorem sizes_put (n i : Nat) (hn : n < 18446744073709551616) (hi : i < 8) : getV (putS digits8 (0 : Nat) (8 : Nat) n) i (1 : Nat) = ((n / 256 ^ i % 256 : Nat) : Int) := by
  have hE : putE digits8 (0 : Nat) (8 : Nat) n = 0 := by
    have : roomE digits8 (0 : Nat) (8 : Nat) = 0 := by decide +kernel
    simp only [putE, this, if_true, Int.toNat_natCast]
    rw [if_neg (by omega)]
  obtain ⟨h1, _, _, _, _, h2⟩ := size_putS digits8 0 8 n hE
  have hz : digits8.size = 8 := rfl
  rw [getV_eq (by omega) (by omega) (by omega), h2]
  have e : (lst digits8).take 0 ++ toLE n 8 ++ (lst digits8).drop (0 + 8) = toLE n 8 := by
    rw [List.drop_eq_nil_of_le (by rw [lst_length]; exact Nat.le_refl _)]; simp
  rw [e, toLE_at n 8 i hi]

theorem sizes_step (n j : Nat) (hn : n < 18446744073709551616) (hj : j < 8) :
    bits BinOp.or IntKind.u64 (IntKind.u64.wrap (((n / 256 ^ (j + 1) : Nat) : Int) * 256)) ((n / 256 ^ j % 256 : Nat) : Int) = ((n / 256 ^ j : Nat) : Int) := by
  have h1 : n / 256 ^ (j + 1) = n / 256 ^ j / 256 := by rw [Nat.div_div_eq_div_mul, Nat.pow_succ]
  have h2 : n / 256 ^ j ≤ n := Nat.div_le_self _ _
  generalize n / 256 ^ j = m at *
  rw [h1]
  have e : (((m / 256 : Nat) : Int) * 256) = ((m / 256 * 256 : Nat) : Int) := by simp
  rw [e, IntWalk.u64_in _ ⟨by omega, by omega⟩, u64_or_nat _ _ (by omega) (by omega), Nat.or_comm]
  have := or_shift (m % 256) (m / 256) 8 (by omega)
  rw [show m / 256 * 256 = m / 256 * 2 ^ 8 from rfl, this]
  congr 1; omega

set_option maxHeartbeats 2000000 in
set_option maxRecDepth 100000 in
theorem sizes_walk (n : Nat) (z : Int) (w : World) (hn : n < 18446744073709551616) :
    Calls Try.prog 7 #[.int .u64 n, .int .i64 z] w fun e w' => e = .returned (.bool true) ∧ Below w.heap.size w w' := by
  have hu := Up.refl w
  obtain ⟨A, hA, hA2⟩ := and7 z
  have C5 := Lib.hid law1_fixed
  have hsz : digits8.size = 8 := rfl
  have c1 := fun w => field_Put digits8 0 (1 + (A : Int)) n w (by omega) (by omega) (by omega)
  have c2 := fun w => field_Put digits8 0 8 n w (by omega) (by omega) (by omega)
  have hE8 : putE digits8 0 8 n = 0 := by
    have : roomE digits8 0 8 = 0 := by decide +kernel
    have h8 : ((8 : Int)).toNat = 8 := rfl
    simp only [putE, this, if_true, Int.toNat_natCast, h8]
    rw [if_neg (by omega)]
  have hs8 : (putS digits8 0 8 n).size = digits8.size := (size_putS digits8 0 8 n hE8).1
  have c3 : ∀ (i : Int) w, 0 ≤ i → i < 8 → Calls Try.prog 10 #[.string (putS digits8 0 8 n), .int .i64 i, .int .i64 1] w fun e w' => e = .returned (.tuple #[.int .u64 ((n / 256 ^ i.toNat % 256 : Nat) : Int), .int .i64 0]) ∧ w = w' := fun i w h0 h1 => by
    obtain ⟨i, rfl⟩ := Int.eq_ofNat_of_zero_le h0
    have := field_Get (putS digits8 0 8 n) i 1 w (by rw [hs8]; omega)
    rw [show getV (putS digits8 0 8 n) i 1 = _ from sizes_put n i hn (by omega), show roomE (putS digits8 0 8 n) i 1 = 0 from roomE_of (k := 1) (by omega) (by omega) (by rw [hs8]; omega)] at this
    exact this
  rw [hE8] at c2
  have hp : 256 ^ (A + 1) ≤ n ∨ n < 256 ^ (A + 1) := by omega
  have hE : putE digits8 0 (1 + (A : Int)) n = if 256 ^ (A + 1) ≤ n then 2 else 0 := by
    have : roomE digits8 0 (1 + (A : Int)) = 0 := by simp [roomE, hsz]; omega
    have h8 : (1 + (A : Int)).toNat = A + 1 := by omega
    simp only [putE, this, if_true, Int.toNat_natCast, h8]
  clear hs8 hE8 hsz
  generalize putS digits8 0 8 n = X at *
  generalize putS digits8 0 (1 + (A : Int)) n = Y at *
  have Hn := Lib.hid hn
  rw [hE] at c1
  clear hE
  have C1 := Lib.hid c1; clear c1
  have C2 := Lib.hid c2; clear c2
  have C3 := Lib.hid c3; clear c3 hn
  unfold digits8 at C1 C2
  have hS : (7 ≤ A ∧ n < 256 ^ (A + 1)) ∨ (A < 7 ∧ 256 ^ (A + 1) ≤ n) ∨ (A < 7 ∧ n < 256 ^ (A + 1)) := by
    rcases Nat.lt_or_ge A 7 with h | h
    · omega
    · obtain rfl : A = 7 := by omega
      have := Hn.out; omega
  have ep : (2 : Int) ^ (8 * (1 + A)) = ((256 ^ (A + 1) : Nat) : Int) := by rw [← pow8, Nat.add_comm]; simp
  have ew : A < 7 → IntKind.u64.wrap (2 ^ (8 * (1 + A))) = ((256 ^ (A + 1) : Nat) : Int) := fun h => by
    rw [ep]
    have : 256 ^ (A + 1) ≤ 256 ^ 7 := Nat.pow_le_pow_right (by omega) (by omega)
    have h7 : (256 : Nat) ^ 7 = 72057594037927936 := rfl
    rw [h7] at this
    generalize (256 : Nat) ^ (A + 1) = p at *
    exact IntWalk.u64_in _ ⟨by omega, by omega⟩
  rcases hS with ⟨h1, h2⟩ | ⟨h1, h2⟩ | ⟨h1, h2⟩
  case' inl =>
    rw [if_neg (by omega)] at C1
    have hb1 : ((1 + (A : Int)) == 8) = true := by simp; omega
    clear ew ep h2 h1 hp
    go_enter Try.func7, Try.ntmps7
    go_wp2_with (first
      | (with_reducible refine (C1.out _).mono ?_; rintro e w1 ⟨rfl, hw1⟩; replace hu := hu.next hw1; clear hw1)
      | (with_reducible refine (C2.out _).mono ?_; rintro e w2 ⟨rfl, hw1⟩; replace hu := hu.next hw1; clear hw1))
  case' inr.inl =>
    rw [if_pos h2] at C1
    have hb1 : ((1 + (A : Int)) == 8) = false := by simp; omega
    have hd : decide ((n : Int) < IntKind.u64.wrap (2 ^ (8 * (1 + A)))) = false := by rw [ew h1]; exact decide_eq_false (by omega)
    clear ew ep h2 h1 hp
    go_enter Try.func7, Try.ntmps7
    go_wp2_with (first
      | (with_reducible refine (C1.out _).mono ?_; rintro e w1 ⟨rfl, hw1⟩; replace hu := hu.next hw1; clear hw1)
      | (with_reducible refine (C2.out _).mono ?_; rintro e w2 ⟨rfl, hw1⟩; replace hu := hu.next hw1; clear hw1))
    clear hd
  case' inr.inr =>
    rw [if_neg (by omega)] at C1
    have hb1 : ((1 + (A : Int)) == 8) = false := by simp; omega
    have hd : decide ((n : Int) < IntKind.u64.wrap (2 ^ (8 * (1 + A)))) = true := by rw [ew h1]; exact decide_eq_true (by omega)
    clear ew ep h2 h1 hp
    go_enter Try.func7, Try.ntmps7
    go_wp2_with (first
      | (with_reducible refine (C1.out _).mono ?_; rintro e w1 ⟨rfl, hw1⟩; replace hu := hu.next hw1; clear hw1)
      | (with_reducible refine (C2.out _).mono ?_; rintro e w2 ⟨rfl, hw1⟩; replace hu := hu.next hw1; clear hw1))
    clear hd
  all_goals
    go_loop [11, 12] (fun m i => ∃ j : Nat, j ≤ 8 ∧ i = .int .i64 ((j : Int) - 1) ∧ ∃ v : Int, m = .int .u64 v ∧ Hid (v = ((n / 256 ^ j : Nat) : Int))) (fun _ i => (intOf i + 1).toNat)
    case atStart => exact ⟨8, by omega, rfl, 0, rfl, by show _ = _; rw [Nat.div_eq_of_lt (by have := Hn.out; omega)]; rfl⟩
    case round =>
      obtain ⟨j, hj, rfl, v, rfl, hv⟩ := hrel
      by_cases h0 : j = 0
      · subst h0
        obtain rfl : v = (n : Int) := by have := hv.out; simpa using this
        go_wp2_with (first
          | (with_reducible refine (C5.out _).mono ?_; rintro e w1 ⟨rfl, hw1⟩; replace hu := hu.next hw1; clear hw1))
        go_ret
        exact ⟨rfl, hu⟩
      · obtain ⟨i, rfl⟩ : ∃ i, j = i + 1 := ⟨j - 1, by omega⟩
        have hi : ((i + 1 : Nat) : Int) - 1 = (i : Int) := by omega
        rw [hi]; clear hi
        have c3 := fun w => C3.out i w (by omega) (by omega)
        have HC3 := Lib.hid c3; clear c3
        go_wp2_with (first
          | (with_reducible refine (HC3.out _).mono ?_; rintro e w1 ⟨rfl, rfl⟩))
        go_round
        case rel =>
          refine ⟨i, by omega, rfl, _, rfl, ?_⟩
          have hv' := hv.out
          subst hv'
          exact sizes_step n i Hn.out (by omega)
        case measure => simp [intOf]

theorem sizes_law (n : Int) (wn : (Lit.int .u64 n).wf = true) (z : Int) (wz : (Lit.int .i64 z).wf = true) (w : World) :
    Calls Try.prog 7 #[.int .u64 n, .int .i64 z] w fun e w' => e = .returned (.bool true) ∧ Below w.heap.size w w' := by
  have := bounds_u64 wn
  obtain ⟨n, rfl⟩ := Int.eq_ofNat_of_zero_le this.1
  exact sizes_walk n z w (by omega)
end Go.Proofs.Ytoogmpoahnjfkaa
