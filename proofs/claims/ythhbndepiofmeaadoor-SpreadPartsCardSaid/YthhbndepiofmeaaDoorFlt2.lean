/- Any float beside floats that are whole numbers: what stands for a whole number, its order, sums, as an integer. No program in sight. -/
import Derived.Test.YthhbndepiofmeaaDoorFlt
namespace Bw
open Ieee
set_option linter.unusedVariables false
def sgn (s : Bool) (m : Nat) : Int := if s = true then -(m : Int) else (m : Int)
theorem signed_sgn (s : Bool) (m u : Nat) : signed s m u = sgn s m * ((2 ^ u : Nat) : Int) := by
  unfold signed sgn
  rw [Nat.shiftLeft_eq]
  cases s
  · simp
  · simp [Int.neg_mul]
theorem pow_add' (a b : Nat) : ((2 ^ (a + b) : Nat) : Int) = ((2 ^ a : Nat) : Int) * ((2 ^ b : Nat) : Int) := by rw [Nat.pow_add]; simp
/-- The word f stands for the whole number z. -/
def IsZ (f : Nat) (z : Int) : Prop := ∃ s m p, double.read f = .number s m p ∧ ∀ T : Nat, -(T : Int) ≤ p → signed s m (p + (T : Int)).toNat = z * ((2 ^ T : Nat) : Int)
theorem scale {σ z p : Int} {T0 : Nat} (h0 : -(T0 : Int) ≤ p) (h : σ * ((2 ^ (p + (T0 : Int)).toNat : Nat) : Int) = z * ((2 ^ T0 : Nat) : Int)) (T : Nat) (hT : -(T : Int) ≤ p) : σ * ((2 ^ (p + (T : Int)).toNat : Nat) : Int) = z * ((2 ^ T : Nat) : Int) := by
  have h1 : (p + (T : Int)).toNat + T0 = (p + (T0 : Int)).toNat + T := by omega
  have h2 := pow_add' (p + (T : Int)).toNat T0
  have h3 := pow_add' (p + (T0 : Int)).toNat T
  rw [h1] at h2
  have hp := pow_pos' T0
  refine Int.eq_of_mul_eq_mul_right (a := ((2 ^ T0 : Nat) : Int)) (by omega) ?_
  rw [Int.mul_assoc, ← h2, h3, ← Int.mul_assoc, h, Int.mul_assoc, Int.mul_assoc, Int.mul_comm ((2 ^ T0 : Nat) : Int)]
theorem isZ_of_eq {f : Nat} {z : Int} (hz : z.natAbs < 2 ^ 53) (h : double.order f (fltZ z) = some .eq) : IsZ f z := by
  obtain ⟨c, hc, e1⟩ := read_fltZ z hz
  unfold Format.order at h
  rw [e1] at h
  cases hr : double.read f with
  | nan s t => rw [hr] at h; simp [Datum.order] at h
  | infinity s => rw [hr] at h; cases s <;> simp [Datum.order] at h
  | number s m p =>
    rw [hr] at h
    refine ⟨s, m, p, hr, ?_⟩
    unfold Datum.order at h
    simp only at h
    have h' := Int.compare_eq_eq.1 (Option.some.inj h)
    rw [signed_eq, signed_sgn] at h'
    obtain ⟨T0, hT0⟩ : ∃ T0 : Nat, min p (-(c : Int)) = -(T0 : Int) := ⟨(-(min p (-(c : Int)))).toNat, by omega⟩
    rw [hT0, show c + (-(c : Int) - -(T0 : Int)).toNat = T0 by omega, show p - -(T0 : Int) = p + T0 by omega] at h'
    intro T hT
    rw [signed_sgn]
    exact scale (by omega) h' T hT
theorem isZ_order {f : Nat} {z : Int} (h : IsZ f z) (y : Int) (hy : y.natAbs < 2 ^ 53) : double.order f (fltZ y) = some (compare z y) ∧ double.order (fltZ y) f = some (compare y z) := by
  obtain ⟨s, m, p, hr, hs⟩ := h
  obtain ⟨c, hc, e1⟩ := read_fltZ y hy
  unfold Format.order
  rw [e1, hr]
  unfold Datum.order
  simp only
  obtain ⟨T0, hT0⟩ : ∃ T0 : Nat, min p (-(c : Int)) = -(T0 : Int) := ⟨(-(min p (-(c : Int)))).toNat, by omega⟩
  rw [show min (-(c : Int)) p = min p (-(c : Int)) by omega, hT0, signed_eq, show c + (-(c : Int) - -(T0 : Int)).toNat = T0 by omega, show p - -(T0 : Int) = p + T0 by omega, hs T0 (by omega)]
  have hp := pow_pos' T0
  generalize ((2 ^ T0 : Nat) : Int) = P at *
  have key : ∀ a b : Int, compare (a * P) (b * P) = compare a b := by
    intro a b
    rcases Int.lt_trichotomy a b with h | h | h
    · have := Int.mul_lt_mul_of_pos_right h hp
      rw [Int.compare_eq_lt.2 this, Int.compare_eq_lt.2 h]
    · subst h; rw [Int.compare_eq_eq.2 rfl, Int.compare_eq_eq.2 rfl]
    · have := Int.mul_lt_mul_of_pos_right h hp
      rw [Int.compare_eq_gt.2 this, Int.compare_eq_gt.2 h]
  exact ⟨by rw [key], by rw [key]⟩
/-- What stands for a whole number, and a whole number that is a positive zero or more. -/
theorem isZ_add {f : Nat} {z : Int} (h : IsZ f z) (hz : 0 ≤ z) (b : Int) (hb0 : 0 ≤ b) (hb : b.natAbs < 2 ^ 53) (hab : (z + b).natAbs < 2 ^ 53) : double.add f (fltZ b) = some (fltZ (z + b)) := by
  obtain ⟨s, m, p, hr, hs⟩ := h
  obtain ⟨c, hc, e1⟩ := read_fltZ b hb
  unfold Format.add
  rw [e1, hr]
  unfold Datum.sum
  simp only
  obtain ⟨T0, hT0⟩ : ∃ T0 : Nat, min p (-(c : Int)) = -(T0 : Int) := ⟨(-(min p (-(c : Int)))).toNat, by omega⟩
  have hT1 : T0 ≤ 1074 := by
    have hp : -1074 ≤ p := by
      unfold Format.read at hr
      simp only at hr
      rw [least_double] at hr
      split at hr
      · injection hr with _ _ h3; omega
      · split at hr
        · injection hr with _ _ h3; omega
        · split at hr <;> cases hr
    omega
  rw [hT0, signed_eq, show c + (-(c : Int) - -(T0 : Int)).toNat = T0 by omega, show p - -(T0 : Int) = p + T0 by omega, hs T0 (by omega), ← Int.add_mul, Option.map_some]
  have hp := pow_pos' T0
  congr 1
  refine write_int (z + b) T0 hT1 hab _ (fun hne => ?_) (fun he => ?_)
  · have h3 : (z + b) * ((2 ^ T0 : Nat) : Int) ≠ 0 := Int.mul_ne_zero hne (by omega)
    rw [if_neg h3, decide_eq_false (show ¬ z + b < 0 by omega), decide_eq_false]
    have := Int.mul_nonneg (show 0 ≤ z + b by omega) (Int.le_of_lt hp)
    omega
  · rw [he, Int.zero_mul, if_pos rfl, decide_eq_false (show ¬ b < 0 by omega), Bool.and_false]
theorem cut_zero_le (s : Bool) (n drop : Nat) : Toward.zero.cut s n drop * 2 ^ drop ≤ n := by
  unfold Toward.cut
  simp only [Bool.toNat_false, Nat.add_zero]
  rw [Nat.one_shiftLeft]
  by_cases h : drop ≤ n.log2 + 2
  · rw [Nat.min_eq_left h]; exact Nat.div_mul_le_self _ _
  · rw [Nat.min_eq_right (by omega)]
    have : n < 2 ^ (n.log2 + 2) := by
      by_cases hn : n = 0
      · subst hn; exact Nat.two_pow_pos _
      · exact (Nat.log2_lt hn).1 (by omega)
    rw [Nat.div_eq_of_lt this, Nat.zero_mul]
    exact Nat.zero_le _
/-- A float from zero to a whole number, as a whole number. -/
theorem toInt_range {f : Nat} (h0 : double.order f 0 = some .gt ∨ double.order f 0 = some .eq) (M : Int) (hM : M.natAbs < 2 ^ 53) (h1 : double.order f (fltZ M) = some .lt ∨ double.order f (fltZ M) = some .eq) :
    ∃ z, (double.read f).toInt .zero = some z ∧ 0 ≤ z ∧ z ≤ M := by
  have hz0 : fltZ 0 = 0 := nearest_zero false 0
  rw [← hz0] at h0
  obtain ⟨c, hc, e1⟩ := read_fltZ M hM
  obtain ⟨c0, hc0, e0⟩ := read_fltZ 0 (by decide)
  unfold Format.order at h0 h1
  rw [e1] at h1
  rw [e0] at h0
  cases hr : double.read f with
  | nan s t => rw [hr] at h1; simp [Datum.order] at h1
  | infinity s => rw [hr] at h1 h0; cases s <;> simp [Datum.order] at h1 h0
  | number s m p =>
    rw [hr] at h0 h1
    unfold Datum.order at h0 h1
    simp only at h0 h1
    rw [signed_eq, signed_sgn] at h0 h1
    have h0' : 0 ≤ sgn s m := by
      rw [Int.zero_mul] at h0
      have hp := pow_pos' (p - min p (-(c0 : Int))).toNat
      have h2 : 0 ≤ sgn s m * ((2 ^ (p - min p (-(c0 : Int))).toNat : Nat) : Int) := by
        rcases h0 with h | h
        · exact Int.le_of_lt (Int.compare_eq_gt.1 (Option.some.inj h))
        · have := Int.compare_eq_eq.1 (Option.some.inj h); omega
      exact Int.le_of_not_gt fun h' => by have := Int.mul_neg_of_neg_of_pos h' hp; omega
    obtain ⟨T0, hT0⟩ : ∃ T0 : Nat, min p (-(c : Int)) = -(T0 : Int) := ⟨(-(min p (-(c : Int)))).toNat, by omega⟩
    rw [hT0, show c + (-(c : Int) - -(T0 : Int)).toNat = T0 by omega, show p - -(T0 : Int) = p + T0 by omega] at h1
    have h1' : sgn s m * ((2 ^ (p + (T0 : Int)).toNat : Nat) : Int) ≤ M * ((2 ^ T0 : Nat) : Int) := by
      rcases h1 with h | h
      · exact Int.le_of_lt (Int.compare_eq_lt.1 (Option.some.inj h))
      · exact Int.le_of_eq (Int.compare_eq_eq.1 (Option.some.inj h))
    clear h0 h1
    have hTp : -(T0 : Int) ≤ p := by omega
    have hcut := cut_zero_le s (m <<< p.toNat) (-p).toNat
    refine ⟨signed s (Toward.zero.cut s (m <<< p.toNat) (-p).toNat) 0, rfl, ?_⟩
    generalize Toward.zero.cut s (m <<< p.toNat) (-p).toNat = k at *
    rw [signed_sgn, Nat.pow_zero]
    rw [Nat.shiftLeft_eq] at hcut
    have hk : (k : Int) ≤ M ∧ (s = true → k = 0) := by
      have e : sgn s m = (m : Int) := by
        unfold sgn at h0' ⊢
        cases s
        · rfl
        · simp at h0' ⊢; omega
      rw [e] at h1'
      refine ⟨?_, fun hs => ?_⟩
      · have hp := pow_pos' T0
        refine Int.le_of_mul_le_mul_right (a := ((2 ^ T0 : Nat) : Int)) ?_ hp
        refine Int.le_trans ?_ h1'
        have h3 : k * 2 ^ T0 ≤ m * 2 ^ (p + (T0 : Int)).toNat := by
          have h4 : (-p).toNat + (p + (T0 : Int)).toNat = T0 + p.toNat := by omega
          have h5 := Nat.mul_le_mul_right (2 ^ (p + (T0 : Int)).toNat) hcut
          rw [Nat.mul_assoc, ← Nat.pow_add, h4, Nat.pow_add, ← Nat.mul_assoc, Nat.mul_assoc m, Nat.mul_comm (2 ^ p.toNat), ← Nat.mul_assoc] at h5
          exact Nat.le_of_mul_le_mul_right h5 (Nat.two_pow_pos _)
        have h4 : ((k * 2 ^ T0 : Nat) : Int) ≤ ((m * 2 ^ (p + (T0 : Int)).toNat : Nat) : Int) := Int.ofNat_le.2 h3
        rw [Int.natCast_mul, Int.natCast_mul] at h4
        exact h4
      · subst hs
        have hm : m = 0 := by simp [sgn] at h0'; omega
        subst hm
        rw [Nat.zero_mul] at hcut
        exact (Nat.mul_eq_zero.1 (Nat.le_zero.1 hcut)).resolve_right (by have := Nat.two_pow_pos (-p).toNat; omega)
    obtain ⟨hk1, hk2⟩ := hk
    unfold sgn
    cases s
    · simp; omega
    · have := hk2 rfl; subst this; simp; omega
end Bw
