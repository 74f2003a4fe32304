/- Floats that are whole numbers, in plain Lean: what they are as bits, sums, differences, order. No program in sight. -/
import Ieee.Arith
namespace Bw
open Ieee
set_option linter.unusedVariables false
/-- The bits of a whole number. -/
def fltZ (z : Int) : Nat := double.nearest (decide (z < 0)) z.natAbs 0
theorem least_double : double.leastPlace = -1074 := by decide
theorem binade_double : double.binade = 4503599627370496 := rfl
theorem sign_double : double.signWeight = 9223372036854775808 := rfl
theorem inf_double : double.infRung = 9218868437227405312 := rfl
theorem log2_scale (n t : Nat) (h : n ≠ 0) : (n * 2 ^ t).log2 = n.log2 + t := by
  have h2 : n * 2 ^ t ≠ 0 := Nat.mul_ne_zero h (by simp)
  rw [Nat.log2_eq_iff h2]
  have h1 := Nat.log2_self_le h
  have h3 := (Nat.log2_lt h (k := n.log2 + 1)).1 (by omega)
  rw [Nat.pow_add]
  refine ⟨Nat.mul_le_mul_right _ h1, ?_⟩
  rw [show n.log2 + t + 1 = n.log2 + 1 + t by omega, Nat.pow_add]
  exact Nat.mul_lt_mul_of_pos_right h3 (Nat.two_pow_pos t)
theorem cut_exact (neg : Bool) (m d : Nat) (hm : m ≠ 0) : Toward.even.cut neg (m * 2 ^ d) d = m := by
  have hl := log2_scale m d hm
  have hp : 0 < 2 ^ d := Nat.two_pow_pos d
  have hg : 1 <<< min d ((m * 2 ^ d).log2 + 2) = 2 ^ d := by
    rw [hl, Nat.min_eq_left (by omega), Nat.one_shiftLeft]
  have h1 : m * 2 ^ d / 2 ^ d = m := Nat.mul_div_cancel _ hp
  have h2 : m * 2 ^ d % 2 ^ d = 0 := Nat.mul_mod_left _ _
  unfold Toward.cut
  simp only [hg, h1, h2]
  have h3 : decide (2 ^ d < 2 * 0) = false := decide_eq_false (by omega)
  have h4 : (2 ^ d == 2 * 0) = false := beq_eq_false_iff_ne.2 (by omega)
  rw [h3, h4]
  rfl
theorem nearest_exact (neg : Bool) (n t : Nat) (h0 : n ≠ 0) (h : n < 2 ^ 53) (ht : t ≤ 1074) :
    double.nearest neg (n * 2 ^ t) (-(t : Int)) = double.word neg ((n.log2 + 1022) * 2 ^ 52 + n * 2 ^ (52 - n.log2)) := by
  have hL : n.log2 ≤ 52 := by have := (Nat.log2_lt h0).2 h; omega
  have hm : n * 2 ^ t ≠ 0 := Nat.mul_ne_zero h0 (by simp)
  have hlast : max (-(t : Int) + ((n * 2 ^ t).log2 : Nat) - (double.fractionBits : Nat)) double.leastPlace = (n.log2 : Int) - 52 := by
    rw [log2_scale n t h0, least_double, show ((double.fractionBits : Nat) : Int) = 52 from rfl]
    omega
  unfold Format.nearest
  rw [if_neg hm]
  simp only [hlast]
  have hk : Toward.even.cut neg ((n * 2 ^ t) <<< (-(t : Int) - ((n.log2 : Int) - 52)).toNat) ((n.log2 : Int) - 52 - -(t : Int)).toNat = n * 2 ^ (52 - n.log2) := by
    rw [Nat.shiftLeft_eq]
    by_cases hc : t + n.log2 ≤ 52
    · rw [show ((n.log2 : Int) - 52 - -(t : Int)).toNat = 0 by omega, show (-(t : Int) - ((n.log2 : Int) - 52)).toNat = 52 - n.log2 - t by omega, Nat.mul_assoc, ← Nat.pow_add, show t + (52 - n.log2 - t) = 52 - n.log2 by omega]
      have := cut_exact neg (n * 2 ^ (52 - n.log2)) 0 (Nat.mul_ne_zero h0 (by simp))
      rw [Nat.pow_zero, Nat.mul_one] at this
      exact this
    · rw [show (-(t : Int) - ((n.log2 : Int) - 52)).toNat = 0 by omega, Nat.pow_zero, Nat.mul_one, show ((n.log2 : Int) - 52 - -(t : Int)).toNat = t + n.log2 - 52 by omega]
      have := cut_exact neg (n * 2 ^ (52 - n.log2)) (t + n.log2 - 52) (Nat.mul_ne_zero h0 (by simp))
      rw [Nat.mul_assoc, ← Nat.pow_add, show 52 - n.log2 + (t + n.log2 - 52) = t by omega] at this
      exact this
  rw [hk, least_double, show ((n.log2 : Int) - 52 - -1074).toNat = n.log2 + 1022 by omega, binade_double, inf_double]
  rw [show (2 : Nat) ^ 52 = 4503599627370496 from rfl]
  have hK : n * 2 ^ (52 - n.log2) < 2 ^ 53 := by
    have h3 := (Nat.log2_lt h0 (k := n.log2 + 1)).1 (by omega)
    have : n * 2 ^ (52 - n.log2) < 2 ^ (n.log2 + 1) * 2 ^ (52 - n.log2) := Nat.mul_lt_mul_of_pos_right h3 (Nat.two_pow_pos _)
    rw [← Nat.pow_add, show n.log2 + 1 + (52 - n.log2) = 53 by omega] at this
    exact this
  rw [show (2 : Nat) ^ 53 = 9007199254740992 from rfl] at hK
  rw [Nat.min_eq_left (by omega)]
theorem nearest_zero (neg : Bool) (p : Int) : double.nearest neg 0 p = double.word neg 0 := by unfold Format.nearest; rw [if_pos rfl]
theorem fltZ_eq (z : Int) (h0 : z ≠ 0) (h : z.natAbs < 2 ^ 53) : fltZ z = double.word (decide (z < 0)) ((z.natAbs.log2 + 1022) * 2 ^ 52 + z.natAbs * 2 ^ (52 - z.natAbs.log2)) := by
  have := nearest_exact (decide (z < 0)) z.natAbs 0 (by omega) h (by omega)
  rw [Nat.pow_zero, Nat.mul_one] at this
  exact this
theorem read_word (neg : Bool) (L K : Nat) (hL : L ≤ 52) (h0 : 4503599627370496 ≤ K) (h1 : K < 9007199254740992) : double.read (double.word neg ((L + 1022) * 4503599627370496 + K)) = .number neg K ((L : Int) - 52) := by
  have hR : (L + 1022) * 4503599627370496 + K < 9223372036854775808 := by omega
  have hdiv : ((L + 1022) * 4503599627370496 + K) / 4503599627370496 = L + 1023 := by omega
  have hmod : ((L + 1022) * 4503599627370496 + K) % 4503599627370496 = K - 4503599627370496 := by omega
  have hR0 : 4503599627370496 ≤ (L + 1022) * 4503599627370496 + K := by omega
  have hR1 : (L + 1022) * 4503599627370496 + K < 9218868437227405312 := by omega
  generalize (L + 1022) * 4503599627370496 + K = R at *
  have hsgn : (double.word neg R / 9223372036854775808 % 2 == 1) = neg := by
    cases neg
    · rw [show double.word false R = R from rfl, Nat.div_eq_of_lt hR]; rfl
    · rw [show double.word true R = 9223372036854775808 + R from rfl, show (9223372036854775808 + R) / 9223372036854775808 = 1 by omega]; rfl
  have hrun : double.word neg R % 9223372036854775808 = R := by
    cases neg
    · exact Nat.mod_eq_of_lt hR
    · rw [show double.word true R = 9223372036854775808 + R from rfl]; omega
  unfold Format.read
  simp only [sign_double, hsgn, hrun, binade_double, inf_double, least_double, hdiv, hmod]
  rw [if_neg (by omega), if_pos hR1]
  rw [show 4503599627370496 + (K - 4503599627370496) = K by omega, show (-1074 : Int) + ((L + 1023 - 1 : Nat) : Int) = (L : Int) - 52 by omega]
theorem read_zero : double.read 0 = .number false 0 (-1074) := by decide +kernel
/-- What the bits of a whole number stand for. -/
theorem read_fltZ (z : Int) (h : z.natAbs < 2 ^ 53) : ∃ c : Nat, c ≤ 1074 ∧ double.read (fltZ z) = .number (decide (z < 0)) (z.natAbs * 2 ^ c) (-(c : Int)) := by
  by_cases h0 : z = 0
  · subst h0
    obtain ⟨c, hc⟩ : ∃ c : Nat, c = 1074 := ⟨_, rfl⟩
    refine ⟨c, by omega, ?_⟩
    rw [show fltZ 0 = 0 from nearest_zero false 0, read_zero, show (0 : Int).natAbs = 0 from rfl, Nat.zero_mul, hc]
    rfl
  · have hn : z.natAbs ≠ 0 := by omega
    have hL : z.natAbs.log2 ≤ 52 := by have := (Nat.log2_lt hn).2 h; omega
    refine ⟨52 - z.natAbs.log2, by omega, ?_⟩
    rw [fltZ_eq z h0 h, show (2 : Nat) ^ 52 = 4503599627370496 from rfl, read_word _ _ _ hL]
    · congr 1; omega
    · rw [show 4503599627370496 = (2 : Nat) ^ 52 from rfl]
      have h1 := Nat.log2_self_le hn
      have : 2 ^ z.natAbs.log2 * 2 ^ (52 - z.natAbs.log2) ≤ z.natAbs * 2 ^ (52 - z.natAbs.log2) := Nat.mul_le_mul_right _ h1
      rw [← Nat.pow_add, show z.natAbs.log2 + (52 - z.natAbs.log2) = 52 by omega] at this
      exact this
    · rw [show 9007199254740992 = (2 : Nat) ^ 53 from rfl]
      have h3 := (Nat.log2_lt hn (k := z.natAbs.log2 + 1)).1 (by omega)
      have : z.natAbs * 2 ^ (52 - z.natAbs.log2) < 2 ^ (z.natAbs.log2 + 1) * 2 ^ (52 - z.natAbs.log2) := Nat.mul_lt_mul_of_pos_right h3 (Nat.two_pow_pos _)
      rw [← Nat.pow_add, show z.natAbs.log2 + 1 + (52 - z.natAbs.log2) = 53 by omega] at this
      exact this

theorem signed_eq (z : Int) (c u : Nat) : signed (decide (z < 0)) (z.natAbs * 2 ^ c) u = z * ((2 ^ (c + u) : Nat) : Int) := by
  unfold signed
  have e : (z.natAbs * 2 ^ c) <<< u = z.natAbs * 2 ^ (c + u) := by rw [Nat.shiftLeft_eq, Nat.mul_assoc, ← Nat.pow_add]
  rw [e]
  by_cases h : z < 0
  · rw [if_pos (decide_eq_true h), Int.natCast_mul, ← Int.neg_mul]
    congr 1; omega
  · rw [decide_eq_false h]
    show ((z.natAbs * 2 ^ (c + u) : Nat) : Int) = _
    rw [Int.natCast_mul]
    congr 1; omega
theorem pow_pos' (t : Nat) : (0 : Int) < ((2 ^ t : Nat) : Int) := by have := Nat.two_pow_pos t; omega
/-- Order of whole numbers. -/
theorem order_fltZ (a b : Int) (ha : a.natAbs < 2 ^ 53) (hb : b.natAbs < 2 ^ 53) : double.order (fltZ a) (fltZ b) = some (compare a b) := by
  obtain ⟨c, hc, e1⟩ := read_fltZ a ha
  obtain ⟨d, hd, e2⟩ := read_fltZ b hb
  unfold Format.order
  rw [e1, e2]
  unfold Datum.order
  simp only
  rw [signed_eq, signed_eq]
  have h1 : c + (-(c : Int) - min (-(c : Int)) (-(d : Int))).toNat = max c d := by omega
  have h2 : d + (-(d : Int) - min (-(c : Int)) (-(d : Int))).toNat = max c d := by omega
  rw [h1, h2]
  have hp := pow_pos' (max c d)
  generalize ((2 ^ max c d : Nat) : Int) = p at *
  congr 1
  rcases Int.lt_trichotomy a b with h | h | h
  · have := Int.mul_lt_mul_of_pos_right h hp
    rw [Int.compare_eq_lt.2 this, Int.compare_eq_lt.2 h]
  · subst h; rw [Int.compare_eq_eq.2 rfl, Int.compare_eq_eq.2 rfl]
  · have := Int.mul_lt_mul_of_pos_right h hp
    rw [Int.compare_eq_gt.2 this, Int.compare_eq_gt.2 h]
theorem write_int (z : Int) (t : Nat) (ht : t ≤ 1074) (h : z.natAbs < 2 ^ 53) (s : Bool) (hs : z ≠ 0 → s = decide (z < 0)) (h0 : z = 0 → s = false) : double.write (.number s (z * ((2 ^ t : Nat) : Int)).natAbs (-(t : Int))) = fltZ z := by
  by_cases hz : z = 0
  · rw [h0 hz, hz]
    rw [Int.zero_mul, show Int.natAbs 0 = 0 from rfl]
    exact (nearest_zero false _).trans (nearest_zero false 0).symm
  · rw [hs hz, Int.natAbs_mul, Int.natAbs_natCast]
    show double.nearest _ _ _ = _
    rw [nearest_exact _ _ _ (by omega) h ht, fltZ_eq z hz h]
/-- Sums of whole numbers. -/
theorem add_fltZ (a b : Int) (ha : a.natAbs < 2 ^ 53) (hb : b.natAbs < 2 ^ 53) (hab : (a + b).natAbs < 2 ^ 53) (h0 : 0 ≤ a) : double.add (fltZ a) (fltZ b) = some (fltZ (a + b)) := by
  obtain ⟨c, hc, e1⟩ := read_fltZ a ha
  obtain ⟨d, hd, e2⟩ := read_fltZ b hb
  unfold Format.add
  rw [e1, e2]
  unfold Datum.sum
  simp only
  rw [signed_eq, signed_eq]
  have h1 : c + (-(c : Int) - min (-(c : Int)) (-(d : Int))).toNat = max c d := by omega
  have h2 : d + (-(d : Int) - min (-(c : Int)) (-(d : Int))).toNat = max c d := by omega
  rw [h1, h2, ← Int.add_mul, show min (-(c : Int)) (-(d : Int)) = -((max c d : Nat) : Int) by omega, Option.map_some]
  have hp := pow_pos' (max c d)
  congr 1
  refine write_int (a + b) (max c d) (by omega) hab _ (fun hne => ?_) (fun he => ?_)
  · have h3 : (a + b) * ((2 ^ max c d : Nat) : Int) ≠ 0 := Int.mul_ne_zero hne (by omega)
    rw [if_neg h3]
    congr 1
    apply propext
    constructor
    · intro h
      exact Int.lt_of_not_ge fun h' => by have := Int.mul_nonneg h' (Int.le_of_lt hp); omega
    · intro h
      exact Int.mul_neg_of_neg_of_pos h hp
  · rw [he, Int.zero_mul, if_pos rfl, decide_eq_false (by omega)]
    rfl
/-- Differences of whole numbers, the first one not less. -/
theorem sub_fltZ (a b : Int) (ha : a.natAbs < 2 ^ 53) (hb : b.natAbs < 2 ^ 53) (hba : b ≤ a) (h0 : 0 ≤ a) (hb0 : 0 ≤ b) : double.sub (fltZ a) (fltZ b) = some (fltZ (a - b)) := by
  obtain ⟨c, hc, e1⟩ := read_fltZ a ha
  obtain ⟨d, hd, e2⟩ := read_fltZ b hb
  unfold Format.sub
  rw [e1, e2]
  unfold Datum.opposite Datum.sum
  simp only
  have hs : signed (!decide (b < 0)) (b.natAbs * 2 ^ d) (-(d : Int) - min (-(c : Int)) (-(d : Int))).toNat = -(b * ((2 ^ max c d : Nat) : Int)) := by
    have h2 : d + (-(d : Int) - min (-(c : Int)) (-(d : Int))).toNat = max c d := by omega
    rw [decide_eq_false (show ¬ b < 0 by omega)]
    unfold signed
    rw [Nat.shiftLeft_eq, Nat.mul_assoc, ← Nat.pow_add, h2]
    show -(((b.natAbs * 2 ^ max c d : Nat)) : Int) = _
    rw [Int.natCast_mul]
    congr 2; omega
  have h1 : c + (-(c : Int) - min (-(c : Int)) (-(d : Int))).toNat = max c d := by omega
  rw [hs, signed_eq, h1, show a * ((2 ^ max c d : Nat) : Int) + -(b * ((2 ^ max c d : Nat) : Int)) = (a - b) * ((2 ^ max c d : Nat) : Int) by rw [Int.sub_mul]; omega, show min (-(c : Int)) (-(d : Int)) = -((max c d : Nat) : Int) by omega, Option.map_some]
  have hp := pow_pos' (max c d)
  congr 1
  refine write_int (a - b) (max c d) (by omega) (by omega) _ (fun hne => ?_) (fun he => ?_)
  · have h3 : (a - b) * ((2 ^ max c d : Nat) : Int) ≠ 0 := Int.mul_ne_zero hne (by omega)
    rw [if_neg h3, decide_eq_false (show ¬ a - b < 0 by omega), decide_eq_false]
    have := Int.mul_nonneg (show 0 ≤ a - b by omega) (Int.le_of_lt hp)
    omega
  · rw [he, Int.zero_mul, if_pos rfl, decide_eq_false (by omega)]
    rfl
/-- A whole number's bits as a whole number. -/
theorem toInt_fltZ (z : Int) (h : z.natAbs < 2 ^ 53) : (double.read (fltZ z)).toInt .zero = some z := by
  obtain ⟨c, hc, e1⟩ := read_fltZ z h
  rw [e1]
  unfold Datum.toInt Datum.integral
  simp only
  have hcut : Toward.zero.cut (decide (z < 0)) ((z.natAbs * 2 ^ c) <<< (-(c : Int)).toNat) (- -(c : Int)).toNat = z.natAbs := by
    rw [show (-(c : Int)).toNat = 0 by omega, Nat.shiftLeft_zero, show (- -(c : Int)).toNat = c by omega]
    unfold Toward.cut
    simp only
    by_cases hz : z.natAbs = 0
    · rw [hz]; simp
    · rw [log2_scale _ _ hz, Nat.min_eq_left (by omega), Nat.one_shiftLeft, Nat.mul_div_cancel _ (Nat.two_pow_pos c)]
      rfl
  rw [hcut]
  have := signed_eq z 0 0
  rw [Nat.pow_zero, Nat.mul_one] at this
  rw [this]
  simp
end Bw
