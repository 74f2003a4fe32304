/- The sum of bytes, in plain Lean: one step, four and eight of them, bytes; it is linear, and one to one. No program in sight. -/
import Derived.Test.YtokpkkjgagbpfaaFieldFacts
namespace Bw

def crc1 (n : Nat) : Nat := if n % 2 = 1 then (n / 2) ^^^ 2197175160 else n / 2
def crcK : Nat → Nat → Nat
  | 0, n => n
  | k + 1, n => crc1 (crcK k n)
def crcB (n : Nat) (c : UInt8) : Nat := crcK 8 (n ^^^ c.toNat)
def crcL (n : Nat) (l : List UInt8) : Nat := l.foldl crcB n
def crcOf (s : ByteArray) : Nat := 4294967295 - crcL 4294967295 (lst s)

theorem crc1_lt {n : Nat} (h : n < 4294967296) : crc1 n < 4294967296 := by
  unfold crc1
  split
  · exact Nat.xor_lt_two_pow (n := 32) (by omega) (by omega)
  · omega

theorem crcK_lt {n : Nat} (h : n < 4294967296) : ∀ k, crcK k n < 4294967296
  | 0 => h
  | k + 1 => crc1_lt (crcK_lt h k)

theorem crcK_add (n j : Nat) : ∀ k, crcK (k + j) n = crcK k (crcK j n)
  | 0 => by rw [Nat.zero_add]; rfl
  | k + 1 => by rw [show k + 1 + j = (k + j) + 1 by omega, crcK, crcK_add n j k, crcK]

theorem xor_div_two (a b : Nat) : (a ^^^ b) / 2 = a / 2 ^^^ b / 2 := by
  have := Nat.shiftRight_xor_distrib (a := a) (b := b) (i := 1)
  simpa [Nat.shiftRight_eq_div_pow] using this

theorem xor_mod_two (a b : Nat) : (a ^^^ b) % 2 = (a + b) % 2 := by
  have h := Nat.testBit_xor a b 0
  simp only [Nat.testBit_zero] at h
  have ha : a % 2 = 0 ∨ a % 2 = 1 := by omega
  have hb : b % 2 = 0 ∨ b % 2 = 1 := by omega
  have hx : (a ^^^ b) % 2 = 0 ∨ (a ^^^ b) % 2 = 1 := by omega
  rcases ha with ha | ha <;> rcases hb with hb | hb <;> rcases hx with hx | hx <;> rw [ha, hb, hx] at h <;> simp at h <;> omega

theorem crc1_xor (a b : Nat) : crc1 (a ^^^ b) = crc1 a ^^^ crc1 b := by
  unfold crc1
  have h := xor_mod_two a b
  rw [xor_div_two]
  by_cases ha : a % 2 = 1 <;> by_cases hb : b % 2 = 1
  · rw [if_neg (by omega), if_pos ha, if_pos hb]
    rw [Nat.xor_assoc, Nat.xor_comm 2197175160, Nat.xor_assoc, Nat.xor_self, Nat.xor_zero]
  · rw [if_pos (by omega), if_pos ha, if_neg hb]
    rw [Nat.xor_assoc, Nat.xor_assoc, Nat.xor_comm (b / 2)]
  · rw [if_pos (by omega), if_neg ha, if_pos hb, Nat.xor_assoc]
  · rw [if_neg (by omega), if_neg ha, if_neg hb]

theorem crcK_xor (a b : Nat) : ∀ k, crcK k (a ^^^ b) = crcK k a ^^^ crcK k b
  | 0 => rfl
  | k + 1 => by rw [crcK, crcK_xor a b k, crc1_xor]; rfl

theorem crcK_shift (m : Nat) : ∀ k, crcK k (2 ^ k * m) = m
  | 0 => by simp [crcK]
  | k + 1 => by
    have h := crcK_add (2 ^ (k + 1) * m) 1 k
    rw [h]
    have e : crcK 1 (2 ^ (k + 1) * m) = 2 ^ k * m := by
      show crc1 (2 ^ (k + 1) * m) = _
      unfold crc1
      have e2 : 2 ^ (k + 1) * m = 2 * (2 ^ k * m) := by rw [Nat.pow_succ, Nat.mul_comm (2 ^ k) 2, Nat.mul_assoc]
      rw [e2, if_neg (by omega)]; omega
    rw [e, crcK_shift m k]

theorem xor_low (a b : Nat) (h : b < 16) : (16 * a) ^^^ b = 16 * a + b := by
  apply Nat.eq_of_testBit_eq
  intro j
  have e1 := Nat.testBit_two_pow_mul_add a (b := b) (i := 4) h j
  have e2 : (16 * a).testBit j = (decide (4 ≤ j) && a.testBit (j - 4)) := Nat.testBit_two_pow_mul (i := 4) ..
  rw [Nat.testBit_xor, e2]
  rw [show (2 : Nat) ^ 4 * a + b = 16 * a + b from rfl] at e1
  rw [e1]
  by_cases hj : j < 4
  · simp [hj, show ¬ 4 ≤ j by omega]
  · have : b.testBit j = false := Nat.testBit_lt_two_pow (Nat.lt_of_lt_of_le h (Nat.pow_le_pow_right (n := 2) (by omega) (show 4 ≤ j by omega)))
    simp [hj, this, show 4 ≤ j by omega]

/-- Half a byte at once, by the table. -/
theorem crc_half (n : Nat) : n / 16 ^^^ crcK 4 (n % 16) = crcK 4 n := by
  have h : n = 16 * (n / 16) ^^^ n % 16 := by rw [xor_low _ _ (by omega)]; omega
  conv => rhs; rw [h]
  rw [crcK_xor, show (16 : Nat) * (n / 16) = 2 ^ 4 * (n / 16) from rfl, crcK_shift]

theorem crcB_lt {n : Nat} (h : n < 4294967296) (c : UInt8) : crcB n c < 4294967296 :=
  crcK_lt (Nat.xor_lt_two_pow (n := 32) (by omega) (by have := c.toNat_lt; omega)) 8

theorem crcL_lt : ∀ (l : List UInt8) {n : Nat}, n < 4294967296 → crcL n l < 4294967296
  | [], _, h => h
  | c :: l, _, h => crcL_lt l (crcB_lt h c)

theorem crcL_append (n : Nat) (a b : List UInt8) : crcL n (a ++ b) = crcL (crcL n a) b := List.foldl_append

theorem crcL_snoc (n : Nat) (a : List UInt8) (c : UInt8) : crcL n (a ++ [c]) = crcB (crcL n a) c := by rw [crcL_append]; rfl

theorem crcOf_lt (s : ByteArray) : crcOf s < 4294967296 := by unfold crcOf; omega

theorem crc1_inj {a b : Nat} (ha : a < 4294967296) (hb : b < 4294967296) (h : crc1 a = crc1 b) : a = b := by
  have key : ∀ n, n < 4294967296 → (crc1 n).testBit 31 = decide (n % 2 = 1) := by
    intro n hn
    have h2 : (n / 2).testBit 31 = false := Nat.testBit_lt_two_pow (by omega)
    unfold crc1
    split
    · rename_i h1
      rw [Nat.testBit_xor, h2, show (2197175160 : Nat).testBit 31 = true by decide +kernel]; simp [h1]
    · rename_i h1
      rw [h2]; simp [h1]
  have h31 := (key a ha).symm.trans ((congrArg (fun x => Nat.testBit x 31) h).trans (key b hb))
  have hp : a % 2 = b % 2 := by
    have : (a % 2 = 1) ↔ (b % 2 = 1) := by simpa using h31
    omega
  have hd : a / 2 = b / 2 := by
    unfold crc1 at h
    by_cases h1 : a % 2 = 1
    · rw [if_pos h1, if_pos (by omega)] at h
      have := congrArg (fun x => x ^^^ 2197175160) h
      simpa [Nat.xor_assoc] using this
    · rw [if_neg h1, if_neg (by omega)] at h; exact h
  omega

theorem crcK_inj {a b : Nat} (ha : a < 4294967296) (hb : b < 4294967296) : ∀ k, crcK k a = crcK k b → a = b
  | 0, h => h
  | k + 1, h => crcK_inj ha hb k (crc1_inj (crcK_lt ha k) (crcK_lt hb k) h)

theorem xor_lt32 {n : Nat} (h : n < 4294967296) (c : UInt8) : n ^^^ c.toNat < 4294967296 := Nat.xor_lt_two_pow (n := 32) (by omega) (by have := c.toNat_lt; omega)

theorem crcB_inj {a b : Nat} (ha : a < 4294967296) (hb : b < 4294967296) (c : UInt8) (h : crcB a c = crcB b c) : a = b := by
  have := crcK_inj (xor_lt32 ha c) (xor_lt32 hb c) 8 h
  have := congrArg (fun x => x ^^^ c.toNat) this
  simpa [Nat.xor_assoc] using this

theorem crcB_inj2 {a : Nat} (ha : a < 4294967296) (c d : UInt8) (h : crcB a c = crcB a d) : c = d := by
  have := crcK_inj (xor_lt32 ha c) (xor_lt32 ha d) 8 h
  have := congrArg (fun x => a ^^^ x) this
  apply UInt8.toNat_inj.1
  simpa [← Nat.xor_assoc] using this

theorem crcL_inj : ∀ (l : List UInt8) {a b : Nat}, a < 4294967296 → b < 4294967296 → crcL a l = crcL b l → a = b
  | [], _, _, _, _, h => h
  | c :: l, _, _, ha, hb, h => crcB_inj ha hb c (crcL_inj l (crcB_lt ha c) (crcB_lt hb c) h)

/-- Bytes of which one is another one have another sum. -/
theorem crcL_one (n : Nat) (hn : n < 4294967296) (a c : List UInt8) (x y : UInt8) (h : crcL n (a ++ x :: c) = crcL n (a ++ y :: c)) : x = y := by
  rw [crcL_append, crcL_append] at h
  have hl := crcL_lt a hn
  exact crcB_inj2 hl x y (crcL_inj c (crcB_lt hl x) (crcB_lt hl y) h)

theorem crcOf_one (s t : ByteArray) (a c : List UInt8) (x y : UInt8) (hs : lst s = a ++ x :: c) (ht : lst t = a ++ y :: c) (h : crcOf s = crcOf t) : x = y := by
  unfold crcOf at h
  have h1 := crcL_lt (lst s) (show 4294967295 < 4294967296 by omega)
  have h2 := crcL_lt (lst t) (show 4294967295 < 4294967296 by omega)
  have : crcL 4294967295 (lst s) = crcL 4294967295 (lst t) := by omega
  rw [hs, ht] at this
  exact crcL_one _ (by omega) a c x y this
end Bw
