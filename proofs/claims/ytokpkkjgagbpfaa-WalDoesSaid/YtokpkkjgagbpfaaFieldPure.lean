/- Plain functions on bytes: what the packages field and budwoodref01 compute; no program in sight. -/
namespace Bw

/-- The number of bytes, the lowest one first. -/
def le : List UInt8 → Nat
  | [] => 0
  | b :: r => b.toNat + 256 * le r

/-- A number in so many bytes, the lowest one first. -/
def toLE (n : Nat) : Nat → List UInt8
  | 0 => []
  | k + 1 => UInt8.ofNat n :: toLE (n / 256) k

def lst (s : ByteArray) : List UInt8 := s.data.toList
def str (l : List UInt8) : ByteArray := ⟨l.toArray⟩

def placeE (s : ByteArray) (at' : Int) : Int := if at' < 0 ∨ (s.size : Int) < at' then 1 else 0

def roomE (s : ByteArray) (at' size : Int) : Int :=
  if size < 1 ∨ 8 < size ∨ at' < 0 ∨ (s.size : Int) < at' then 1 else if (s.size : Int) - at' < size then 3 else 0

def getV (s : ByteArray) (at' size : Int) : Int :=
  if roomE s at' size = 0 then (le (((lst s).drop at'.toNat).take size.toNat) : Nat) else 0

def putE (s : ByteArray) (at' size n : Int) : Int :=
  if roomE s at' size = 0 then (if 256 ^ size.toNat ≤ n.toNat then 2 else 0) else roomE s at' size

def putS (s : ByteArray) (at' size n : Int) : ByteArray :=
  if putE s at' size n = 0 then str ((lst s).take at'.toNat ++ toLE n.toNat size.toNat ++ (lst s).drop (at'.toNat + size.toNat)) else ByteArray.empty

def textE (s : ByteArray) (i : Int) : Int :=
  if i < 0 ∨ (s.size : Int) < i then 1 else if (s.size : Int) ≤ i ∨ (s.size : Int) - i - 1 < (((lst s).getD i.toNat 0).toNat : Int) then 3 else 0
def textTo (s : ByteArray) (i : Int) : Int := if textE s i = 0 then i + 1 + (((lst s).getD i.toNat 0).toNat : Int) else 0
def textS (s : ByteArray) (i : Int) : ByteArray :=
  if textE s i = 0 then str (((lst s).drop (i.toNat + 1)).take ((lst s).getD i.toNat 0).toNat) else ByteArray.empty

def ptE (s : ByteArray) (i : Int) (t : ByteArray) : Int :=
  if i < 0 ∨ (s.size : Int) < i then 1 else if 255 < t.size then 2 else if (s.size : Int) - i < t.size + 1 then 3 else 0
def ptTo (s : ByteArray) (i : Int) (t : ByteArray) : Int := if ptE s i t = 0 then i + t.size + 1 else 0
def ptS (s : ByteArray) (i : Int) (t : ByteArray) : ByteArray :=
  if ptE s i t = 0 then str ((lst s).take i.toNat ++ UInt8.ofNat t.size :: lst t ++ (lst s).drop (i.toNat + t.size + 1)) else ByteArray.empty

def padE (s : ByteArray) (n : Int) : Int := if n < 0 ∨ 65536 < n then 1 else if n < s.size then 2 else 0
def padS (s : ByteArray) (n : Int) : ByteArray := if padE s n = 0 then str (lst s ++ List.replicate (n.toNat - s.size) 0) else ByteArray.empty

/-- Without bytes 0 at the end. -/
def bareL (l : List UInt8) : List UInt8 := (l.reverse.dropWhile (· == 0)).reverse
def bareS (s : ByteArray) : ByteArray := str (bareL (lst s))

theorem le_append (a b : List UInt8) : le (a ++ b) = le a + 256 ^ a.length * le b := by
  induction a with
  | nil => simp [le]
  | cons x a ih => simp only [List.cons_append, le, ih, List.length_cons, Nat.pow_succ]; rw [Nat.mul_add, Nat.mul_comm (256 ^ a.length) 256, Nat.mul_assoc]; omega

theorem le_lt (l : List UInt8) : le l < 256 ^ l.length := by
  induction l with
  | nil => simp [le]
  | cons x l ih => simp only [le, List.length_cons, Nat.pow_succ]; have := x.toNat_lt; omega

theorem toLE_length (n k : Nat) : (toLE n k).length = k := by
  induction k generalizing n with
  | zero => rfl
  | succ k ih => simp [toLE, ih]

theorem le_toLE (n k : Nat) : le (toLE n k) = n % 256 ^ k := by
  induction k generalizing n with
  | zero => simp [toLE, le, Nat.mod_one]
  | succ k ih =>
    have e : (UInt8.ofNat n).toNat = n % 256 := UInt8.toNat_ofNat'
    rw [toLE, le, ih, e, Nat.pow_succ, Nat.mul_comm (256 ^ k) 256, Nat.mod_mul]

theorem toLE_le (l : List UInt8) : toLE (le l) l.length = l := by
  induction l with
  | nil => rfl
  | cons x l ih =>
    have h : (x.toNat + 256 * le l) / 256 = le l := by have := x.toNat_lt; omega
    have h2 : UInt8.ofNat (x.toNat + 256 * le l) = x := by
      apply UInt8.toNat_inj.1; have := x.toNat_lt; have e : (UInt8.ofNat (x.toNat + 256 * le l)).toNat = (x.toNat + 256 * le l) % 256 := UInt8.toNat_ofNat'; omega
    simp only [le, List.length_cons, toLE, h, ih, h2]

theorem toLE_mod (n k : Nat) : toLE (n % 256 ^ k) k = toLE n k := by
  induction k generalizing n with
  | zero => rfl
  | succ k ih =>
    have h1 : UInt8.ofNat (n % 256 ^ (k + 1)) = UInt8.ofNat n := by
      apply UInt8.toNat_inj.1
      have e : ∀ m, (UInt8.ofNat m).toNat = m % 256 := fun m => UInt8.toNat_ofNat'
      rw [e, e, Nat.pow_succ, Nat.mul_comm, Nat.mod_mul_right_mod]
    have h2 : n % 256 ^ (k + 1) / 256 = (n / 256) % 256 ^ k := by
      rw [Nat.pow_succ, Nat.mul_comm, Nat.mod_mul_right_div_self]
    simp only [toLE, h1, h2, ih]

/-- One byte more of a number. -/
theorem toLE_snoc (n k : Nat) : toLE n (k + 1) = toLE n k ++ [UInt8.ofNat (n / 256 ^ k)] := by
  induction k generalizing n with
  | zero => simp [toLE]
  | succ k ih =>
    have : n / 256 / 256 ^ k = n / 256 ^ (k + 1) := by rw [Nat.div_div_eq_div_mul, Nat.pow_succ, Nat.mul_comm]
    rw [toLE, ih, this]; rfl

theorem or_shift (x b j : Nat) (h : x < 2 ^ j) : x ||| b * 2 ^ j = x + 2 ^ j * b := by
  have := Nat.shiftLeft_add_eq_or_of_lt h b
  rw [Nat.shiftLeft_eq] at this
  rw [Nat.or_comm, ← this, Nat.mul_comm, Nat.add_comm]

theorem pow8 (j : Nat) : 2 ^ (8 * j) = 256 ^ j := by rw [Nat.pow_mul]

theorem lst_length (s : ByteArray) : (lst s).length = s.size := Array.length_toList
theorem lst_str (l : List UInt8) : lst (str l) = l := by simp [lst, str]
theorem str_lst (s : ByteArray) : str (lst s) = s := by simp [lst, str]
theorem lst_append (s t : ByteArray) : lst (s ++ t) = lst s ++ lst t := by simp [lst]
theorem str_append (a b : List UInt8) : str a ++ str b = str (a ++ b) := by rw [← str_lst (str a ++ str b), lst_append, lst_str, lst_str]
theorem size_str (l : List UInt8) : (str l).size = l.length := rfl
theorem lst_inj {s t : ByteArray} (h : lst s = lst t) : s = t := by rw [← str_lst s, h, str_lst]
theorem lst_getElem (s : ByteArray) (i : Nat) (h : i < s.size) : s[i] = (lst s)[i]'(by rw [lst_length]; exact h) := by
  simp [lst, ByteArray.getElem_eq_getElem_data]

end Bw
