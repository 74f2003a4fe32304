/- Leaves as pages, whole or torn; whole records of bytes. No program in sight. -/
import Derived.Test.YtokpkkjgagbpfaaWlPure
import Derived.Test.YtokpkkjgagbpfaaDsPure2
namespace Bw
set_option linter.unusedVariables false
theorem drop_app {α : Type} {a b : List α} {n : Nat} (m : Nat) (h : a.length = n) : (a ++ b).drop (n + m) = b.drop m := by
  subst h; simp
theorem take_app {α : Type} {a b : List α} {n : Nat} (h : a.length = n) : (a ++ b).take n = a := by
  subst h; simp
theorem leafS_size {age num : Nat} {b : Bool} {s : ByteArray} (h : s.size ≤ 234) : (leafS age num b s).size = 252 := by
  rw [leafS, size_str, leafL_len _ _ _ _ (by rw [lst_length]; exact h)]
theorem leaf_parts (age num : Nat) (b : Bool) (s : List UInt8) (h : s.length ≤ 234) :
    ((leafL age num b s).drop 0).take 6 = toLE age 6 ∧ ((leafL age num b s).drop 6).take 2 = toLE num 2 ∧ ((leafL age num b s).drop 8).take 1 = (if b then [1] else [0]) ∧ ((leafL age num b s).drop 9).take 1 = [UInt8.ofNat s.length] ∧
    ((leafL age num b s).drop 10).take s.length = s ∧ ((leafL age num b s).drop 244).take 6 = toLE age 6 ∧ ((leafL age num b s).drop 250).take 2 = toLE num 2 := by
  have h6 : (toLE age 6).length = 6 := toLE_length _ _
  have h2 : (toLE num 2).length = 2 := toLE_length _ _
  have hb : (if b then [1] else [0] : List UInt8).length = 1 := by cases b <;> rfl
  have hz : (zeros (234 - s.length)).length = 234 - s.length := by simp [zeros]
  have d6 : (leafL age num b s).drop 6 = toLE num 2 ++ ((if b then [1] else [0]) ++ (UInt8.ofNat s.length :: (s ++ (zeros (234 - s.length) ++ (toLE age 6 ++ toLE num 2))))) := drop_app 0 h6
  have d8 : (leafL age num b s).drop 8 = (if b then [1] else [0]) ++ (UInt8.ofNat s.length :: (s ++ (zeros (234 - s.length) ++ (toLE age 6 ++ toLE num 2)))) := by
    rw [show 8 = 6 + 2 from rfl, ← List.drop_drop, d6]; exact drop_app 0 h2
  have d9 : (leafL age num b s).drop 9 = UInt8.ofNat s.length :: (s ++ (zeros (234 - s.length) ++ (toLE age 6 ++ toLE num 2))) := by
    rw [show 9 = 8 + 1 from rfl, ← List.drop_drop, d8]; exact drop_app 0 hb
  have d10 : (leafL age num b s).drop 10 = s ++ (zeros (234 - s.length) ++ (toLE age 6 ++ toLE num 2)) := by
    rw [show 10 = 9 + 1 from rfl, ← List.drop_drop, d9]; rfl
  have d244 : (leafL age num b s).drop 244 = toLE age 6 ++ toLE num 2 := by
    rw [show 244 = 10 + (s.length + (234 - s.length)) by omega, ← List.drop_drop, d10, drop_app _ rfl]; exact drop_app 0 hz
  have d250 : (leafL age num b s).drop 250 = toLE num 2 := by
    rw [show 250 = 244 + 6 from rfl, ← List.drop_drop, d244]; exact drop_app 0 h6
  refine ⟨take_app h6, ?_, ?_, ?_, ?_, ?_, ?_⟩
  · rw [d6]; exact take_app h2
  · rw [d8]; exact take_app hb
  · rw [d9]; rfl
  · rw [d10]; exact take_app rfl
  · rw [d244]; exact take_app h6
  · rw [d250]; exact List.take_of_length_le (by omega)
theorem le_one (c : UInt8) : le [c] = c.toNat := by simp [le]
/-- What stands where. -/
theorem leaf_gets {age num : Nat} {b : Bool} {s : ByteArray} (ha : age < 281474976710656) (hn : num < 65536) (h : s.size ≤ 234) :
    getV (leafS age num b s) 0 6 = age ∧ getV (leafS age num b s) 6 2 = num ∧ getV (leafS age num b s) 8 1 = (if b then 1 else 0) ∧ getV (leafS age num b s) 9 1 = s.size ∧ getV (leafS age num b s) 244 6 = age ∧ getV (leafS age num b s) 250 2 = num ∧
    (leafS age num b s).extract 10 (10 + s.size) = s := by
  have hz := leafS_size (age := age) (num := num) (b := b) h
  obtain ⟨p1, p2, p3, p4, p5, p6, p7⟩ := leaf_parts age num b (lst s) (by rw [lst_length]; exact h)
  have g : ∀ (i k : Nat), 1 ≤ k → k ≤ 8 → i + k ≤ 252 → getV (leafS age num b s) (i : Int) (k : Int) = (le (((leafL age num b (lst s)).drop i).take k) : Nat) := fun i k h1 h2 h3 => by
    rw [getV_eq h1 h2 (by omega), leafS, lst_str]
  have hage : age % 256 ^ 6 = age := Nat.mod_eq_of_lt (by omega)
  have hnum : num % 256 ^ 2 = num := Nat.mod_eq_of_lt (by omega)
  refine ⟨?_, ?_, ?_, ?_, ?_, ?_, ?_⟩
  · have := g 0 6 (by omega) (by omega) (by omega)
    rw [p1, le_toLE, hage] at this; exact this
  · have := g 6 2 (by omega) (by omega) (by omega)
    rw [p2, le_toLE, hnum] at this; exact this
  · have := g 8 1 (by omega) (by omega) (by omega)
    rw [p3] at this
    cases b
    · exact this
    · exact this
  · have := g 9 1 (by omega) (by omega) (by omega)
    rw [p4, le_one, lst_length, UInt8.toNat_ofNat', Nat.mod_eq_of_lt (by omega)] at this; exact this
  · have := g 244 6 (by omega) (by omega) (by omega)
    rw [p6, le_toLE, hage] at this; exact this
  · have := g 250 2 (by omega) (by omega) (by omega)
    rw [p7, le_toLE, hnum] at this; exact this
  · apply lst_inj
    rw [extract_lst, leafS, lst_str]
    have e : 10 + s.size - 10 = (lst s).length := by rw [lst_length]; omega
    rw [e, p5]
theorem leafOf_leaf {age num : Nat} {b : Bool} {s : ByteArray} (h0 : 0 < age) (ha : age < 281474976710656) (hn : num < 65536) (h : s.size ≤ 234) : leafOf (leafS age num b s) num = some ⟨age, b, s⟩ := by
  obtain ⟨g1, g2, g3, g4, g5, g6, g7⟩ := leaf_gets (b := b) ha hn h
  unfold leafOf
  rw [g1, g2, g3, g4, g5, g6]
  have e : ((s.size : Nat) : Int).toNat = s.size := by omega
  rw [e, g7, if_pos ⟨rfl, rfl, by omega, rfl, by cases b <;> simp, by omega⟩]
  cases b <;> rfl
/-- The leaf that a page with its sum is. -/
def leafR (p : ByteArray) (i : Nat) : Option LeafW := if openE p = 0 then leafOf (openS p) i else none
theorem leafW_raw (d : DiskD) (half : Int) (i : Nat) (h : d.hasB (half * (d.halfN : Int) + i) = true) : d.leafW half i = leafR (d.rawD (half * (d.halfN : Int) + i)) i := by
  unfold DiskD.leafW leafR DiskD.readE DiskD.readS
  rw [if_pos h, if_pos h]
theorem leafR_seal {age num : Nat} {b : Bool} {s : ByteArray} (h0 : 0 < age) (ha : age < 281474976710656) (hn : num < 65536) (h : s.size ≤ 234) : leafR (sealS (leafS age num b s)) num = some ⟨age, b, s⟩ := by
  have hz := leafS_size (age := age) (num := num) (b := b) h
  obtain ⟨e1, e2⟩ := open_seal (s := leafS age num b s) (by omega)
  rw [leafR, if_pos e1, e2, wholeS_full hz, leafOf_leaf h0 ha hn h]
/-- The ages at both ends of a page as it stands. -/
def frontA (p : ByteArray) : Int := getV p 0 6
def backA (p : ByteArray) : Int := getV p 244 6
theorem get_ext {p : ByteArray} (hp : p.size = 256) (i k : Nat) (h1 : 1 ≤ k) (h2 : k ≤ 8) (h3 : i + k ≤ 252) : getV (p.extract 0 252) i k = getV p i k := by
  have hz : (p.extract 0 252).size = 252 := by rw [ByteArray.size_extract]; omega
  rw [getV_eq h1 h2 (by omega), getV_eq h1 h2 (by omega), extract_lst]
  congr 2
  rw [List.drop_zero, List.drop_take, List.take_take]
  congr 1
  omega
theorem leafR_ends {p : ByteArray} {i : Nat} {l : LeafW} (hp : p.size = 256) (h : leafR p i = some l) : frontA p = l.age ∧ backA p = l.age ∧ l.age ≠ 0 := by
  unfold leafR at h
  by_cases ho : openE p = 0
  · rw [if_pos ho, openS, if_pos ho] at h
    have e1 : getV (p.extract 0 252) 0 6 = getV p 0 6 := get_ext hp 0 6 (by omega) (by omega) (by omega)
    have e2 : getV (p.extract 0 252) 244 6 = getV p 244 6 := get_ext hp 244 6 (by omega) (by omega) (by omega)
    generalize p.extract 0 252 = x at *
    unfold leafOf at h
    by_cases hc : getV x 0 6 = getV x 244 6 ∧ getV x 6 2 = getV x 250 2 ∧ getV x 0 6 ≠ 0 ∧ getV x 6 2 = i ∧ getV x 8 1 ≤ 1 ∧ getV x 9 1 ≤ 234
    · rw [if_pos hc] at h
      injection h with h
      obtain ⟨c1, -, c3, -⟩ := hc
      subst h
      refine ⟨e1.symm, ?_, c3⟩
      show getV p 244 6 = getV x 0 6
      rw [← e2, c1]
    · rw [if_neg hc] at h; cases h
  · rw [if_neg ho] at h; cases h
theorem leafR_num {p : ByteArray} {i : Nat} {l : LeafW} (h : leafR p i = some l) : l.bytes.size ≤ 234 := by
  unfold leafR at h
  by_cases ho : openE p = 0
  · rw [if_pos ho] at h
    generalize openS p = x at *
    unfold leafOf at h
    by_cases hc : getV x 0 6 = getV x 244 6 ∧ getV x 6 2 = getV x 250 2 ∧ getV x 0 6 ≠ 0 ∧ getV x 6 2 = i ∧ getV x 8 1 ≤ 1 ∧ getV x 9 1 ≤ 234
    · rw [if_pos hc] at h
      injection h with h
      obtain ⟨-, -, -, -, -, c6⟩ := hc
      subst h
      show (x.extract 10 (10 + (getV x 9 1).toNat)).size ≤ 234
      rw [ByteArray.size_extract]; omega
    · rw [if_neg hc] at h; cases h
  · rw [if_neg ho] at h; cases h
theorem torn_lst {a b : ByteArray} (ha : a.size = 256) (hb : b.size = 256) : lst (tornS a b) = (lst a).take 128 ++ (lst b).drop 128 := by
  have e1 : min 128 256 = 128 := rfl
  rw [tornS, lst_append, extract_lst, extract_lst, ha, hb, e1, List.drop_zero]
  congr 1
  rw [List.take_of_length_le]
  rw [List.length_drop, lst_length, hb]; omega
theorem torn_ends {a b : ByteArray} (ha : a.size = 256) (hb : b.size = 256) : frontA (tornS a b) = frontA a ∧ backA (tornS a b) = backA b := by
  have hz : (tornS a b).size = 256 := tornS_size ha hb
  have hl := torn_lst ha hb
  have h1 : ((lst a).take 128).length = 128 := by rw [List.length_take, lst_length, ha]; omega
  constructor
  · have e1 := getV_eq (s := tornS a b) (i := 0) (k := 6) (by omega) (by omega) (by omega)
    have e2 := getV_eq (s := a) (i := 0) (k := 6) (by omega) (by omega) (by omega)
    have e3 : ((lst (tornS a b)).drop 0).take 6 = ((lst a).drop 0).take 6 := by
      rw [hl, List.drop_zero, List.drop_zero, List.take_append_of_le_length (by omega), List.take_take]
      rfl
    show getV (tornS a b) ((0 : Nat) : Int) ((6 : Nat) : Int) = getV a ((0 : Nat) : Int) ((6 : Nat) : Int)
    rw [e1, e2, e3]
  · have e1 := getV_eq (s := tornS a b) (i := 244) (k := 6) (by omega) (by omega) (by omega)
    have e2 := getV_eq (s := b) (i := 244) (k := 6) (by omega) (by omega) (by omega)
    have e3 : ((lst (tornS a b)).drop 244).take 6 = ((lst b).drop 244).take 6 := by
      rw [hl, show 244 = 128 + 116 from rfl, drop_app _ h1, List.drop_drop]
    show getV (tornS a b) ((244 : Nat) : Int) ((6 : Nat) : Int) = getV b ((244 : Nat) : Int) ((6 : Nat) : Int)
    rw [e1, e2, e3]
theorem seal_ends {age num : Nat} {b : Bool} {s : ByteArray} (ha : age < 281474976710656) (hn : num < 65536) (h : s.size ≤ 234) : frontA (sealS (leafS age num b s)) = age ∧ backA (sealS (leafS age num b s)) = age := by
  have hz := leafS_size (age := age) (num := num) (b := b) h
  obtain ⟨g1, -, -, -, g5, -⟩ := leaf_gets (b := b) ha hn h
  have hs := sealS_size (s := leafS age num b s) (by omega)
  have hh := sealS_head (s := leafS age num b s) (by omega)
  rw [wholeS_full hz] at hh
  have e1 := get_ext hs 0 6 (by omega) (by omega) (by omega)
  have e2 := get_ext hs 244 6 (by omega) (by omega) (by omega)
  rw [hh] at e1 e2
  exact ⟨e1.symm.trans g1, e2.symm.trans g5⟩
/-- A page torn between two leaves' ages is none. -/
theorem leafR_torn {a b : ByteArray} {i : Nat} (ha : a.size = 256) (hb : b.size = 256) (h : backA b ≠ frontA a) : leafR (tornS a b) i = none := by
  cases e : leafR (tornS a b) i with
  | none => rfl
  | some l =>
    exfalso
    obtain ⟨h1, h2, -⟩ := leafR_ends (tornS_size ha hb) e
    obtain ⟨t1, t2⟩ := torn_ends ha hb
    rw [t1] at h1
    rw [t2] at h2
    exact h (h2.trans h1.symm)
end Bw
