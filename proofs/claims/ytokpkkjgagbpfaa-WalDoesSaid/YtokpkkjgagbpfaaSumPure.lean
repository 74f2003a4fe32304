/- Pages and their sums, in plain Lean. No program in sight. -/
import Derived.Test.YtokpkkjgagbpfaaCrc
namespace Bw
open Go

/-- The 252 bytes that a page has. -/
def wholeS (s : ByteArray) : ByteArray := str (lst s ++ List.replicate (252 - s.size) 0)
def sealE (s : ByteArray) : Int := if 252 < s.size then 2 else 0
def sealS (s : ByteArray) : ByteArray := if 252 < s.size then ByteArray.empty else str (lst (wholeS s) ++ toLE (crcOf (wholeS s)) 4)
def openE (p : ByteArray) : Int :=
  if p.size = 256 then (if le ((lst p).drop 252) = crcOf (p.extract 0 252) then 0 else 5) else 4
def openS (p : ByteArray) : ByteArray := if openE p = 0 then p.extract 0 252 else ByteArray.empty
def tornS (a b : ByteArray) : ByteArray := a.extract 0 (min 128 a.size) ++ b.extract (min 128 b.size) b.size

theorem wholeS_size {s : ByteArray} (h : s.size ≤ 252) : (wholeS s).size = 252 := by
  rw [wholeS, size_str, List.length_append, lst_length, List.length_replicate]; omega

theorem wholeS_pad {s : ByteArray} (h : s.size ≤ 252) : padS s (252 : Nat) = wholeS s := by rw [padS_of h (by omega)]; rfl

theorem seal_put {s : ByteArray} (h : s.size ≤ 252) :
    padE s (252 : Nat) = 0 ∧ padE (wholeS s) (256 : Nat) = 0 ∧ (padS (wholeS s) (256 : Nat)).size = 256 ∧ putE (padS (wholeS s) (256 : Nat)) (252 : Nat) (4 : Nat) (crcOf (wholeS s) : Nat) = 0 ∧
      putS (padS (wholeS s) (256 : Nat)) (252 : Nat) (4 : Nat) (crcOf (wholeS s) : Nat) = sealS s := by
  have hz := wholeS_size h
  have hc := crcOf_lt (wholeS s)
  have e1 : padS (wholeS s) (256 : Nat) = str (lst (wholeS s) ++ List.replicate 4 0) := by rw [padS_of (by omega) (by omega), hz]
  have e2 : (padS (wholeS s) (256 : Nat)).size = 256 := by rw [e1, size_str, List.length_append, lst_length, List.length_replicate, hz]
  have e3 : putE (padS (wholeS s) (256 : Nat)) (252 : Nat) (4 : Nat) (crcOf (wholeS s) : Nat) = 0 := by
    simp only [putE, roomE_of (k := 4) (by omega) (by omega) (show 252 + 4 ≤ (padS (wholeS s) (256 : Nat)).size by omega), if_true, Int.toNat_natCast]
    rw [if_neg (by omega)]
  refine ⟨padE_of h (by omega), padE_of (by omega) (by omega), e2, e3, ?_⟩
  apply lst_inj
  have hp := (size_putS _ _ _ _ e3).2.2.2.2.2
  rw [hp, e1, lst_str, sealS, if_neg (by omega), lst_str]
  have hl : (lst (wholeS s)).length = 252 := by rw [lst_length, hz]
  generalize lst (wholeS s) = l at *
  rw [List.take_append_of_le_length (by omega), List.take_of_length_le (by omega), List.drop_eq_nil_of_le (by rw [List.length_append, List.length_replicate]; omega)]
  simp

theorem sealS_size {s : ByteArray} (h : s.size ≤ 252) : (sealS s).size = 256 := by
  rw [sealS, if_neg (by omega), size_str, List.length_append, lst_length, wholeS_size h, toLE_length]

theorem sealS_le (s : ByteArray) : (sealS s).size ≤ 256 := by
  by_cases h : s.size ≤ 252
  · rw [sealS_size h]; exact Nat.le_refl _
  · rw [sealS, if_pos (by omega)]; decide

theorem open_get {p : ByteArray} (h : p.size = 256) : roomE p (252 : Nat) (4 : Nat) = 0 ∧ getV p (252 : Nat) (4 : Nat) = (le ((lst p).drop 252) : Nat) ∧ le ((lst p).drop 252) < 4294967296 := by
  have hl : ((lst p).drop 252).length = 4 := by rw [List.length_drop, lst_length, h]
  refine ⟨roomE_of (by omega) (by omega) (by omega), ?_, ?_⟩
  · rw [getV_eq (by omega) (by omega) (by omega), List.take_of_length_le (by omega)]
  · have := le_lt ((lst p).drop 252)
    rw [hl] at this; omega

theorem sealS_lst {s : ByteArray} (h : s.size ≤ 252) : lst (sealS s) = lst (wholeS s) ++ toLE (crcOf (wholeS s)) 4 := by rw [sealS, if_neg (by omega), lst_str]

theorem sealS_head {s : ByteArray} (h : s.size ≤ 252) : (sealS s).extract 0 252 = wholeS s := by
  apply lst_inj
  rw [extract_lst, sealS_lst h, List.drop_zero, List.take_append_of_le_length (by rw [lst_length, wholeS_size h]; omega), List.take_of_length_le (by rw [lst_length, wholeS_size h]; omega)]

theorem sealS_tail {s : ByteArray} (h : s.size ≤ 252) : le ((lst (sealS s)).drop 252) = crcOf (wholeS s) := by
  have hl : (lst (wholeS s)).length = 252 := by rw [lst_length, wholeS_size h]
  rw [sealS_lst h, List.drop_append_of_le_length (by omega), List.drop_eq_nil_of_le (by omega), List.nil_append, le_toLE]
  have := crcOf_lt (wholeS s)
  omega

/-- What is sealed is opened as it was. -/
theorem open_seal {s : ByteArray} (h : s.size ≤ 252) : openE (sealS s) = 0 ∧ openS (sealS s) = wholeS s := by
  have e : openE (sealS s) = 0 := by rw [openE, if_pos (sealS_size h), sealS_head h, if_pos (sealS_tail h)]
  exact ⟨e, by rw [openS, if_pos e, sealS_head h]⟩

theorem whole_whole {s : ByteArray} (h : s.size = 252) : wholeS s = s := by
  apply lst_inj
  rw [wholeS, lst_str, h]; simp

/-- What is opened, sealed, is that page. -/
theorem seal_open {p : ByteArray} (h : p.size = 256) : (sealS (p.extract 0 252) = p) ↔ le ((lst p).drop 252) = crcOf (p.extract 0 252) := by
  have hz : (p.extract 0 252).size = 252 := by simp; omega
  have hw := whole_whole hz
  have hd : ((lst p).drop 252).length = 4 := by rw [List.length_drop, lst_length, h]
  have hp : lst p = lst (p.extract 0 252) ++ (lst p).drop 252 := by
    rw [extract_lst, List.drop_zero]; exact (List.take_append_drop 252 (lst p)).symm
  constructor
  · intro e
    have := sealS_tail (s := p.extract 0 252) (by omega)
    rw [e, hw] at this
    exact this
  · intro e
    apply lst_inj
    rw [sealS_lst (by omega), hw, ← e, ← hd, toLE_le]
    exact hp.symm
end Bw
