/- What the document's Decode computes. No program in sight. -/
import Derived.Test.YtdlcmbnbfghdmaaLfRead
import Derived.Test.YtdlcmbnbfghdmaaLfPureA
namespace Bw
set_option linter.unusedVariables false
/-- The pairs from i on, with an error in hand. -/
def rfL (s : ByteArray) : Nat → Int → Int → List PairD → Option (List PairD × Int)
  | 0, _, err, L => some (L, err)
  | m + 1, i, err, L => if err = 0 then (if textE s i = 0 then rfL s m (textTo s (textTo s i)) (textE s (textTo s i)) (L ++ [(textS s i, textS s (textTo s i))]) else none) else some (L, err)
def rfFin (s : ByteArray) (x : LfD) (err : Int) : Option LfD := if err = 0 ∧ padE x.enc s.size = 0 ∧ padS x.enc s.size = s ∧ x.right = true then some x else none
def rfO (s : ByteArray) (n : Nat) (nx : Int) : Option LfD := (rfL s n (textTo s 4) (textE s 4) []).bind fun r => rfFin s ⟨r.1, textS s 4, nx⟩ r.2
theorem textS_le (s : ByteArray) (i : Int) : (textS s i).size ≤ 255 := by
  unfold textS
  split
  · rw [size_str, List.length_take]
    have := ((lst s).getD i.toNat 0).toNat_lt
    omega
  · show (0 : Nat) ≤ 255; omega
theorem rfO_none {s : ByteArray} {n : Nat} {nx : Int} (h : rfL s n (textTo s 4) (textE s 4) [] = none) : rfO s n nx = none := by rw [rfO, h]; rfl
theorem rfO_some {s : ByteArray} {n : Nat} {nx err : Int} {L : List PairD} (h : rfL s n (textTo s 4) (textE s 4) [] = some (L, err)) : rfO s n nx = rfFin s ⟨L, textS s 4, nx⟩ err := by rw [rfO, h]; rfl
theorem rfL_zero (s : ByteArray) (i err : Int) (L : List PairD) : rfL s 0 i err L = some (L, err) := rfl
theorem rfL_err {s : ByteArray} {m : Nat} {i err : Int} {L : List PairD} (h : ¬ err = 0) : rfL s m i err L = some (L, err) := by
  cases m
  · rfl
  · rw [rfL, if_neg h]
theorem rfL_no {s : ByteArray} {m : Nat} {i : Int} {L : List PairD} (h : ¬ textE s i = 0) : rfL s (m + 1) i 0 L = none := by rw [rfL, if_pos rfl, if_neg h]
theorem rfL_step {s : ByteArray} {m : Nat} {i : Int} {L : List PairD} (h : textE s i = 0) : rfL s (m + 1) i 0 L = rfL s m (textTo s (textTo s i)) (textE s (textTo s i)) (L ++ [(textS s i, textS s (textTo s i))]) := by rw [rfL, if_pos rfl, if_pos h]
theorem enc_size_le (x : LfD) : x.enc.size ≤ 1099511627776 := by
  unfold LfD.enc
  split
  · rename_i h
    have h1 := (right_row h).2.2.2
    have h2 := (right_sm h).2.1
    have h3 := encL_length x
    rw [LfD.size] at h3
    rw [size_str]; omega
  · show (0 : Nat) ≤ 1099511627776; omega
end Bw
