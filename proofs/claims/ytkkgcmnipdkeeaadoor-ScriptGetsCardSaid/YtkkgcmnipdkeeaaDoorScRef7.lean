/- Layer 24, the document's side: the byte at a place. -/
import Derived.Test.YtkkgcmnipdkeeaaDoorRecWalk1
import Derived.Test.YtkkgcmnipdkeeaaDoorScGuess
namespace Bw
theorem getV_byte (s : ByteArray) (i : Nat) (h : i < s.size) : getV s i 1 = (s[i].toNat : Int) := by
  have h1 := (roomE1 s i).2 h
  have hd : (lst s).drop i = (lst s)[i]'(by rw [lst_length]; exact h) :: (lst s).drop (i + 1) := List.drop_eq_getElem_cons _
  rw [getV, if_pos h1, Int.toNat_natCast, hd]
  show ((le ((lst s)[i] :: List.take 0 _) : Nat) : Int) = _
  simp only [List.take_zero, le]
  show (((lst s)[i].toNat + 256 * 0 : Nat) : Int) = _
  rfl
theorem getV_out (s : ByteArray) (i : Nat) (h : ¬ i < s.size) : getV s i 1 = 0 := by
  rw [getV, if_neg (fun hh => h ((roomE1 s i).1 hh))]
end Bw
namespace Go.Proofs.YtkkgcmnipdkeeaaDoor
open Go.RowKit Bw
set_option linter.unusedVariables false
theorem ref24_byteAt (s : ByteArray) (i : Nat) (w : World) : Calls Tryd.prog 46 #[.string s, .int .i64 i] w fun e w' => e = .returned (.int .i64 (getV s i 1)) ∧ w = w' := by
  have i0 : (0 : Int) ≤ (i : Int) := by omega
  by_cases h : i < s.size
  · have hb : (i : Int) < (s.size : Int) := by omega
    obtain ⟨c, hc⟩ : ∃ c, s[i]'h = c := ⟨_, rfl⟩
    have HG := Lib.hid (show getV s i 1 = (c.toNat : Int) by rw [getV_byte s i h, hc])
    rw [HG.out]
    have hc3 : 0 ≤ (c.toNat : Int) ∧ (c.toNat : Int) < 256 := by have := c.toNat_lt; omega
    go_enter Tryd.func46, Tryd.ntmps46
    go_wp2_with fail
    go_ret
    exact ⟨rfl, rfl⟩
  · have hb : (s.size : Int) ≤ (i : Int) := by omega
    rw [getV_out s i h]
    clear h
    go_enter Tryd.func46, Tryd.ntmps46
    go_wp2_with fail
    go_ret
    exact ⟨rfl, rfl⟩
end Go.Proofs.YtkkgcmnipdkeeaaDoor
