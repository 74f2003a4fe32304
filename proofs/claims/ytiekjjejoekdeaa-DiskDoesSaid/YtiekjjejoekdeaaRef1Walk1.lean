import Derived.Test.YtiekjjejoekdeaaFieldWalk6
namespace Go.Proofs.Ytiekjjejoekdeaa
open Go.RowKit Bw
set_option linter.unusedVariables false

set_option maxHeartbeats 400000 in
theorem ref1_bad (s : ByteArray) (a n : Int) (w : World) (hs : s.size ≤ 1099511627776) :
    Calls Try.prog 54 #[.string s, .int .i64 a, .int .i64 n] w fun e w' => e = .returned (.int .i64 (Bw.roomE s a n)) ∧ w = w' := by
  by_cases h0 : n < 1
  · have E : Bw.roomE s a n = 1 := by simp [Bw.roomE, h0]
    rw [E]; clear E
    go_enter Try.func54, Try.ntmps54
    go_wp2
    go_ret
    exact ⟨rfl, rfl⟩
  by_cases h1 : 8 < n
  · have E : Bw.roomE s a n = 1 := by simp [Bw.roomE, h1]
    rw [E]; clear E
    go_enter Try.func54, Try.ntmps54
    go_wp2
    go_ret
    exact ⟨rfl, rfl⟩
  by_cases h2 : a < 0
  · have E : Bw.roomE s a n = 1 := by simp [Bw.roomE, h2]
    rw [E]; clear E
    go_enter Try.func54, Try.ntmps54
    go_wp2
    go_ret
    exact ⟨rfl, rfl⟩
  by_cases h3 : (s.size : Int) < a
  · have E : Bw.roomE s a n = 1 := by simp [Bw.roomE, h3]
    rw [E]; clear E
    go_enter Try.func54, Try.ntmps54
    go_wp2
    go_ret
    exact ⟨rfl, rfl⟩
  by_cases h4 : (s.size : Int) < a + n
  · have E : Bw.roomE s a n = 3 := by simp [Bw.roomE]; omega
    rw [E]; clear E
    go_enter Try.func54, Try.ntmps54
    go_wp2
    go_ret
    exact ⟨rfl, rfl⟩
  · have E : Bw.roomE s a n = 0 := by simp [Bw.roomE]; omega
    rw [E]; clear E
    go_enter Try.func54, Try.ntmps54
    go_wp2
    go_ret
    exact ⟨rfl, rfl⟩

/-- One byte more, from behind. -/
theorem ref_get_step (s : ByteArray) (i j k : Nat) (hk : k ≤ 8) (hj : j < k) (h : i + j < s.size) (hik : i + k ≤ s.size) :
    Bw.le ((((Bw.lst s).drop i).take k).drop j) = s[i + j].toNat + 256 * Bw.le ((((Bw.lst s).drop i).take k).drop (j + 1)) ∧ Bw.le ((((Bw.lst s).drop i).take k).drop j) < 18446744073709551616 := by
  have hl : (((Bw.lst s).drop i).take k).length = k := by simp [Bw.lst_length]; omega
  constructor
  · have e : (((Bw.lst s).drop i).take k)[j]'(by omega) = s[i + j] := by
      rw [List.getElem_take, List.getElem_drop, Bw.lst_getElem]
    rw [List.drop_eq_getElem_cons (by omega), Bw.le, e]
  · have h1 := Bw.le_lt ((((Bw.lst s).drop i).take k).drop j)
    have h2 : ((((Bw.lst s).drop i).take k).drop j).length ≤ 8 := by rw [List.length_drop, hl]; omega
    have h3 : (256 : Nat) ^ ((((Bw.lst s).drop i).take k).drop j).length ≤ 256 ^ 8 := Nat.pow_le_pow_right (by omega) h2
    omega


end Go.Proofs.Ytiekjjejoekdeaa
