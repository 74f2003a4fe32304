import Derived.Test.YtibeeomeafakgaaRef1Walk3
namespace Go.Proofs.Ytibeeomeafakgaa
open Go.RowKit Bw
set_option linter.unusedVariables false

set_option maxHeartbeats 400000 in
theorem ref1_Text (s : ByteArray) (i : Int) (w : World) (hs : s.size ≤ 1099511627776) :
    Calls Try.prog 47 #[.string s, .int .i64 i] w fun e w' =>
      e = .returned (.tuple #[.string (textS s i), .int .i64 (textTo s i), .int .i64 (textE s i)]) ∧ w = w' := by
  by_cases h0 : i < 0
  · have E : textE s i = 1 := by simp [textE, h0]
    rw [show textS s i = ByteArray.empty by simp [textS, E], show textTo s i = 0 by simp [textTo, E], E]
    clear E
    go_enter Try.func47, Try.ntmps47
    go_wp2
    go_ret3
    exact ⟨rfl, rfl⟩
  by_cases h1 : (s.size : Int) < i
  · have E : textE s i = 1 := by simp [textE, h1]
    rw [show textS s i = ByteArray.empty by simp [textS, E], show textTo s i = 0 by simp [textTo, E], E]
    clear E
    go_enter Try.func47, Try.ntmps47
    go_wp2
    go_ret3
    exact ⟨rfl, rfl⟩
  obtain ⟨i, rfl⟩ := Int.eq_ofNat_of_zero_le (show 0 ≤ i by omega)
  by_cases h3 : i = s.size
  · have E : textE s i = 3 := by simp [textE]; omega
    rw [show textS s i = ByteArray.empty by simp [textS, E], show textTo s i = 0 by simp [textTo, E], E]
    clear E
    have h3' : ((i : Int) == (s.size : Int)) = true := by simp; omega
    clear h3
    go_enter Try.func47, Try.ntmps47
    go_wp2
    go_ret3
    exact ⟨rfl, rfl⟩
  have h4 : i < s.size := by omega
  have h3' : ((i : Int) == (s.size : Int)) = false := by simp; omega
  clear h3
  have hD := getD_at s i h4
  have hb : s[i].toNat < 256 := s[i].toNat_lt
  by_cases h5 : (s.size : Int) < i + 1 + (s[i].toNat : Int)
  · have E : textE s i = 3 := by simp only [textE, Int.toNat_natCast, hD]; rw [if_neg (by omega), if_pos (by omega)]
    rw [show textS s i = ByteArray.empty by simp [textS, E], show textTo s i = 0 by simp [textTo, E], E]
    clear E hD
    go_enter Try.func47, Try.ntmps47
    go_wp2
    go_ret3
    exact ⟨rfl, rfl⟩
  · have E : textE s i = 0 := by simp only [textE, Int.toNat_natCast, hD]; rw [if_neg (by omega), if_neg (by omega)]
    have e1 : textS s i = s.extract (i + 1) (i + 1 + s[i].toNat) := by
      simp only [textS, E, if_true, Int.toNat_natCast, hD]
      rw [extract_str]; congr 2; omega
    have e2 : textTo s i = (i : Int) + 1 + (s[i].toNat : Int) := by simp only [textTo, E, if_true, Int.toNat_natCast, hD]
    rw [e1, e2, E]
    clear e1 e2 E hD
    go_enter Try.func47, Try.ntmps47
    go_wp2
    go_ret3
    exact ⟨rfl, rfl⟩


/-- The bytes without their last one, which is 0. -/
theorem bare_less (s : ByteArray) (n : Nat) (h : s.size = n + 1) (hz : s[n] = 0) : bareS s = bareS (s.extract 0 n) := by
  have := bare_step s n (by omega) (by rw [List.take_of_length_le (by rw [lst_length]; omega)]) hz
  rw [bareS, bareS, extract_str, lst_str, this]
  simp

theorem bare_same (s : ByteArray) (n : Nat) (h : s.size = n + 1) (hz : s[n] ≠ 0) : bareS s = s := by
  rw [bare_stop s (n + 1) (by omega) (by rw [List.take_of_length_le (by rw [lst_length]; omega)]) (.inr ⟨by omega, by omega, hz⟩), ← h]
  simp

theorem bare_empty (s : ByteArray) (h : s.size = 0) : bareS s = s := by
  have : lst s = [] := List.eq_nil_of_length_eq_zero (by rw [lst_length, h])
  rw [bareS, this]; apply lst_inj; rw [lst_str, this]; rfl

theorem toList_lst (s : ByteArray) : s.toList = lst s := ByteArray.toList_eq s


end Go.Proofs.Ytibeeomeafakgaa
