import Derived.Test.YtibeeomeafakgaaFieldWalk6
namespace Go.Proofs.Ytibeeomeafakgaa
open Go.RowKit Bw
set_option linter.unusedVariables false

set_option maxHeartbeats 400000 in
theorem ref1_bad (s : ByteArray) (a n : Int) (w : World) (hs : s.size ≤ 1099511627776) :
    Calls Try.prog 50 #[.string s, .int .i64 a, .int .i64 n] w fun e w' => e = .returned (.int .i64 (Bw.roomE s a n)) ∧ w = w' := by
  by_cases h0 : n < 1
  · have E : Bw.roomE s a n = 1 := by simp [Bw.roomE, h0]
    rw [E]; clear E
    go_enter Try.func50, Try.ntmps50
    go_wp2
    go_ret
    exact ⟨rfl, rfl⟩
  by_cases h1 : 8 < n
  · have E : Bw.roomE s a n = 1 := by simp [Bw.roomE, h1]
    rw [E]; clear E
    go_enter Try.func50, Try.ntmps50
    go_wp2
    go_ret
    exact ⟨rfl, rfl⟩
  by_cases h2 : a < 0
  · have E : Bw.roomE s a n = 1 := by simp [Bw.roomE, h2]
    rw [E]; clear E
    go_enter Try.func50, Try.ntmps50
    go_wp2
    go_ret
    exact ⟨rfl, rfl⟩
  by_cases h3 : (s.size : Int) < a
  · have E : Bw.roomE s a n = 1 := by simp [Bw.roomE, h3]
    rw [E]; clear E
    go_enter Try.func50, Try.ntmps50
    go_wp2
    go_ret
    exact ⟨rfl, rfl⟩
  by_cases h4 : (s.size : Int) < a + n
  · have E : Bw.roomE s a n = 3 := by simp [Bw.roomE]; omega
    rw [E]; clear E
    go_enter Try.func50, Try.ntmps50
    go_wp2
    go_ret
    exact ⟨rfl, rfl⟩
  · have E : Bw.roomE s a n = 0 := by simp [Bw.roomE]; omega
    rw [E]; clear E
    go_enter Try.func50, Try.ntmps50
    go_wp2
    go_ret
    exact ⟨rfl, rfl⟩

/-- One byte more, from behind. -/
theorem ref_get_step (s : ByteArray) (i j k : Nat) (hk : k ≤ 8) (hj : j < k) (h : i + j < s.size) (hik : i + k ≤ s.size) :
    Bw.le ((((Bw.lst s).drop i).take k).drop j) = s[i + j].toNat + 256 * Bw.le ((((Bw.lst s).drop i).take k).drop (j + 1)) ∧ Bw.le ((((Bw.lst s).drop i).take k).drop j) < 18446744073709551616 := by
  have hl : (((Bw.lst s).drop i).take k).length = k := by simp [Bw.lst_length]; omega
  constructor
  · have e : (((Bw.lst s).drop i).take k)[j]'(by omega) = s[i + j] := by
      rw [List.getElem_take, List.getElem_drop, Bw.lst_getElem]
    rw [List.drop_eq_getElem_cons (by omega), Bw.le, e]
  · have h1 := Bw.le_lt ((((Bw.lst s).drop i).take k).drop j)
    have h2 : ((((Bw.lst s).drop i).take k).drop j).length ≤ 8 := by rw [List.length_drop, hl]; omega
    have h3 : (256 : Nat) ^ ((((Bw.lst s).drop i).take k).drop j).length ≤ 256 ^ 8 := Nat.pow_le_pow_right (by omega) h2
    omega

set_option maxHeartbeats 400000 in
theorem ref1_Get (s : ByteArray) (a n : Int) (w : World) (hs : s.size ≤ 1099511627776) :
    Calls Try.prog 54 #[.string s, .int .i64 a, .int .i64 n] w fun e w' => e = .returned (.tuple #[.int .u64 (Bw.getV s a n), .int .i64 (Bw.roomE s a n)]) ∧ w = w' := by
  have C := ref1_bad s a n w hs
  by_cases h0 : Bw.roomE s a n = 0
  · have h1 : 1 ≤ n := by simp [Bw.roomE] at h0; omega
    have h2 : n ≤ 8 := by simp [Bw.roomE] at h0; omega
    have h3 : 0 ≤ a := by simp [Bw.roomE] at h0; omega
    have h4 : a + n ≤ s.size := by simp [Bw.roomE] at h0; omega
    obtain ⟨i, rfl⟩ := Int.eq_ofNat_of_zero_le h3
    obtain ⟨k, rfl⟩ := Int.eq_ofNat_of_zero_le (show 0 ≤ n by omega)
    have E : Bw.getV s i k = (Bw.le (((Bw.lst s).drop i).take k) : Nat) := by simp [Bw.getV, h0]
    rw [E, h0]; clear E
    rw [h0] at C; clear h0
    have hl : (((Bw.lst s).drop i).take k).length = k := by simp [Bw.lst_length]; omega
    have HL := Lib.hid hl; clear hl
    have hst : ∀ j, j < k → ∀ (h : i + j < s.size), Bw.le ((((Bw.lst s).drop i).take k).drop j) = s[i + j].toNat + 256 * Bw.le ((((Bw.lst s).drop i).take k).drop (j + 1)) ∧ Bw.le ((((Bw.lst s).drop i).take k).drop j) < 18446744073709551616 :=
      fun j hj h => ref_get_step s i j k (by omega) hj h (by omega)
    have HS := Lib.hid hst; clear hst
    generalize hX : ((Bw.lst s).drop i).take k = X at *
    clear hX
    have H := Lib.hid C; clear C
    go_enter Try.func54, Try.ntmps54
    go_wp2_with (with_reducible refine H.out.mono ?_; rintro e w' ⟨rfl, rfl⟩)
    go_loop [9, 10] (fun v c => ∃ j : Nat, j ≤ k ∧ c = .int .i64 ((j : Int) - 1) ∧ v = .int .u64 ((Bw.le (X.drop j) : Nat) : Int)) (fun _ c => (intOf c + 1).toNat)
    case atStart => exact ⟨k, Nat.le_refl _, rfl, by rw [List.drop_eq_nil_of_le (by rw [HL.out]; exact Nat.le_refl _)]; simp [Bw.le]⟩
    case round =>
      obtain ⟨j, hj, rfl, rfl⟩ := hrel
      by_cases hlt : j = 0
      · subst hlt
        go_wp2
        go_ret2
        exact ⟨by simp, rfl⟩
      · obtain ⟨m, rfl⟩ : ∃ m, j = m + 1 := ⟨j - 1, by omega⟩
        have hm : i + m < s.size := by omega
        obtain ⟨hs1, hs2⟩ := HS.out m (by omega) hm
        have HS1 := Lib.hid hs1
        have hs3 : 256 * Bw.le (X.drop (m + 1)) + s[i + m].toNat < 18446744073709551616 := by omega
        clear hs1 hs2
        have hb : s[i + m].toNat < 256 := s[i + m].toNat_lt
        have hmm : ((m + 1 : Nat) : Int) - 1 = (m : Int) := by omega
        rw [hmm]; clear hmm
        go_wp2
        go_round
        case rel => exact ⟨m, by omega, rfl, by rw [HS1.out]; go_num⟩
        case measure => simp [intOf]
  · have E : Bw.getV s a n = 0 := by simp [Bw.getV, h0]
    rw [E]; clear E
    have h0' : (Bw.roomE s a n != 0) = true := by simpa using h0
    clear h0
    have H := Lib.hid C; clear C
    go_enter Try.func54, Try.ntmps54
    go_wp2_with (with_reducible refine H.out.mono ?_; rintro e w' ⟨rfl, rfl⟩)
    go_ret2
    exact ⟨rfl, rfl⟩

end Go.Proofs.Ytibeeomeafakgaa
