import Derived.Test.YtiekjjejoekdeaaFieldWalk1
namespace Go.Proofs.Ytiekjjejoekdeaa
open Go.RowKit
set_option linter.unusedVariables false

/-- One byte more of the number at a place, as the loop reckons it. -/
theorem get_step (s : ByteArray) (i j k : Nat) (hk : k ≤ 8) (hj : j < k) (h : i + j < s.size) :
    bits BinOp.or IntKind.u64 ((Bw.le (((Bw.lst s).drop i).take j) : Nat) : Int) (IntKind.u64.wrap (IntKind.u64.wrap ((s[i + j].toNat : Nat) : Int) * 2 ^ (8 * j))) = ((Bw.le (((Bw.lst s).drop i).take (j + 1)) : Nat) : Int) := by
  have hl : (((Bw.lst s).drop i).take j).length = j := by simp [Bw.lst_length]; omega
  have hx := Bw.le_lt (((Bw.lst s).drop i).take j)
  rw [hl] at hx
  have hp : (256 : Nat) ^ j ≤ 256 ^ 7 := Nat.pow_le_pow_right (by omega) (by omega)
  have hb : s[i + j].toNat < 256 := s[i + j].toNat_lt
  have e1 : IntKind.u64.wrap ((s[i + j].toNat : Nat) : Int) = ((s[i + j].toNat : Nat) : Int) := IntWalk.u64_in _ ⟨by omega, by omega⟩
  have hm : s[i + j].toNat * 256 ^ j ≤ 255 * 256 ^ 7 := Nat.mul_le_mul (by omega) hp
  have e2 : ((s[i + j].toNat : Nat) : Int) * 2 ^ (8 * j) = ((s[i + j].toNat * 256 ^ j : Nat) : Int) := by rw [← Bw.pow8]; simp
  rw [e1, e2, IntWalk.u64_in _ ⟨by omega, by omega⟩]
  rw [u64_or_nat _ _ (by omega) (by omega), ← Bw.pow8, Bw.or_shift _ _ _ (by rw [Bw.pow8]; exact hx)]
  congr 1
  have hg : ((Bw.lst s).drop i)[j]? = some s[i + j] := by
    rw [List.getElem?_drop, Bw.lst_getElem]; exact List.getElem?_eq_getElem _
  rw [List.take_add_one, hg, Bw.le_append, hl, Bw.pow8]
  simp [Bw.le]

set_option maxHeartbeats 400000 in
theorem field_Get (s : ByteArray) (a n : Int) (w : World) (hs : s.size ≤ 1099511627776) :
    Calls Try.prog 50 #[.string s, .int .i64 a, .int .i64 n] w fun e w' => e = .returned (.tuple #[.int .u64 (Bw.getV s a n), .int .i64 (Bw.roomE s a n)]) ∧ w = w' := by
  have C := field_room s a n w hs
  by_cases h0 : Bw.roomE s a n = 0
  · have h1 : 1 ≤ n := by simp [Bw.roomE] at h0; omega
    have h2 : n ≤ 8 := by simp [Bw.roomE] at h0; omega
    have h3 : 0 ≤ a := by simp [Bw.roomE] at h0; omega
    have h4 : a + n ≤ s.size := by simp [Bw.roomE] at h0; omega
    obtain ⟨i, rfl⟩ := Int.eq_ofNat_of_zero_le h3
    obtain ⟨k, rfl⟩ := Int.eq_ofNat_of_zero_le (show 0 ≤ n by omega)
    have E : Bw.getV s i k = (Bw.le (((Bw.lst s).drop i).take k) : Nat) := by simp [Bw.getV, h0]
    rw [E, h0]; clear E
    rw [h0] at C; clear h0
    have H := Lib.hid C; clear C
    go_enter Try.func50, Try.ntmps50
    go_wp2_with (refine H.out.mono ?_; rintro e w' ⟨rfl, rfl⟩)
    go_loop [9, 19] (fun v c => ∃ j : Nat, j ≤ k ∧ c = .int .i64 j ∧ v = .int .u64 ((Bw.le (((Bw.lst s).drop i).take j) : Nat) : Int)) (fun _ c => k - (intOf c).toNat)
    case atStart => exact ⟨0, Nat.zero_le _, rfl, by simp [Bw.le]⟩
    case round =>
      obtain ⟨j, hj, rfl, rfl⟩ := hrel
      go_wp2
      · have hlt : j < k := by assumption
        go_round
        case rel => exact ⟨j + 1, by omega, by go_num, by rw [get_step s i j k (by omega) hlt (by omega)]⟩
        case measure => simp [intOf]; omega
      · have hlt : ¬ j < k := by assumption
        obtain rfl : j = k := by omega
        go_ret2
        exact ⟨rfl, rfl⟩
  · have E : Bw.getV s a n = 0 := by simp [Bw.getV, h0]
    rw [E]; clear E
    have h0' : (Bw.roomE s a n != 0) = true := by simpa using h0
    clear h0
    have H := Lib.hid C; clear C
    go_enter Try.func50, Try.ntmps50
    go_wp2_with (refine H.out.mono ?_; rintro e w' ⟨rfl, rfl⟩)
    go_ret2
    exact ⟨rfl, rfl⟩

end Go.Proofs.Ytiekjjejoekdeaa
