import Derived.Test.YtiekjjejoekdeaaFieldWalk3
namespace Go.Proofs.Ytiekjjejoekdeaa
open Go.RowKit Bw
set_option linter.unusedVariables false

theorem byte_of (n j : Nat) : IntKind.u8.wrap ((n : Int) / 2 ^ (8 * j)) = (((UInt8.ofNat (n / 256 ^ j)).toNat : Nat) : Int) := by
  have e : (UInt8.ofNat (n / 256 ^ j)).toNat = n / 256 ^ j % 256 := UInt8.toNat_ofNat'
  rw [e, IntKind.wrap_u8, ← Bw.pow8]
  simp

theorem put_step (w : World) (g n j k : Nat) (hj : j < k) (h : BytesAt w g 0 (toLE n j ++ List.replicate (k - j) 0)) :
    BytesAt (w.setCell ⟨g, j, none⟩ (.int .u8 (IntKind.u8.wrap ((n : Int) / 2 ^ (8 * j))))) g 0 (toLE n (j + 1) ++ List.replicate (k - (j + 1)) 0) := by
  have := h.set j (by simp [toLE_length]; omega) (UInt8.ofNat (n / 256 ^ j))
  rw [byte_of]
  have e : (toLE n j ++ List.replicate (k - j) 0).set j (UInt8.ofNat (n / 256 ^ j)) = toLE n (j + 1) ++ List.replicate (k - (j + 1)) 0 := by
    have hl := toLE_length n j
    rw [List.set_append_right _ _ (by omega), hl, toLE_snoc, Nat.sub_self]
    obtain ⟨m, hm⟩ : ∃ m, k - j = m + 1 := ⟨k - j - 1, by omega⟩
    rw [hm, List.replicate_succ, List.set_cons_zero, show k - (j + 1) = m by omega]
    simp
  rw [e] at this
  exact this

set_option maxHeartbeats 400000 in
theorem field_Put_ok (s : ByteArray) (i k n : Nat) (w : World) (hs : s.size ≤ 1099511627776) (hk : 1 ≤ k) (hk8 : k ≤ 8) (hi : i + k ≤ s.size) (hn : n < 18446744073709551616) (hfit : n < 256 ^ k) :
    Calls Try.prog 47 #[.string s, .int .i64 i, .int .i64 k, .int .u64 n] w fun e w' =>
      e = .returned (.tuple #[.string (str ((lst s).take i ++ toLE n k ++ (lst s).drop (i + k))), .int .i64 0]) ∧ Below w.heap.size w w' := by
  have C := field_room s i k w hs
  have h0 : Bw.roomE s i k = 0 := by simp [Bw.roomE]; omega
  rw [h0] at C; clear h0
  have H := Lib.hid C; clear C
  have hz : decide (0 < (n : Int) / 2 ^ (8 * k)) = false := by
    have : n / 256 ^ k = 0 := Nat.div_eq_of_lt hfit
    have e : (n : Int) / 2 ^ (8 * k) = ((n / 256 ^ k : Nat) : Int) := by rw [← Bw.pow8]; simp
    rw [e, this]; rfl
  clear hfit
  go_enter Try.func47, Try.ntmps47
  go_wp2_with (first
    | (with_reducible refine H.out.mono ?_; rintro e w' ⟨rfl, rfl⟩)
    | (with_reducible refine wpList_makeBytes rfl _ _ 72 5 rfl Try.underlying72 u8info _ _ _ _ k rfl rfl rfl rfl (by omega) w.heap.size w (Below.refl _ _) (Nat.le_refl _) ?_; intro g1 w1 hb1 hw1 hw1' hg1 hg1'))
  all_goals
    clear hz
    go_loopw [32] (fun c wr => ∃ j : Nat, j ≤ k ∧ c = .int .i64 j ∧ BytesAt wr g1 0 (toLE n j ++ List.replicate (k - j) 0) ∧ Below w.heap.size w wr ∧ g1 < wr.heap.size) (fun c _ => k - (intOf c).toNat)
    case atStart => exact ⟨0, Nat.zero_le _, rfl, by simpa [toLE] using hb1, hw1, hg1'⟩
    case round =>
      obtain ⟨j, hj, rfl, hb, hw, hgw⟩ := hrel
      by_cases hlt : j < k
      · have hc := hb.cell j (by simp [toLE_length]; omega)
        have hf := hb.free j (by simp [toLE_length]; omega)
        simp only [Nat.zero_add] at hc hf
        generalize (toLE n j ++ List.replicate (k - j) 0)[j]'(by simp [toLE_length]; omega) = old at hc
        go_wp2
        go_roundw
        case rel => exact ⟨j + 1, by omega, by go_num, put_step wr g1 n j k hlt hb, hw.setCell hg1 _, by simpa [World.setCell] using hgw⟩
        case measure => simp [intOf]; omega
      · obtain rfl : j = k := by omega
        have hbk : BytesAt wr g1 0 (toLE n j) := by simpa using hb
        have hov := field_over s i g1 0 j j (toLE n j) wr hs hbk (toLE_length n j).symm hk hi
        have HO := Lib.hid hov; clear hov hb hbk
        go_wp2_with (with_reducible refine HO.out.mono ?_; rintro e w' ⟨rfl, hw2⟩)
        go_ret2
        exact ⟨by simp [toLE_length], hw.trans (hw2.mono (by have := hw.size; omega))⟩

set_option maxHeartbeats 400000 in
theorem field_Put_bad (s : ByteArray) (i k n : Int) (w : World) (hs : s.size ≤ 1099511627776) (hb : roomE s i k ≠ 0) :
    Calls Try.prog 47 #[.string s, .int .i64 i, .int .i64 k, .int .u64 n] w fun e w' =>
      e = .returned (.tuple #[.string ByteArray.empty, .int .i64 (roomE s i k)]) ∧ w = w' := by
  have C := field_room s i k w hs
  have h0' : (roomE s i k != 0) = true := by simpa using hb
  have H := Lib.hid C; clear C hb
  go_enter Try.func47, Try.ntmps47
  go_wp2_with (with_reducible refine H.out.mono ?_; rintro e w' ⟨rfl, rfl⟩)
  go_ret2
  exact ⟨rfl, rfl⟩

set_option maxHeartbeats 400000 in
theorem field_Put_big (s : ByteArray) (i k n : Nat) (w : World) (hs : s.size ≤ 1099511627776) (hk : 1 ≤ k) (hk8 : k < 8) (hi : i + k ≤ s.size) (hfit : 256 ^ k ≤ n) :
    Calls Try.prog 47 #[.string s, .int .i64 i, .int .i64 k, .int .u64 n] w fun e w' =>
      e = .returned (.tuple #[.string ByteArray.empty, .int .i64 2]) ∧ w = w' := by
  have C := field_room s i k w hs
  have h0 : roomE s i k = 0 := by simp [Bw.roomE]; omega
  rw [h0] at C; clear h0
  have H := Lib.hid C; clear C
  have hz : decide (0 < (n : Int) / 2 ^ (8 * k)) = true := by
    have : 0 < n / 256 ^ k := Nat.div_pos hfit (Nat.pow_pos (by omega))
    have e : (n : Int) / 2 ^ (8 * k) = ((n / 256 ^ k : Nat) : Int) := by rw [← Bw.pow8]; simp
    rw [e]; exact decide_eq_true (by omega)
  clear hfit
  go_enter Try.func47, Try.ntmps47
  go_wp2_with (with_reducible refine H.out.mono ?_; rintro e w' ⟨rfl, rfl⟩)
  go_ret2
  exact ⟨rfl, rfl⟩

theorem putS_ok (s : ByteArray) (i k n : Nat) (h : roomE s i k = 0) (hfit : n < 256 ^ k) : putS s i k n = str ((lst s).take i ++ toLE n k ++ (lst s).drop (i + k)) := by
  have : putE s i k n = 0 := by simp [putE, h]; omega
  simp [putS, this]

/-- field.Put, whatever it is given. -/
theorem field_Put (s : ByteArray) (i k n : Int) (w : World) (hs : s.size ≤ 1099511627776) (hn0 : 0 ≤ n) (hn : n < 18446744073709551616) :
    Calls Try.prog 47 #[.string s, .int .i64 i, .int .i64 k, .int .u64 n] w fun e w' =>
      e = .returned (.tuple #[.string (putS s i k n), .int .i64 (putE s i k n)]) ∧ Below w.heap.size w w' := by
  by_cases h0 : roomE s i k = 0
  · have h1 : 1 ≤ k := by simp [Bw.roomE] at h0; omega
    have h2 : k ≤ 8 := by simp [Bw.roomE] at h0; omega
    have h3 : 0 ≤ i := by simp [Bw.roomE] at h0; omega
    have h4 : i + k ≤ s.size := by simp [Bw.roomE] at h0; omega
    obtain ⟨i, rfl⟩ := Int.eq_ofNat_of_zero_le h3
    obtain ⟨k, rfl⟩ := Int.eq_ofNat_of_zero_le (show 0 ≤ k by omega)
    obtain ⟨n, rfl⟩ := Int.eq_ofNat_of_zero_le hn0
    by_cases hf : n < 256 ^ k
    · have hE : putE s i k n = 0 := by simp [putE, h0]; omega
      rw [putS_ok s i k n h0 hf, hE]
      exact field_Put_ok s i k n w hs (by omega) (by omega) (by omega) (by omega) hf
    · have hE : putE s i k n = 2 := by simp [putE, h0]; omega
      have hk : k < 8 := by
        rcases Nat.lt_or_ge k 8 with h | h
        · exact h
        · obtain rfl : k = 8 := by omega
          omega
      rw [show putS s i k n = ByteArray.empty by simp [putS, hE], hE]
      exact (field_Put_big s i k n w hs (by omega) hk (by omega) (by omega)).mono fun e w' h => ⟨h.1, by rw [← h.2]; exact Below.refl _ _⟩
  · have hE : putE s i k n = roomE s i k := by simp [putE, h0]
    rw [show putS s i k n = ByteArray.empty by simp [putS, hE, h0], hE]
    exact (field_Put_bad s i k n w hs h0).mono fun e w' h => ⟨h.1, by rw [← h.2]; exact Below.refl _ _⟩

end Go.Proofs.Ytiekjjejoekdeaa
