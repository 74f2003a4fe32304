import Derived.Test.YtiekjjejoekdeaaRef1Walk2
namespace Go.Proofs.Ytiekjjejoekdeaa
open Go.RowKit Bw
set_option linter.unusedVariables false

theorem div_step (n j : Nat) : n / 256 ^ j / 256 = n / 256 ^ (j + 1) := by rw [Nat.div_div_eq_div_mul, Nat.pow_succ]

set_option maxHeartbeats 400000 in
theorem ref1_Put (s : ByteArray) (i k n : Int) (w : World) (hs : s.size ≤ 1099511627776) (hn0 : 0 ≤ n) (hn : n < 18446744073709551616) :
    Calls Try.prog 43 #[.string s, .int .i64 i, .int .i64 k, .int .u64 n] w fun e w' =>
      e = .returned (.tuple #[.string (putS s i k n), .int .i64 (putE s i k n)]) ∧ Below w.heap.size w w' := by
  have C := ref1_bad s i k w hs
  by_cases h0 : roomE s i k = 0
  · have h1 : 1 ≤ k := by simp [Bw.roomE] at h0; omega
    have h2 : k ≤ 8 := by simp [Bw.roomE] at h0; omega
    have h3 : 0 ≤ i := by simp [Bw.roomE] at h0; omega
    have h4 : i + k ≤ s.size := by simp [Bw.roomE] at h0; omega
    obtain ⟨i, rfl⟩ := Int.eq_ofNat_of_zero_le h3
    obtain ⟨k, rfl⟩ := Int.eq_ofNat_of_zero_le (show 0 ≤ k by omega)
    obtain ⟨n, rfl⟩ := Int.eq_ofNat_of_zero_le hn0
    have HE := Lib.hid (show putE s i k n = if 256 ^ k ≤ n then 2 else 0 by simp [putE, h0])
    rw [h0] at C
    have H0 := Lib.hid h0; clear h0
    have H := Lib.hid C; clear C
    go_enter Try.func43, Try.ntmps43
    go_wp2_with (with_reducible refine H.out.mono ?_; rintro e w' ⟨rfl, rfl⟩)
    go_loop [11, 12] (fun v c => ∃ j m : Nat, j ≤ k ∧ c = .int .i64 j ∧ v = .int .u64 m ∧ m < 18446744073709551616 ∧ Hid (m = n / 256 ^ j)) (fun _ c => k - (intOf c).toNat)
    case atStart => exact ⟨0, n, Nat.zero_le _, rfl, rfl, by omega, by show _ = _; simp⟩
    case round =>
      obtain ⟨j, m, hj, rfl, rfl, hm, HM⟩ := hrel
      by_cases hlt : j < k
      · go_wp2
        go_round
        case rel => exact ⟨j + 1, m / 256, by omega, by go_num, by go_num, by omega, by show _ = _; rw [HM.out, div_step]⟩
        case measure => simp [intOf]; omega
      · obtain rfl : j = k := by omega
        by_cases hz : 0 < m
        · have hbig : 256 ^ j ≤ n := by
            rcases Nat.lt_or_ge n (256 ^ j) with h | h
            · have := HM.out; rw [Nat.div_eq_of_lt h] at this; omega
            · exact h
          have HB := Lib.hid hbig; clear hbig
          go_wp2
          go_ret2
          have h2 : putE s i j n = 2 := by rw [HE.out, if_pos HB.out]
          refine ⟨?_, Below.refl _ _⟩
          rw [show putS s i j n = ByteArray.empty by simp [putS, h2], h2]; rfl
        · have hfit : n < 256 ^ j := by
            rcases Nat.lt_or_ge n (256 ^ j) with h | h
            · exact h
            · have h1 := HM.out
              have h2 := Nat.div_pos h (Nat.pow_pos (n := j) (show 0 < 256 by omega)); omega
          have HB := Lib.hid hfit; clear hfit
          have hc : ∀ w, Calls Try.prog 41 #[.int .u64 n, .int .i64 j] w fun e w' => e = .returned (.string (str (toLE n j))) ∧ Below w.heap.size w w' :=
            fun w => ref1_little j n j w (by omega) (by omega) rfl (by omega)
          have HC := Lib.hid hc; clear hc
          have hX : (str (toLE n j)).size ≤ 8 := by rw [size_str, toLE_length]; omega
          have HXd := Lib.hid (rfl : str (toLE n j) = str (toLE n j))
          generalize hXe : str (toLE n j) = X at HC hX
          have HXe := Lib.hid hXe; clear hXe HXd
          go_wp2_with fail
          have e1 : IntKind.i64.wrap ((i : Int) + (j : Int)) = (i : Int) + (j : Int) := IntWalk.i64_in _ ⟨by omega, by omega⟩
          have e2 : ((i : Int) + (j : Int)).toNat = i + j := by omega
          have e3 : (0 : Int) ≤ (i : Int) + (j : Int) := by omega
          have e4 : (i : Int) + (j : Int) ≤ (s.size : Int) := by omega
          have e5 : (0 : Int) ≤ (i : Int) := by omega
          have e6 : (i : Int) ≤ (s.size : Int) := by omega
          have e7 : (s.extract 0 i).size ≤ 1099511627776 := by simp; omega
          have e8 : (s.extract (i + j) s.size).size ≤ 1099511627776 := by simp; omega
          clear hn hm HM hn0
          go_region_with (go_at_call 41; (with_reducible refine (HC.out _).mono ?_); rintro e w1 ⟨rfl, hw1⟩)
          clear e1 e2 e3 e4 e5 e6 e7 e8
          go_wp2
          go_ret2
          have h2 : putE s i j n = 0 := by rw [HE.out, if_neg (by have := HB.out; omega)]
          refine ⟨?_, (Below.refl _ w).drew.trans hw1⟩
          rw [putS_ok s i j n H0.out HB.out, h2, ← HXe.out]
          have e : str ((lst s).take i ++ toLE n j ++ (lst s).drop (i + j)) = s.extract 0 i ++ str (toLE n j) ++ s.extract (i + j) s.size := by
            apply lst_inj
            simp only [lst_append, lst_str, extract_str, List.drop_zero, Nat.sub_zero]
            congr 1
            rw [List.take_of_length_le]
            simp [lst_length]
          rw [e]; rfl
  · have hE : putE s i k n = roomE s i k := by simp [putE, h0]
    rw [show putS s i k n = ByteArray.empty by simp [putS, hE, h0], hE]
    have h0' : (roomE s i k != 0) = true := by simpa using h0
    have H := Lib.hid C; clear C hE h0
    go_enter Try.func43, Try.ntmps43
    go_wp2_with (with_reducible refine H.out.mono ?_; rintro e w' ⟨rfl, rfl⟩)
    go_ret2
    exact ⟨rfl, Below.refl _ _⟩

end Go.Proofs.Ytiekjjejoekdeaa
