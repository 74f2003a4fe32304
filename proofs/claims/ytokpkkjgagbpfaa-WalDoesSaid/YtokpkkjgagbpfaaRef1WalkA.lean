import Derived.Test.YtokpkkjgagbpfaaFieldWalkA
import Derived.Deep.RegionWith
namespace Go.Proofs.Ytokpkkjgagbpfaa
open Go.RowKit Bw
set_option linter.unusedVariables false

set_option maxHeartbeats 400000 in
theorem ref1_bad (s : ByteArray) (a n : Int) (w : World) (hs : s.size ≤ 1099511627776) :
    Calls Try.prog 80 #[.string s, .int .i64 a, .int .i64 n] w fun e w' => e = .returned (.int .i64 (Bw.roomE s a n)) ∧ w = w' := by
  by_cases h0 : n < 1
  · have E : Bw.roomE s a n = 1 := by simp [Bw.roomE, h0]
    rw [E]; clear E
    go_enter Try.func80, Try.ntmps80
    go_wp2
    go_ret
    exact ⟨rfl, rfl⟩
  by_cases h1 : 8 < n
  · have E : Bw.roomE s a n = 1 := by simp [Bw.roomE, h1]
    rw [E]; clear E
    go_enter Try.func80, Try.ntmps80
    go_wp2
    go_ret
    exact ⟨rfl, rfl⟩
  by_cases h2 : a < 0
  · have E : Bw.roomE s a n = 1 := by simp [Bw.roomE, h2]
    rw [E]; clear E
    go_enter Try.func80, Try.ntmps80
    go_wp2
    go_ret
    exact ⟨rfl, rfl⟩
  by_cases h3 : (s.size : Int) < a
  · have E : Bw.roomE s a n = 1 := by simp [Bw.roomE, h3]
    rw [E]; clear E
    go_enter Try.func80, Try.ntmps80
    go_wp2
    go_ret
    exact ⟨rfl, rfl⟩
  by_cases h4 : (s.size : Int) < a + n
  · have E : Bw.roomE s a n = 3 := by simp [Bw.roomE]; omega
    rw [E]; clear E
    go_enter Try.func80, Try.ntmps80
    go_wp2
    go_ret
    exact ⟨rfl, rfl⟩
  · have E : Bw.roomE s a n = 0 := by simp [Bw.roomE]; omega
    rw [E]; clear E
    go_enter Try.func80, Try.ntmps80
    go_wp2
    go_ret
    exact ⟨rfl, rfl⟩

/-- One byte more, from behind. -/
theorem ref_get_step (s : ByteArray) (i j k : Nat) (hk : k ≤ 8) (hj : j < k) (h : i + j < s.size) (hik : i + k ≤ s.size) :
    Bw.le ((((Bw.lst s).drop i).take k).drop j) = s[i + j].toNat + 256 * Bw.le ((((Bw.lst s).drop i).take k).drop (j + 1)) ∧ Bw.le ((((Bw.lst s).drop i).take k).drop j) < 18446744073709551616 := by
  have hl : (((Bw.lst s).drop i).take k).length = k := by simp [Bw.lst_length]; omega
  constructor
  · have e : (((Bw.lst s).drop i).take k)[j]'(by omega) = s[i + j] := by
      rw [List.getElem_take, List.getElem_drop, Bw.lst_getElem]
    rw [List.drop_eq_getElem_cons (by omega), Bw.le, e]
  · have h1 := Bw.le_lt ((((Bw.lst s).drop i).take k).drop j)
    have h2 : ((((Bw.lst s).drop i).take k).drop j).length ≤ 8 := by rw [List.length_drop, hl]; omega
    have h3 : (256 : Nat) ^ ((((Bw.lst s).drop i).take k).drop j).length ≤ 256 ^ 8 := Nat.pow_le_pow_right (by omega) h2
    omega

set_option maxHeartbeats 400000 in
theorem ref1_Get (s : ByteArray) (a n : Int) (w : World) (hs : s.size ≤ 1099511627776) :
    Calls Try.prog 69 #[.string s, .int .i64 a, .int .i64 n] w fun e w' => e = .returned (.tuple #[.int .u64 (Bw.getV s a n), .int .i64 (Bw.roomE s a n)]) ∧ w = w' := by
  have C := ref1_bad s a n w hs
  by_cases h0 : Bw.roomE s a n = 0
  · have h1 : 1 ≤ n := by simp [Bw.roomE] at h0; omega
    have h2 : n ≤ 8 := by simp [Bw.roomE] at h0; omega
    have h3 : 0 ≤ a := by simp [Bw.roomE] at h0; omega
    have h4 : a + n ≤ s.size := by simp [Bw.roomE] at h0; omega
    obtain ⟨i, rfl⟩ := Int.eq_ofNat_of_zero_le h3
    obtain ⟨k, rfl⟩ := Int.eq_ofNat_of_zero_le (show 0 ≤ n by omega)
    have E : Bw.getV s i k = (Bw.le (((Bw.lst s).drop i).take k) : Nat) := by simp [Bw.getV, h0]
    rw [E, h0]; clear E
    rw [h0] at C; clear h0
    have hl : (((Bw.lst s).drop i).take k).length = k := by simp [Bw.lst_length]; omega
    have HL := Lib.hid hl; clear hl
    have hst : ∀ j, j < k → ∀ (h : i + j < s.size), Bw.le ((((Bw.lst s).drop i).take k).drop j) = s[i + j].toNat + 256 * Bw.le ((((Bw.lst s).drop i).take k).drop (j + 1)) ∧ Bw.le ((((Bw.lst s).drop i).take k).drop j) < 18446744073709551616 :=
      fun j hj h => ref_get_step s i j k (by omega) hj h (by omega)
    have HS := Lib.hid hst; clear hst
    generalize hX : ((Bw.lst s).drop i).take k = X at *
    clear hX
    have H := Lib.hid C; clear C
    go_enter Try.func69, Try.ntmps69
    go_wp2_with (with_reducible refine H.out.mono ?_; rintro e w' ⟨rfl, rfl⟩)
    go_loop [9, 10] (fun v c => ∃ j : Nat, j ≤ k ∧ c = .int .i64 ((j : Int) - 1) ∧ v = .int .u64 ((Bw.le (X.drop j) : Nat) : Int)) (fun _ c => (intOf c + 1).toNat)
    case atStart => exact ⟨k, Nat.le_refl _, rfl, by rw [List.drop_eq_nil_of_le (by rw [HL.out]; exact Nat.le_refl _)]; simp [Bw.le]⟩
    case round =>
      obtain ⟨j, hj, rfl, rfl⟩ := hrel
      by_cases hlt : j = 0
      · subst hlt
        go_wp2
        go_ret2
        exact ⟨by simp, rfl⟩
      · obtain ⟨m, rfl⟩ : ∃ m, j = m + 1 := ⟨j - 1, by omega⟩
        have hm : i + m < s.size := by omega
        obtain ⟨hs1, hs2⟩ := HS.out m (by omega) hm
        have HS1 := Lib.hid hs1
        have hs3 : 256 * Bw.le (X.drop (m + 1)) + s[i + m].toNat < 18446744073709551616 := by omega
        clear hs1 hs2
        have hb : s[i + m].toNat < 256 := s[i + m].toNat_lt
        have hmm : ((m + 1 : Nat) : Int) - 1 = (m : Int) := by omega
        rw [hmm]; clear hmm
        go_wp2
        go_round
        case rel => exact ⟨m, by omega, rfl, by rw [HS1.out]; go_num⟩
        case measure => simp [intOf]
  · have E : Bw.getV s a n = 0 := by simp [Bw.getV, h0]
    rw [E]; clear E
    have h0' : (Bw.roomE s a n != 0) = true := by simpa using h0
    clear h0
    have H := Lib.hid C; clear C
    go_enter Try.func69, Try.ntmps69
    go_wp2_with (with_reducible refine H.out.mono ?_; rintro e w' ⟨rfl, rfl⟩)
    go_ret2
    exact ⟨rfl, rfl⟩

end Go.Proofs.Ytokpkkjgagbpfaa
namespace Go.Proofs.Ytokpkkjgagbpfaa
open Go.RowKit Bw
set_option linter.unusedVariables false

theorem bcell {W w1 : World} (hb : Below W.heap.size W w1) : (∀ b o, b < W.heap.size → w1.cell? ⟨b, o, none⟩ = W.cell? ⟨b, o, none⟩) ∧ (∀ b o, b < W.heap.size → w1.frozen? ⟨b, o, none⟩ = W.frozen? ⟨b, o, none⟩) :=
  ⟨fun b o h => hb.cell (p := ⟨b, o, none⟩) h, fun b o h => hb.frozen (p := ⟨b, o, none⟩) h⟩

theorem conv_one (x : Int) (g : Nat) (w : World) (hc : w.cell? ⟨g, 0, none⟩ = some (.int .u8 (IntKind.u8.wrap x))) :
    (convert 54 9 (.slice (some ⟨g, 0, none⟩) 1 1)).run Try.prog w = .ok (.string (str [UInt8.ofNat (x % 256).toNat])) w := by
  have := run_convert_bytes_back (P := Try.prog) w 54 9 5 ⟨g, 0, none⟩ 1 [UInt8.ofNat (x % 256).toNat] Try.underlying54 Try.underlying5 Try.underlying9 (fun j hj => by
    have hj0 : j = 0 := by simpa using hj
    subst hj0
    have e : (UInt8.ofNat (x % 256).toNat).toNat = (x % 256).toNat % 256 := UInt8.toNat_ofNat'
    rw [add_none, hc, IntKind.wrap_u8]
    simp only [List.getElem_cons_zero, e]
    congr 2; omega)
  exact this

theorem conv_plain (x : Int) (h0 : 0 ≤ x) (h1 : x < 256) (g : Nat) (w : World) (hc : w.cell? ⟨g, 0, none⟩ = some (.int .u8 x)) :
    (convert 54 9 (.slice (some ⟨g, 0, none⟩) 1 1)).run Try.prog w = .ok (.string (str [UInt8.ofNat (x % 256).toNat])) w :=
  conv_one x g w (by rw [hc, IntKind.wrap_u8]; congr 2; omega)

set_option maxHeartbeats 400000 in
theorem ref1_little (k : Nat) : ∀ (n K : Int) (w : World), 0 ≤ n → n < 18446744073709551616 → K = k → k ≤ 1099511627776 →
    Calls Try.prog 79 #[.int .u64 n, .int .i64 K] w fun e w' => e = .returned (.string (str (toLE n.toNat k))) ∧ Below w.heap.size w w' := by
  induction k with
  | zero =>
    intro n K w hn0 hn hK hk
    subst hK
    have h0 : (((0 : Nat) : Int) == 0) = true := rfl
    go_enter Try.func79, Try.ntmps79
    go_wp2_with fail
    go_ret
    exact ⟨rfl, Below.refl _ _⟩
  | succ k ih =>
    intro n K w hn0 hn hK hk
    have h0 : (K == 0) = false := by simp; omega
    have hc : ∀ w, Calls Try.prog 79 #[.int .u64 (n / 256), .int .i64 (K - 1)] w fun e w' => e = .returned (.string (str (toLE (n / 256).toNat k))) ∧ Below w.heap.size w w' :=
      fun w => ih (n / 256) (K - 1) w (by omega) (by omega) (by omega) (by omega)
    have e1 : IntKind.u64.wrap (n.tdiv 256) = n / 256 := by rw [Int.tdiv_eq_ediv_of_nonneg hn0]; exact IntWalk.u64_in _ ⟨by omega, by omega⟩
    have e2 : IntKind.i64.wrap (K - 1) = K - 1 := IntWalk.i64_in _ ⟨by omega, by omega⟩
    have E1 := Lib.hid e1
    have E2 := Lib.hid e2
    clear e1 e2
    have e3 : str (toLE n.toNat (k + 1)) = str [UInt8.ofNat (n.tmod 256 % 256).toNat] ++ str (toLE (n / 256).toNat k) := by
      apply lst_inj
      rw [Int.tmod_eq_emod_of_nonneg hn0]
      have h2 : UInt8.ofNat (n % 256 % 256).toNat = UInt8.ofNat n.toNat := by
        apply UInt8.toNat_inj.1
        have e : ∀ m, (UInt8.ofNat m).toNat = m % 256 := fun m => UInt8.toNat_ofNat'
        rw [e, e]; omega
      rw [h2, lst_append, lst_str, lst_str, lst_str, toLE, show n.toNat / 256 = (n / 256).toNat by omega]
      rfl
    rw [e3]
    have hX : (str (toLE (n / 256).toNat k)).size ≤ 1099511627776 := by rw [size_str, toLE_length]; omega
    have hY : (str [UInt8.ofNat (n.tmod 256 % 256).toNat]).size ≤ 1 := Nat.le_refl _
    have hcv := conv_one (n.tmod 256)
    generalize str (toLE (n / 256).toNat k) = X at *
    generalize str [UInt8.ofNat (n.tmod 256 % 256).toNat] = Y at *
    clear e3 hK hk ih
    have HI := Lib.hid hc; clear hc
    go_enter Try.func79, Try.ntmps79
    go_wp2_with fail
    have e1 := E1.out
    have e2 := E2.out
    clear E1 E2 hn hn0
    go_region_with (go_at_call 79; (with_reducible refine (HI.out _).mono ?_); rintro e w1 ⟨rfl, hw1⟩; obtain ⟨hcc, hff⟩ := bcell hw1)
    all_goals
      clear e1 e2 hcv
      go_wp2
      go_ret
      first
        | exact ⟨rfl, (((Below.refl _ w).alloc (Nat.le_refl _) _).drew).trans (hw1.mono (by simp))⟩
        | exact ⟨rfl, ((Below.refl _ w).drew.trans hw1).alloc hw1.size _⟩
end Go.Proofs.Ytokpkkjgagbpfaa
namespace Go.Proofs.Ytokpkkjgagbpfaa
open Go.RowKit Bw
set_option linter.unusedVariables false

theorem div_step (n j : Nat) : n / 256 ^ j / 256 = n / 256 ^ (j + 1) := by rw [Nat.div_div_eq_div_mul, Nat.pow_succ]

set_option maxHeartbeats 400000 in
theorem ref1_Put (s : ByteArray) (i k n : Int) (w : World) (hs : s.size ≤ 1099511627776) (hn0 : 0 ≤ n) (hn : n < 18446744073709551616) :
    Calls Try.prog 61 #[.string s, .int .i64 i, .int .i64 k, .int .u64 n] w fun e w' =>
      e = .returned (.tuple #[.string (putS s i k n), .int .i64 (putE s i k n)]) ∧ Below w.heap.size w w' := by
  have C := ref1_bad s i k w hs
  by_cases h0 : roomE s i k = 0
  · have h1 : 1 ≤ k := by simp [Bw.roomE] at h0; omega
    have h2 : k ≤ 8 := by simp [Bw.roomE] at h0; omega
    have h3 : 0 ≤ i := by simp [Bw.roomE] at h0; omega
    have h4 : i + k ≤ s.size := by simp [Bw.roomE] at h0; omega
    obtain ⟨i, rfl⟩ := Int.eq_ofNat_of_zero_le h3
    obtain ⟨k, rfl⟩ := Int.eq_ofNat_of_zero_le (show 0 ≤ k by omega)
    obtain ⟨n, rfl⟩ := Int.eq_ofNat_of_zero_le hn0
    have HE := Lib.hid (show putE s i k n = if 256 ^ k ≤ n then 2 else 0 by simp [putE, h0])
    rw [h0] at C
    have H0 := Lib.hid h0; clear h0
    have H := Lib.hid C; clear C
    go_enter Try.func61, Try.ntmps61
    go_wp2_with (with_reducible refine H.out.mono ?_; rintro e w' ⟨rfl, rfl⟩)
    go_loop [11, 12] (fun v c => ∃ j m : Nat, j ≤ k ∧ c = .int .i64 j ∧ v = .int .u64 m ∧ m < 18446744073709551616 ∧ Hid (m = n / 256 ^ j)) (fun _ c => k - (intOf c).toNat)
    case atStart => exact ⟨0, n, Nat.zero_le _, rfl, rfl, by omega, by show _ = _; simp⟩
    case round =>
      obtain ⟨j, m, hj, rfl, rfl, hm, HM⟩ := hrel
      by_cases hlt : j < k
      · go_wp2
        go_round
        case rel => exact ⟨j + 1, m / 256, by omega, by go_num, by go_num, by omega, by show _ = _; rw [HM.out, div_step]⟩
        case measure => simp [intOf]; omega
      · obtain rfl : j = k := by omega
        by_cases hz : 0 < m
        · have hbig : 256 ^ j ≤ n := by
            rcases Nat.lt_or_ge n (256 ^ j) with h | h
            · have := HM.out; rw [Nat.div_eq_of_lt h] at this; omega
            · exact h
          have HB := Lib.hid hbig; clear hbig
          go_wp2
          go_ret2
          have h2 : putE s i j n = 2 := by rw [HE.out, if_pos HB.out]
          refine ⟨?_, Below.refl _ _⟩
          rw [show putS s i j n = ByteArray.empty by simp [putS, h2], h2]; rfl
        · have hfit : n < 256 ^ j := by
            rcases Nat.lt_or_ge n (256 ^ j) with h | h
            · exact h
            · have h1 := HM.out
              have h2 := Nat.div_pos h (Nat.pow_pos (n := j) (show 0 < 256 by omega)); omega
          have HB := Lib.hid hfit; clear hfit
          have hc : ∀ w, Calls Try.prog 79 #[.int .u64 n, .int .i64 j] w fun e w' => e = .returned (.string (str (toLE n j))) ∧ Below w.heap.size w w' :=
            fun w => ref1_little j n j w (by omega) (by omega) rfl (by omega)
          have HC := Lib.hid hc; clear hc
          have hX : (str (toLE n j)).size ≤ 8 := by rw [size_str, toLE_length]; omega
          have HXd := Lib.hid (rfl : str (toLE n j) = str (toLE n j))
          generalize hXe : str (toLE n j) = X at HC hX
          have HXe := Lib.hid hXe; clear hXe HXd
          go_wp2_with fail
          have e1 : IntKind.i64.wrap ((i : Int) + (j : Int)) = (i : Int) + (j : Int) := IntWalk.i64_in _ ⟨by omega, by omega⟩
          have e2 : ((i : Int) + (j : Int)).toNat = i + j := by omega
          have e3 : (0 : Int) ≤ (i : Int) + (j : Int) := by omega
          have e4 : (i : Int) + (j : Int) ≤ (s.size : Int) := by omega
          have e5 : (0 : Int) ≤ (i : Int) := by omega
          have e6 : (i : Int) ≤ (s.size : Int) := by omega
          have e7 : (s.extract 0 i).size ≤ 1099511627776 := by simp; omega
          have e8 : (s.extract (i + j) s.size).size ≤ 1099511627776 := by simp; omega
          clear hn hm HM hn0
          go_region_with (go_at_call 79; (with_reducible refine (HC.out _).mono ?_); rintro e w1 ⟨rfl, hw1⟩)
          clear e1 e2 e3 e4 e5 e6 e7 e8
          go_wp2
          go_ret2
          have h2 : putE s i j n = 0 := by rw [HE.out, if_neg (by have := HB.out; omega)]
          refine ⟨?_, (Below.refl _ w).drew.trans hw1⟩
          rw [putS_ok s i j n H0.out HB.out, h2, ← HXe.out]
          have e : str ((lst s).take i ++ toLE n j ++ (lst s).drop (i + j)) = s.extract 0 i ++ str (toLE n j) ++ s.extract (i + j) s.size := by
            apply lst_inj
            simp only [lst_append, lst_str, extract_str, List.drop_zero, Nat.sub_zero]
            congr 1
            rw [List.take_of_length_le]
            simp [lst_length]
          rw [e]; rfl
  · have hE : putE s i k n = roomE s i k := by simp [putE, h0]
    rw [show putS s i k n = ByteArray.empty by simp [putS, hE, h0], hE]
    have h0' : (roomE s i k != 0) = true := by simpa using h0
    have H := Lib.hid C; clear C hE h0
    go_enter Try.func61, Try.ntmps61
    go_wp2_with (with_reducible refine H.out.mono ?_; rintro e w' ⟨rfl, rfl⟩)
    go_ret2
    exact ⟨rfl, Below.refl _ _⟩

end Go.Proofs.Ytokpkkjgagbpfaa
namespace Go.Proofs.Ytokpkkjgagbpfaa
open Go.RowKit Bw
set_option linter.unusedVariables false


set_option maxHeartbeats 400000 in
theorem ref1_Pad (s : ByteArray) (n : Int) (w : World) (hs : s.size ≤ 1099511627776) :
    Calls Try.prog 60 #[.string s, .int .i64 n] w fun e w' =>
      e = .returned (.tuple #[.string (padS s n), .int .i64 (padE s n)]) ∧ Below w.heap.size w w' := by
  by_cases h0 : n < 0
  · have E : padE s n = 1 := by simp [padE, h0]
    rw [show padS s n = ByteArray.empty by simp [padS, E], E]
    clear E
    go_enter Try.func60, Try.ntmps60
    go_wp2_with fail
    go_ret2
    exact ⟨rfl, Below.refl _ _⟩
  by_cases h1 : 65536 < n
  · have E : padE s n = 1 := by simp [padE, h1]
    rw [show padS s n = ByteArray.empty by simp [padS, E], E]
    clear E
    go_enter Try.func60, Try.ntmps60
    go_wp2_with fail
    go_ret2
    exact ⟨rfl, Below.refl _ _⟩
  by_cases h2 : n < s.size
  · have E : padE s n = 2 := by simp [padE, h2]; omega
    rw [show padS s n = ByteArray.empty by simp [padS, E], E]
    clear E
    go_enter Try.func60, Try.ntmps60
    go_wp2_with fail
    go_ret2
    exact ⟨rfl, Below.refl _ _⟩
  obtain ⟨n, rfl⟩ := Int.eq_ofNat_of_zero_le (show 0 ≤ n by omega)
  have E : padE s n = 0 := by simp [padE]; omega
  have hz : ∀ k, toLE 0 k = List.replicate k 0 := by
    intro k
    induction k with
    | zero => rfl
    | succ k ih => rw [toLE, show 0 / 256 = 0 from rfl, ih]; rfl
  have e1 : padS s n = s ++ str (toLE 0 (n - s.size)) := by
    simp only [padS, E, if_true, Int.toNat_natCast]
    apply lst_inj
    rw [lst_str, lst_append, lst_str, hz]
  rw [e1, E]
  have hX : (str (toLE 0 (n - s.size))).size ≤ 65536 := by rw [size_str, toLE_length]; omega
  have hc : ∀ K w, K = (n : Int) - s.size → Calls Try.prog 79 #[.int .u64 0, .int .i64 K] w fun e w' => e = .returned (.string (str (toLE 0 (n - s.size)))) ∧ Below w.heap.size w w' :=
    fun K w hK => ref1_little (n - s.size) 0 K w (by omega) (by omega) (by omega) (by omega)
  have HC := Lib.hid (hc _ w rfl); clear hc e1 E hz
  generalize str (toLE 0 (n - s.size)) = X at *
  go_enter Try.func60, Try.ntmps60
  go_wp2_with (with_reducible refine HC.out.mono ?_; rintro e w1 ⟨rfl, hw1⟩)
  go_ret2
  exact ⟨rfl, hw1⟩

/-- The bytes without their last one, which is 0. -/
theorem bare_less (s : ByteArray) (n : Nat) (h : s.size = n + 1) (hz : s[n] = 0) : bareS s = bareS (s.extract 0 n) := by
  have := bare_step s n (by omega) (by rw [List.take_of_length_le (by rw [lst_length]; omega)]) hz
  rw [bareS, bareS, extract_str, lst_str, this]
  simp

theorem bare_same (s : ByteArray) (n : Nat) (h : s.size = n + 1) (hz : s[n] ≠ 0) : bareS s = s := by
  rw [bare_stop s (n + 1) (by omega) (by rw [List.take_of_length_le (by rw [lst_length]; omega)]) (.inr ⟨by omega, by omega, hz⟩), ← h]
  simp

theorem bare_empty (s : ByteArray) (h : s.size = 0) : bareS s = s := by
  have : lst s = [] := List.eq_nil_of_length_eq_zero (by rw [lst_length, h])
  rw [bareS, this]; apply lst_inj; rw [lst_str, this]; rfl

theorem toList_lst (s : ByteArray) : s.toList = lst s := ByteArray.toList_eq s


end Go.Proofs.Ytokpkkjgagbpfaa
