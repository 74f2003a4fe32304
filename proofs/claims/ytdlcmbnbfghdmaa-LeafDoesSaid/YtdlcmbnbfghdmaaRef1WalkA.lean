import Derived.Test.YtdlcmbnbfghdmaaFieldWalkA
import Derived.Deep.RegionWith
namespace Go.Proofs.Ytdlcmbnbfghdmaa
open Go.RowKit Bw
set_option linter.unusedVariables false

/-- One byte more, from behind. -/
theorem ref_get_step (s : ByteArray) (i j k : Nat) (hk : k ≤ 8) (hj : j < k) (h : i + j < s.size) (hik : i + k ≤ s.size) :
    Bw.le ((((Bw.lst s).drop i).take k).drop j) = s[i + j].toNat + 256 * Bw.le ((((Bw.lst s).drop i).take k).drop (j + 1)) ∧ Bw.le ((((Bw.lst s).drop i).take k).drop j) < 18446744073709551616 := by
  have hl : (((Bw.lst s).drop i).take k).length = k := by simp [Bw.lst_length]; omega
  constructor
  · have e : (((Bw.lst s).drop i).take k)[j]'(by omega) = s[i + j] := by
      rw [List.getElem_take, List.getElem_drop, Bw.lst_getElem]
    rw [List.drop_eq_getElem_cons (by omega), Bw.le, e]
  · have h1 := Bw.le_lt ((((Bw.lst s).drop i).take k).drop j)
    have h2 : ((((Bw.lst s).drop i).take k).drop j).length ≤ 8 := by rw [List.length_drop, hl]; omega
    have h3 : (256 : Nat) ^ ((((Bw.lst s).drop i).take k).drop j).length ≤ 256 ^ 8 := Nat.pow_le_pow_right (by omega) h2
    omega


end Go.Proofs.Ytdlcmbnbfghdmaa
namespace Go.Proofs.Ytdlcmbnbfghdmaa
open Go.RowKit Bw
set_option linter.unusedVariables false

theorem bcell {W w1 : World} (hb : Below W.heap.size W w1) : (∀ b o, b < W.heap.size → w1.cell? ⟨b, o, none⟩ = W.cell? ⟨b, o, none⟩) ∧ (∀ b o, b < W.heap.size → w1.frozen? ⟨b, o, none⟩ = W.frozen? ⟨b, o, none⟩) :=
  ⟨fun b o h => hb.cell (p := ⟨b, o, none⟩) h, fun b o h => hb.frozen (p := ⟨b, o, none⟩) h⟩

theorem conv_one (x : Int) (g : Nat) (w : World) (hc : w.cell? ⟨g, 0, none⟩ = some (.int .u8 (IntKind.u8.wrap x))) :
    (convert 78 9 (.slice (some ⟨g, 0, none⟩) 1 1)).run Try.prog w = .ok (.string (str [UInt8.ofNat (x % 256).toNat])) w := by
  have := run_convert_bytes_back (P := Try.prog) w 78 9 5 ⟨g, 0, none⟩ 1 [UInt8.ofNat (x % 256).toNat] Try.underlying78 Try.underlying5 Try.underlying9 (fun j hj => by
    have hj0 : j = 0 := by simpa using hj
    subst hj0
    have e : (UInt8.ofNat (x % 256).toNat).toNat = (x % 256).toNat % 256 := UInt8.toNat_ofNat'
    rw [add_none, hc, IntKind.wrap_u8]
    simp only [List.getElem_cons_zero, e]
    congr 2; omega)
  exact this

theorem conv_plain (x : Int) (h0 : 0 ≤ x) (h1 : x < 256) (g : Nat) (w : World) (hc : w.cell? ⟨g, 0, none⟩ = some (.int .u8 x)) :
    (convert 78 9 (.slice (some ⟨g, 0, none⟩) 1 1)).run Try.prog w = .ok (.string (str [UInt8.ofNat (x % 256).toNat])) w :=
  conv_one x g w (by rw [hc, IntKind.wrap_u8]; congr 2; omega)

set_option maxHeartbeats 400000 in
theorem ref1_little (k : Nat) : ∀ (n K : Int) (w : World), 0 ≤ n → n < 18446744073709551616 → K = k → k ≤ 1099511627776 →
    Calls Try.prog 57 #[.int .u64 n, .int .i64 K] w fun e w' => e = .returned (.string (str (toLE n.toNat k))) ∧ Below w.heap.size w w' := by
  induction k with
  | zero =>
    intro n K w hn0 hn hK hk
    subst hK
    have h0 : (((0 : Nat) : Int) == 0) = true := rfl
    go_enter Try.func57, Try.ntmps57
    go_wp2_with fail
    go_ret
    exact ⟨rfl, Below.refl _ _⟩
  | succ k ih =>
    intro n K w hn0 hn hK hk
    have h0 : (K == 0) = false := by simp; omega
    have hc : ∀ w, Calls Try.prog 57 #[.int .u64 (n / 256), .int .i64 (K - 1)] w fun e w' => e = .returned (.string (str (toLE (n / 256).toNat k))) ∧ Below w.heap.size w w' :=
      fun w => ih (n / 256) (K - 1) w (by omega) (by omega) (by omega) (by omega)
    have e1 : IntKind.u64.wrap (n.tdiv 256) = n / 256 := by rw [Int.tdiv_eq_ediv_of_nonneg hn0]; exact IntWalk.u64_in _ ⟨by omega, by omega⟩
    have e2 : IntKind.i64.wrap (K - 1) = K - 1 := IntWalk.i64_in _ ⟨by omega, by omega⟩
    have E1 := Lib.hid e1
    have E2 := Lib.hid e2
    clear e1 e2
    have e3 : str (toLE n.toNat (k + 1)) = str [UInt8.ofNat (n.tmod 256 % 256).toNat] ++ str (toLE (n / 256).toNat k) := by
      apply lst_inj
      rw [Int.tmod_eq_emod_of_nonneg hn0]
      have h2 : UInt8.ofNat (n % 256 % 256).toNat = UInt8.ofNat n.toNat := by
        apply UInt8.toNat_inj.1
        have e : ∀ m, (UInt8.ofNat m).toNat = m % 256 := fun m => UInt8.toNat_ofNat'
        rw [e, e]; omega
      rw [h2, lst_append, lst_str, lst_str, lst_str, toLE, show n.toNat / 256 = (n / 256).toNat by omega]
      rfl
    rw [e3]
    have hX : (str (toLE (n / 256).toNat k)).size ≤ 1099511627776 := by rw [size_str, toLE_length]; omega
    have hY : (str [UInt8.ofNat (n.tmod 256 % 256).toNat]).size ≤ 1 := Nat.le_refl _
    have hcv := conv_one (n.tmod 256)
    generalize str (toLE (n / 256).toNat k) = X at *
    generalize str [UInt8.ofNat (n.tmod 256 % 256).toNat] = Y at *
    clear e3 hK hk ih
    have HI := Lib.hid hc; clear hc
    go_enter Try.func57, Try.ntmps57
    go_wp2_with fail
    have e1 := E1.out
    have e2 := E2.out
    clear E1 E2 hn hn0
    go_region_with (go_at_call 57; (with_reducible refine (HI.out _).mono ?_); rintro e w1 ⟨rfl, hw1⟩; obtain ⟨hcc, hff⟩ := bcell hw1)
    all_goals
      clear e1 e2 hcv
      go_wp2
      go_ret
      first
        | exact ⟨rfl, (((Below.refl _ w).alloc (Nat.le_refl _) _).drew).trans (hw1.mono (by simp))⟩
        | exact ⟨rfl, ((Below.refl _ w).drew.trans hw1).alloc hw1.size _⟩
end Go.Proofs.Ytdlcmbnbfghdmaa
namespace Go.Proofs.Ytdlcmbnbfghdmaa
open Go.RowKit Bw
set_option linter.unusedVariables false

theorem div_step (n j : Nat) : n / 256 ^ j / 256 = n / 256 ^ (j + 1) := by rw [Nat.div_div_eq_div_mul, Nat.pow_succ]


end Go.Proofs.Ytdlcmbnbfghdmaa
namespace Go.Proofs.Ytdlcmbnbfghdmaa
open Go.RowKit Bw
set_option linter.unusedVariables false

set_option maxHeartbeats 400000 in
theorem ref1_Text (s : ByteArray) (i : Int) (w : World) (hs : s.size ≤ 1099511627776) :
    Calls Try.prog 41 #[.string s, .int .i64 i] w fun e w' =>
      e = .returned (.tuple #[.string (textS s i), .int .i64 (textTo s i), .int .i64 (textE s i)]) ∧ w = w' := by
  by_cases h0 : i < 0
  · have E : textE s i = 1 := by simp [textE, h0]
    rw [show textS s i = ByteArray.empty by simp [textS, E], show textTo s i = 0 by simp [textTo, E], E]
    clear E
    go_enter Try.func41, Try.ntmps41
    go_wp2
    go_ret3
    exact ⟨rfl, rfl⟩
  by_cases h1 : (s.size : Int) < i
  · have E : textE s i = 1 := by simp [textE, h1]
    rw [show textS s i = ByteArray.empty by simp [textS, E], show textTo s i = 0 by simp [textTo, E], E]
    clear E
    go_enter Try.func41, Try.ntmps41
    go_wp2
    go_ret3
    exact ⟨rfl, rfl⟩
  obtain ⟨i, rfl⟩ := Int.eq_ofNat_of_zero_le (show 0 ≤ i by omega)
  by_cases h3 : i = s.size
  · have E : textE s i = 3 := by simp [textE]; omega
    rw [show textS s i = ByteArray.empty by simp [textS, E], show textTo s i = 0 by simp [textTo, E], E]
    clear E
    have h3' : ((i : Int) == (s.size : Int)) = true := by simp; omega
    clear h3
    go_enter Try.func41, Try.ntmps41
    go_wp2
    go_ret3
    exact ⟨rfl, rfl⟩
  have h4 : i < s.size := by omega
  have h3' : ((i : Int) == (s.size : Int)) = false := by simp; omega
  clear h3
  have hD := getD_at s i h4
  have hb : s[i].toNat < 256 := s[i].toNat_lt
  by_cases h5 : (s.size : Int) < i + 1 + (s[i].toNat : Int)
  · have E : textE s i = 3 := by simp only [textE, Int.toNat_natCast, hD]; rw [if_neg (by omega), if_pos (by omega)]
    rw [show textS s i = ByteArray.empty by simp [textS, E], show textTo s i = 0 by simp [textTo, E], E]
    clear E hD
    go_enter Try.func41, Try.ntmps41
    go_wp2
    go_ret3
    exact ⟨rfl, rfl⟩
  · have E : textE s i = 0 := by simp only [textE, Int.toNat_natCast, hD]; rw [if_neg (by omega), if_neg (by omega)]
    have e1 : textS s i = s.extract (i + 1) (i + 1 + s[i].toNat) := by
      simp only [textS, E, if_true, Int.toNat_natCast, hD]
      rw [extract_str]; congr 2; omega
    have e2 : textTo s i = (i : Int) + 1 + (s[i].toNat : Int) := by simp only [textTo, E, if_true, Int.toNat_natCast, hD]
    rw [e1, e2, E]
    clear e1 e2 E hD
    go_enter Try.func41, Try.ntmps41
    go_wp2
    go_ret3
    exact ⟨rfl, rfl⟩

set_option maxHeartbeats 400000 in
theorem ref1_Pad (s : ByteArray) (n : Int) (w : World) (hs : s.size ≤ 1099511627776) :
    Calls Try.prog 33 #[.string s, .int .i64 n] w fun e w' =>
      e = .returned (.tuple #[.string (padS s n), .int .i64 (padE s n)]) ∧ Below w.heap.size w w' := by
  by_cases h0 : n < 0
  · have E : padE s n = 1 := by simp [padE, h0]
    rw [show padS s n = ByteArray.empty by simp [padS, E], E]
    clear E
    go_enter Try.func33, Try.ntmps33
    go_wp2_with fail
    go_ret2
    exact ⟨rfl, Below.refl _ _⟩
  by_cases h1 : 65536 < n
  · have E : padE s n = 1 := by simp [padE, h1]
    rw [show padS s n = ByteArray.empty by simp [padS, E], E]
    clear E
    go_enter Try.func33, Try.ntmps33
    go_wp2_with fail
    go_ret2
    exact ⟨rfl, Below.refl _ _⟩
  by_cases h2 : n < s.size
  · have E : padE s n = 2 := by simp [padE, h2]; omega
    rw [show padS s n = ByteArray.empty by simp [padS, E], E]
    clear E
    go_enter Try.func33, Try.ntmps33
    go_wp2_with fail
    go_ret2
    exact ⟨rfl, Below.refl _ _⟩
  obtain ⟨n, rfl⟩ := Int.eq_ofNat_of_zero_le (show 0 ≤ n by omega)
  have E : padE s n = 0 := by simp [padE]; omega
  have hz : ∀ k, toLE 0 k = List.replicate k 0 := by
    intro k
    induction k with
    | zero => rfl
    | succ k ih => rw [toLE, show 0 / 256 = 0 from rfl, ih]; rfl
  have e1 : padS s n = s ++ str (toLE 0 (n - s.size)) := by
    simp only [padS, E, if_true, Int.toNat_natCast]
    apply lst_inj
    rw [lst_str, lst_append, lst_str, hz]
  rw [e1, E]
  have hX : (str (toLE 0 (n - s.size))).size ≤ 65536 := by rw [size_str, toLE_length]; omega
  have hc : ∀ K w, K = (n : Int) - s.size → Calls Try.prog 57 #[.int .u64 0, .int .i64 K] w fun e w' => e = .returned (.string (str (toLE 0 (n - s.size)))) ∧ Below w.heap.size w w' :=
    fun K w hK => ref1_little (n - s.size) 0 K w (by omega) (by omega) (by omega) (by omega)
  have HC := Lib.hid (hc _ w rfl); clear hc e1 E hz
  generalize str (toLE 0 (n - s.size)) = X at *
  go_enter Try.func33, Try.ntmps33
  go_wp2_with (with_reducible refine HC.out.mono ?_; rintro e w1 ⟨rfl, hw1⟩)
  go_ret2
  exact ⟨rfl, hw1⟩

/-- The bytes without their last one, which is 0. -/
theorem bare_less (s : ByteArray) (n : Nat) (h : s.size = n + 1) (hz : s[n] = 0) : bareS s = bareS (s.extract 0 n) := by
  have := bare_step s n (by omega) (by rw [List.take_of_length_le (by rw [lst_length]; omega)]) hz
  rw [bareS, bareS, extract_str, lst_str, this]
  simp

theorem bare_same (s : ByteArray) (n : Nat) (h : s.size = n + 1) (hz : s[n] ≠ 0) : bareS s = s := by
  rw [bare_stop s (n + 1) (by omega) (by rw [List.take_of_length_le (by rw [lst_length]; omega)]) (.inr ⟨by omega, by omega, hz⟩), ← h]
  simp

theorem bare_empty (s : ByteArray) (h : s.size = 0) : bareS s = s := by
  have : lst s = [] := List.eq_nil_of_length_eq_zero (by rw [lst_length, h])
  rw [bareS, this]; apply lst_inj; rw [lst_str, this]; rfl

theorem toList_lst (s : ByteArray) : s.toList = lst s := ByteArray.toList_eq s


end Go.Proofs.Ytdlcmbnbfghdmaa
