import Derived.Test.YtoogmpoahnjfkaaRef1Walk3
namespace Go.Proofs.Ytoogmpoahnjfkaa
open Go.RowKit Bw
set_option linter.unusedVariables false

set_option maxHeartbeats 400000 in
theorem ref1_Text (s : ByteArray) (i : Int) (w : World) (hs : s.size ≤ 1099511627776) :
    Calls Try.prog 16 #[.string s, .int .i64 i] w fun e w' =>
      e = .returned (.tuple #[.string (textS s i), .int .i64 (textTo s i), .int .i64 (textE s i)]) ∧ w = w' := by
  by_cases h0 : i < 0
  · have E : textE s i = 1 := by simp [textE, h0]
    rw [show textS s i = ByteArray.empty by simp [textS, E], show textTo s i = 0 by simp [textTo, E], E]
    clear E
    go_enter Try.func16, Try.ntmps16
    go_wp2
    go_ret3
    exact ⟨rfl, rfl⟩
  by_cases h1 : (s.size : Int) < i
  · have E : textE s i = 1 := by simp [textE, h1]
    rw [show textS s i = ByteArray.empty by simp [textS, E], show textTo s i = 0 by simp [textTo, E], E]
    clear E
    go_enter Try.func16, Try.ntmps16
    go_wp2
    go_ret3
    exact ⟨rfl, rfl⟩
  obtain ⟨i, rfl⟩ := Int.eq_ofNat_of_zero_le (show 0 ≤ i by omega)
  by_cases h3 : i = s.size
  · have E : textE s i = 3 := by simp [textE]; omega
    rw [show textS s i = ByteArray.empty by simp [textS, E], show textTo s i = 0 by simp [textTo, E], E]
    clear E
    have h3' : ((i : Int) == (s.size : Int)) = true := by simp; omega
    clear h3
    go_enter Try.func16, Try.ntmps16
    go_wp2
    go_ret3
    exact ⟨rfl, rfl⟩
  have h4 : i < s.size := by omega
  have h3' : ((i : Int) == (s.size : Int)) = false := by simp; omega
  clear h3
  have hD := getD_at s i h4
  have hb : s[i].toNat < 256 := s[i].toNat_lt
  by_cases h5 : (s.size : Int) < i + 1 + (s[i].toNat : Int)
  · have E : textE s i = 3 := by simp only [textE, Int.toNat_natCast, hD]; rw [if_neg (by omega), if_pos (by omega)]
    rw [show textS s i = ByteArray.empty by simp [textS, E], show textTo s i = 0 by simp [textTo, E], E]
    clear E hD
    go_enter Try.func16, Try.ntmps16
    go_wp2
    go_ret3
    exact ⟨rfl, rfl⟩
  · have E : textE s i = 0 := by simp only [textE, Int.toNat_natCast, hD]; rw [if_neg (by omega), if_neg (by omega)]
    have e1 : textS s i = s.extract (i + 1) (i + 1 + s[i].toNat) := by
      simp only [textS, E, if_true, Int.toNat_natCast, hD]
      rw [extract_str]; congr 2; omega
    have e2 : textTo s i = (i : Int) + 1 + (s[i].toNat : Int) := by simp only [textTo, E, if_true, Int.toNat_natCast, hD]
    rw [e1, e2, E]
    clear e1 e2 E hD
    go_enter Try.func16, Try.ntmps16
    go_wp2
    go_ret3
    exact ⟨rfl, rfl⟩

set_option maxHeartbeats 400000 in
theorem ref1_Pad (s : ByteArray) (n : Int) (w : World) (hs : s.size ≤ 1099511627776) :
    Calls Try.prog 22 #[.string s, .int .i64 n] w fun e w' =>
      e = .returned (.tuple #[.string (padS s n), .int .i64 (padE s n)]) ∧ Below w.heap.size w w' := by
  by_cases h0 : n < 0
  · have E : padE s n = 1 := by simp [padE, h0]
    rw [show padS s n = ByteArray.empty by simp [padS, E], E]
    clear E
    go_enter Try.func22, Try.ntmps22
    go_wp2_with fail
    go_ret2
    exact ⟨rfl, Below.refl _ _⟩
  by_cases h1 : 65536 < n
  · have E : padE s n = 1 := by simp [padE, h1]
    rw [show padS s n = ByteArray.empty by simp [padS, E], E]
    clear E
    go_enter Try.func22, Try.ntmps22
    go_wp2_with fail
    go_ret2
    exact ⟨rfl, Below.refl _ _⟩
  by_cases h2 : n < s.size
  · have E : padE s n = 2 := by simp [padE, h2]; omega
    rw [show padS s n = ByteArray.empty by simp [padS, E], E]
    clear E
    go_enter Try.func22, Try.ntmps22
    go_wp2_with fail
    go_ret2
    exact ⟨rfl, Below.refl _ _⟩
  obtain ⟨n, rfl⟩ := Int.eq_ofNat_of_zero_le (show 0 ≤ n by omega)
  have E : padE s n = 0 := by simp [padE]; omega
  have hz : ∀ k, toLE 0 k = List.replicate k 0 := by
    intro k
    induction k with
    | zero => rfl
    | succ k ih => rw [toLE, show 0 / 256 = 0 from rfl, ih]; rfl
  have e1 : padS s n = s ++ str (toLE 0 (n - s.size)) := by
    simp only [padS, E, if_true, Int.toNat_natCast]
    apply lst_inj
    rw [lst_str, lst_append, lst_str, hz]
  rw [e1, E]
  have hX : (str (toLE 0 (n - s.size))).size ≤ 65536 := by rw [size_str, toLE_length]; omega
  have hc : ∀ K w, K = (n : Int) - s.size → Calls Try.prog 26 #[.int .u64 0, .int .i64 K] w fun e w' => e = .returned (.string (str (toLE 0 (n - s.size)))) ∧ Below w.heap.size w w' :=
    fun K w hK => ref1_little (n - s.size) 0 K w (by omega) (by omega) (by omega) (by omega)
  have HC := Lib.hid (hc _ w rfl); clear hc e1 E hz
  generalize str (toLE 0 (n - s.size)) = X at *
  go_enter Try.func22, Try.ntmps22
  go_wp2_with (with_reducible refine HC.out.mono ?_; rintro e w1 ⟨rfl, hw1⟩)
  go_ret2
  exact ⟨rfl, hw1⟩

/-- The bytes without their last one, which is 0. -/
theorem bare_less (s : ByteArray) (n : Nat) (h : s.size = n + 1) (hz : s[n] = 0) : bareS s = bareS (s.extract 0 n) := by
  have := bare_step s n (by omega) (by rw [List.take_of_length_le (by rw [lst_length]; omega)]) hz
  rw [bareS, bareS, extract_str, lst_str, this]
  simp

theorem bare_same (s : ByteArray) (n : Nat) (h : s.size = n + 1) (hz : s[n] ≠ 0) : bareS s = s := by
  rw [bare_stop s (n + 1) (by omega) (by rw [List.take_of_length_le (by rw [lst_length]; omega)]) (.inr ⟨by omega, by omega, hz⟩), ← h]
  simp

theorem bare_empty (s : ByteArray) (h : s.size = 0) : bareS s = s := by
  have : lst s = [] := List.eq_nil_of_length_eq_zero (by rw [lst_length, h])
  rw [bareS, this]; apply lst_inj; rw [lst_str, this]; rfl

theorem toList_lst (s : ByteArray) : s.toList = lst s := ByteArray.toList_eq s

set_option maxHeartbeats 400000 in
theorem ref1_Bare (n : Nat) : ∀ (s : ByteArray) (w : World), s.size = n → n ≤ 1099511627776 →
    Calls Try.prog 20 #[.string s] w fun e w' => e = .returned (.string (bareS s)) ∧ w = w' := by
  induction n with
  | zero =>
    intro s w h hn
    rw [bare_empty s h]
    have hl : s.toList = [] := by rw [toList_lst]; exact List.eq_nil_of_length_eq_zero (by rw [lst_length, h])
    have hl2 : s.toList.isEmpty = true := by rw [hl]; rfl
    clear h
    go_enter Try.func20, Try.ntmps20
    go_wp2_with fail
    go_ret
    exact ⟨rfl, rfl⟩
  | succ n ih =>
    intro s w h hn
    have hn1 : n < s.size := by omega
    have hl : s.toList ≠ [] := by rw [toList_lst]; intro h2; have := lst_length s; rw [h2] at this; simp at this; omega
    have hl2 : s.toList.isEmpty = false := by simpa using hl
    have hle : s.size ≤ 1099511627776 := by omega
    by_cases hz : s[n] = 0
    · rw [bare_less s n h hz]
      have hc := ih (s.extract 0 n) w (by simp; omega) (by omega)
      have HC := Lib.hid hc; clear hc ih
      have hz' : ((s[n].toNat : Int) == 0) = true := by rw [hz]; rfl
      have hsz : (s.size : Int) - 1 = n := by omega
      clear h hz hl
      go_enter Try.func20, Try.ntmps20
      go_wp2_with (with_reducible refine HC.out.mono ?_; rintro e w1 ⟨rfl, rfl⟩)
      go_ret
      exact ⟨rfl, rfl⟩
    · rw [bare_same s n h hz]
      have hz' : ((s[n].toNat : Int) == 0) = false := by simp; intro h2; apply hz; apply UInt8.toNat_inj.1; simpa using h2
      have hsz : (s.size : Int) - 1 = n := by omega
      clear h hz hl ih
      go_enter Try.func20, Try.ntmps20
      go_wp2_with fail
      go_ret
      exact ⟨rfl, rfl⟩
end Go.Proofs.Ytoogmpoahnjfkaa
