import Derived.Test.YtiekjjejoekdeaaRef1Walk3
namespace Go.Proofs.Ytiekjjejoekdeaa
open Go.RowKit Bw
set_option linter.unusedVariables false


set_option maxHeartbeats 400000 in
theorem ref1_Pad (s : ByteArray) (n : Int) (w : World) (hs : s.size ≤ 1099511627776) :
    Calls Try.prog 25 #[.string s, .int .i64 n] w fun e w' =>
      e = .returned (.tuple #[.string (padS s n), .int .i64 (padE s n)]) ∧ Below w.heap.size w w' := by
  by_cases h0 : n < 0
  · have E : padE s n = 1 := by simp [padE, h0]
    rw [show padS s n = ByteArray.empty by simp [padS, E], E]
    clear E
    go_enter Try.func25, Try.ntmps25
    go_wp2_with fail
    go_ret2
    exact ⟨rfl, Below.refl _ _⟩
  by_cases h1 : 65536 < n
  · have E : padE s n = 1 := by simp [padE, h1]
    rw [show padS s n = ByteArray.empty by simp [padS, E], E]
    clear E
    go_enter Try.func25, Try.ntmps25
    go_wp2_with fail
    go_ret2
    exact ⟨rfl, Below.refl _ _⟩
  by_cases h2 : n < s.size
  · have E : padE s n = 2 := by simp [padE, h2]; omega
    rw [show padS s n = ByteArray.empty by simp [padS, E], E]
    clear E
    go_enter Try.func25, Try.ntmps25
    go_wp2_with fail
    go_ret2
    exact ⟨rfl, Below.refl _ _⟩
  obtain ⟨n, rfl⟩ := Int.eq_ofNat_of_zero_le (show 0 ≤ n by omega)
  have E : padE s n = 0 := by simp [padE]; omega
  have hz : ∀ k, toLE 0 k = List.replicate k 0 := by
    intro k
    induction k with
    | zero => rfl
    | succ k ih => rw [toLE, show 0 / 256 = 0 from rfl, ih]; rfl
  have e1 : padS s n = s ++ str (toLE 0 (n - s.size)) := by
    simp only [padS, E, if_true, Int.toNat_natCast]
    apply lst_inj
    rw [lst_str, lst_append, lst_str, hz]
  rw [e1, E]
  have hX : (str (toLE 0 (n - s.size))).size ≤ 65536 := by rw [size_str, toLE_length]; omega
  have hc : ∀ K w, K = (n : Int) - s.size → Calls Try.prog 41 #[.int .u64 0, .int .i64 K] w fun e w' => e = .returned (.string (str (toLE 0 (n - s.size)))) ∧ Below w.heap.size w w' :=
    fun K w hK => ref1_little (n - s.size) 0 K w (by omega) (by omega) (by omega) (by omega)
  have HC := Lib.hid (hc _ w rfl); clear hc e1 E hz
  generalize str (toLE 0 (n - s.size)) = X at *
  go_enter Try.func25, Try.ntmps25
  go_wp2_with (with_reducible refine HC.out.mono ?_; rintro e w1 ⟨rfl, hw1⟩)
  go_ret2
  exact ⟨rfl, hw1⟩

/-- The bytes without their last one, which is 0. -/
theorem bare_less (s : ByteArray) (n : Nat) (h : s.size = n + 1) (hz : s[n] = 0) : bareS s = bareS (s.extract 0 n) := by
  have := bare_step s n (by omega) (by rw [List.take_of_length_le (by rw [lst_length]; omega)]) hz
  rw [bareS, bareS, extract_str, lst_str, this]
  simp

theorem bare_same (s : ByteArray) (n : Nat) (h : s.size = n + 1) (hz : s[n] ≠ 0) : bareS s = s := by
  rw [bare_stop s (n + 1) (by omega) (by rw [List.take_of_length_le (by rw [lst_length]; omega)]) (.inr ⟨by omega, by omega, hz⟩), ← h]
  simp

theorem bare_empty (s : ByteArray) (h : s.size = 0) : bareS s = s := by
  have : lst s = [] := List.eq_nil_of_length_eq_zero (by rw [lst_length, h])
  rw [bareS, this]; apply lst_inj; rw [lst_str, this]; rfl

theorem toList_lst (s : ByteArray) : s.toList = lst s := ByteArray.toList_eq s


end Go.Proofs.Ytiekjjejoekdeaa
