import Derived.Test.YtoogmpoahnjfkaaFieldWalk4
namespace Go.Proofs.Ytoogmpoahnjfkaa
open Go.RowKit Bw
set_option linter.unusedVariables false

theorem getD_at (s : ByteArray) (i : Nat) (h : i < s.size) : (lst s).getD i 0 = s[i] := by
  rw [lst_getElem s i h, List.getD_eq_getElem?_getD, List.getElem?_eq_getElem (by rw [lst_length]; exact h)]; rfl

theorem extract_str (s : ByteArray) (i j : Nat) : s.extract i j = str (((lst s).drop i).take (j - i)) := by
  have := ByteArray.extract_mk (lst s) i j
  have e : (ByteArray.mk (lst s).toArray) = s := str_lst s
  rw [e] at this
  exact this

set_option maxHeartbeats 400000 in
theorem field_Text (s : ByteArray) (i : Int) (w : World) (hs : s.size ≤ 1099511627776) :
    Calls Try.prog 15 #[.string s, .int .i64 i] w fun e w' =>
      e = .returned (.tuple #[.string (textS s i), .int .i64 (textTo s i), .int .i64 (textE s i)]) ∧ w = w' := by
  have C := field_place s i w
  by_cases h0 : i < 0 ∨ (s.size : Int) < i
  · have P : placeE s i = 1 := by simp [placeE, h0]
    have E : textE s i = 1 := by simp [textE, h0]
    rw [show textS s i = ByteArray.empty by simp [textS, E], show textTo s i = 0 by simp [textTo, E], E]
    rw [P] at C
    clear h0 E P
    have H := Lib.hid C; clear C
    go_enter Try.func15, Try.ntmps15
    go_wp2_with (with_reducible refine H.out.mono ?_; rintro e w' ⟨rfl, rfl⟩)
    go_ret3
    exact ⟨rfl, rfl⟩
  · have P : placeE s i = 0 := by simp [placeE, h0]
    have h1 : 0 ≤ i := by omega
    obtain ⟨i, rfl⟩ := Int.eq_ofNat_of_zero_le h1
    have h2 : i ≤ s.size := by omega
    clear h0
    rw [P] at C
    have H := Lib.hid C; clear C P
    by_cases h3 : i = s.size
    · have E : textE s i = 3 := by simp [textE]; omega
      rw [show textS s i = ByteArray.empty by simp [textS, E], show textTo s i = 0 by simp [textTo, E], E]
      clear E
      have h3' : ((i : Int) == (s.size : Int)) = true := by simp; omega
      clear h3
      go_enter Try.func15, Try.ntmps15
      go_wp2_with (with_reducible refine H.out.mono ?_; rintro e w' ⟨rfl, rfl⟩)
      go_ret3
      exact ⟨rfl, rfl⟩
    · have h4 : i < s.size := by omega
      have h3' : ((i : Int) == (s.size : Int)) = false := by simp; omega
      clear h3
      have hD := getD_at s i h4
      have hb : s[i].toNat < 256 := s[i].toNat_lt
      by_cases h5 : (s.size : Int) - i - 1 < (s[i].toNat : Int)
      · have E : textE s i = 3 := by simp only [textE, Int.toNat_natCast, hD]; rw [if_neg (by omega), if_pos (by omega)]
        rw [show textS s i = ByteArray.empty by simp [textS, E], show textTo s i = 0 by simp [textTo, E], E]
        clear E hD
        go_enter Try.func15, Try.ntmps15
        go_wp2_with (with_reducible refine H.out.mono ?_; rintro e w' ⟨rfl, rfl⟩)
        go_ret3
        exact ⟨rfl, rfl⟩
      · have E : textE s i = 0 := by simp only [textE, Int.toNat_natCast, hD]; rw [if_neg (by omega), if_neg (by omega)]
        have e1 : textS s i = s.extract (i + 1) (i + 1 + s[i].toNat) := by
          simp only [textS, E, if_true, Int.toNat_natCast, hD]
          rw [extract_str]; congr 2; omega
        have e2 : textTo s i = (i : Int) + 1 + (s[i].toNat : Int) := by simp only [textTo, E, if_true, Int.toNat_natCast, hD]
        rw [e1, e2, E]
        clear e1 e2 E hD
        go_enter Try.func15, Try.ntmps15
        go_wp2_with (with_reducible refine H.out.mono ?_; rintro e w' ⟨rfl, rfl⟩)
        go_ret3
        exact ⟨rfl, rfl⟩

set_option maxHeartbeats 400000 in
theorem field_Pad (s : ByteArray) (n : Int) (w : World) (hs : s.size ≤ 1099511627776) :
    Calls Try.prog 21 #[.string s, .int .i64 n] w fun e w' =>
      e = .returned (.tuple #[.string (padS s n), .int .i64 (padE s n)]) ∧ Below w.heap.size w w' := by
  by_cases h0 : n < 0
  · have E : padE s n = 1 := by simp [padE, h0]
    rw [show padS s n = ByteArray.empty by simp [padS, E], E]
    clear E
    go_enter Try.func21, Try.ntmps21
    go_wp2
    go_ret2
    exact ⟨rfl, Below.refl _ _⟩
  by_cases h1 : 65536 < n
  · have E : padE s n = 1 := by simp [padE, h1]
    rw [show padS s n = ByteArray.empty by simp [padS, E], E]
    clear E
    go_enter Try.func21, Try.ntmps21
    go_wp2
    go_ret2
    exact ⟨rfl, Below.refl _ _⟩
  by_cases h2 : n < s.size
  · have E : padE s n = 2 := by simp [padE, h2]; omega
    rw [show padS s n = ByteArray.empty by simp [padS, E], E]
    clear E
    go_enter Try.func21, Try.ntmps21
    go_wp2
    go_ret2
    exact ⟨rfl, Below.refl _ _⟩
  obtain ⟨n, rfl⟩ := Int.eq_ofNat_of_zero_le (show 0 ≤ n by omega)
  have E : padE s n = 0 := by simp [padE]; omega
  have e1 : padS s n = str (lst s ++ List.replicate (n - s.size) 0) := by simp [padS, E]
  rw [e1, E]
  clear e1 E
  obtain ⟨m, hm⟩ : ∃ m, n = s.size + m := ⟨n - s.size, by omega⟩
  subst hm
  have e : s ++ str (List.replicate m 0) = str (lst s ++ List.replicate (s.size + m - s.size) 0) := by
    rw [show s.size + m - s.size = m by omega]
    apply lst_inj
    simp [lst, str]
  rw [← e]
  clear e
  have hz : (str (List.replicate m 0)).size = m := by rw [size_str, List.length_replicate]
  have HZ := Lib.hid hz; clear hz
  have hsz2 : (str (List.replicate m 0)).size ≤ 65536 := by have := HZ.out; omega
  generalize hX : str (List.replicate m 0) = X at *
  have HX := Lib.hid hX; clear hX
  go_enter Try.func21, Try.ntmps21
  go_wp2_with (first
    | (with_reducible refine wpList_makeBytes rfl _ _ 47 5 rfl Try.underlying47 u8info _ _ _ _ m rfl rfl ?a1 ?a2 ?a0 w.heap.size w (Below.refl _ _) (Nat.le_refl _) ?_; rotate_right; intro g1 w1 hb1 hw1 hw1' hg1 hg1')
    | (with_reducible refine wpList_toString rfl _ 47 9 5 rfl Try.underlying47 Try.underlying9 Try.underlying5 (List.replicate m 0) g1 0 m m rfl ?d2 hb1 ?_; rotate_right; rw [HX.out]))
  case a0 => omega
  case a1 => omega
  case a2 => omega
  go_wp2
  go_ret2
  exact ⟨rfl, hw1⟩
end Go.Proofs.Ytoogmpoahnjfkaa
