import Derived.Test.YtibeeomeafakgaaFieldWalk4
namespace Go.Proofs.Ytibeeomeafakgaa
open Go.RowKit Bw
set_option linter.unusedVariables false

theorem getD_at (s : ByteArray) (i : Nat) (h : i < s.size) : (lst s).getD i 0 = s[i] := by
  rw [lst_getElem s i h, List.getD_eq_getElem?_getD, List.getElem?_eq_getElem (by rw [lst_length]; exact h)]; rfl

theorem extract_str (s : ByteArray) (i j : Nat) : s.extract i j = str (((lst s).drop i).take (j - i)) := by
  have := ByteArray.extract_mk (lst s) i j
  have e : (ByteArray.mk (lst s).toArray) = s := str_lst s
  rw [e] at this
  exact this

set_option maxHeartbeats 400000 in
theorem field_Text (s : ByteArray) (i : Int) (w : World) (hs : s.size ≤ 1099511627776) :
    Calls Try.prog 53 #[.string s, .int .i64 i] w fun e w' =>
      e = .returned (.tuple #[.string (textS s i), .int .i64 (textTo s i), .int .i64 (textE s i)]) ∧ w = w' := by
  have C := field_place s i w
  by_cases h0 : i < 0 ∨ (s.size : Int) < i
  · have P : placeE s i = 1 := by simp [placeE, h0]
    have E : textE s i = 1 := by simp [textE, h0]
    rw [show textS s i = ByteArray.empty by simp [textS, E], show textTo s i = 0 by simp [textTo, E], E]
    rw [P] at C
    clear h0 E P
    have H := Lib.hid C; clear C
    go_enter Try.func53, Try.ntmps53
    go_wp2_with (with_reducible refine H.out.mono ?_; rintro e w' ⟨rfl, rfl⟩)
    go_ret3
    exact ⟨rfl, rfl⟩
  · have P : placeE s i = 0 := by simp [placeE, h0]
    have h1 : 0 ≤ i := by omega
    obtain ⟨i, rfl⟩ := Int.eq_ofNat_of_zero_le h1
    have h2 : i ≤ s.size := by omega
    clear h0
    rw [P] at C
    have H := Lib.hid C; clear C P
    by_cases h3 : i = s.size
    · have E : textE s i = 3 := by simp [textE]; omega
      rw [show textS s i = ByteArray.empty by simp [textS, E], show textTo s i = 0 by simp [textTo, E], E]
      clear E
      have h3' : ((i : Int) == (s.size : Int)) = true := by simp; omega
      clear h3
      go_enter Try.func53, Try.ntmps53
      go_wp2_with (with_reducible refine H.out.mono ?_; rintro e w' ⟨rfl, rfl⟩)
      go_ret3
      exact ⟨rfl, rfl⟩
    · have h4 : i < s.size := by omega
      have h3' : ((i : Int) == (s.size : Int)) = false := by simp; omega
      clear h3
      have hD := getD_at s i h4
      have hb : s[i].toNat < 256 := s[i].toNat_lt
      by_cases h5 : (s.size : Int) - i - 1 < (s[i].toNat : Int)
      · have E : textE s i = 3 := by simp only [textE, Int.toNat_natCast, hD]; rw [if_neg (by omega), if_pos (by omega)]
        rw [show textS s i = ByteArray.empty by simp [textS, E], show textTo s i = 0 by simp [textTo, E], E]
        clear E hD
        go_enter Try.func53, Try.ntmps53
        go_wp2_with (with_reducible refine H.out.mono ?_; rintro e w' ⟨rfl, rfl⟩)
        go_ret3
        exact ⟨rfl, rfl⟩
      · have E : textE s i = 0 := by simp only [textE, Int.toNat_natCast, hD]; rw [if_neg (by omega), if_neg (by omega)]
        have e1 : textS s i = s.extract (i + 1) (i + 1 + s[i].toNat) := by
          simp only [textS, E, if_true, Int.toNat_natCast, hD]
          rw [extract_str]; congr 2; omega
        have e2 : textTo s i = (i : Int) + 1 + (s[i].toNat : Int) := by simp only [textTo, E, if_true, Int.toNat_natCast, hD]
        rw [e1, e2, E]
        clear e1 e2 E hD
        go_enter Try.func53, Try.ntmps53
        go_wp2_with (with_reducible refine H.out.mono ?_; rintro e w' ⟨rfl, rfl⟩)
        go_ret3
        exact ⟨rfl, rfl⟩


end Go.Proofs.Ytibeeomeafakgaa
