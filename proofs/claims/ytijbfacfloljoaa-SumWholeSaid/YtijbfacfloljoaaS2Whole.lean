import Derived.Test.YtijbfacfloljoaaSumFixed
import Derived.OpenShut
namespace Go.Proofs.Ytijbfacfloljoaa
open Go.RowKit Bw
set_option linter.unusedVariables false

def withZeros (x : ByteArray) (j : Nat) : ByteArray := str (lst x ++ List.replicate j 0)
theorem withZeros_size (x : ByteArray) (j : Nat) : (withZeros x j).size = x.size + j := by rw [withZeros, size_str, List.length_append, lst_length, List.length_replicate]
theorem withZeros_snoc (x : ByteArray) (j : Nat) : withZeros x j ++ ⟨#[0]⟩ = withZeros x (j + 1) := by
  apply lst_inj
  rw [lst_append, withZeros, lst_str, withZeros, lst_str, List.replicate_succ', List.append_assoc]; rfl
theorem withZeros_whole (x : ByteArray) (j : Nat) (h : x.size + j ≤ 252) : wholeS (withZeros x j) = wholeS x := by
  apply lst_inj
  rw [wholeS, lst_str, withZeros_size, withZeros, lst_str, wholeS, lst_str, List.append_assoc, List.replicate_append_replicate, show j + (252 - (x.size + j)) = 252 - x.size by omega]
theorem withZeros_seal (x : ByteArray) (j : Nat) (h : x.size + j ≤ 252) : sealS (withZeros x j) = sealS x := by
  have hz := withZeros_size x j
  rw [sealS, if_neg (by omega), sealS, if_neg (by omega), withZeros_whole x j h]

set_option maxHeartbeats 2000000 in
set_option maxRecDepth 100000 in
theorem whole_walk (s : ByteArray) (hs : s.size ≤ maxLen) (n : Nat) (hn : n ≤ 255) (w : World) :
    Calls Try.prog 7 #[.string s, .int .u8 n] w fun e w' => e = .returned (.bool true) ∧ Below w.heap.size w w' := by
  unfold maxLen at hs
  have hu := Up.refl w
  go_enter Try.func7, Try.ntmps7
  go_upto_region 1 with fail
  go_cut [0] (fun v wx => ∃ x : ByteArray, x.size ≤ 240 ∧ v = .string x ∧ w = wx)
  case first =>
    go_wp2_with fail
    · go_meet
      exact ⟨s.extract 0 240, by simp; omega, rfl, rfl⟩
    · go_meet
      exact ⟨s, by omega, rfl, rfl⟩
  case rest =>
    obtain ⟨x, hz, rfl, rfl⟩ := hcut
    clear hs
    have C9 := Lib.hid law2_fixed
    have h : x.size ≤ 252 := by omega
    obtain ⟨m, hm, hm2⟩ : ∃ m : Nat, m = n % 12 ∧ m ≤ 11 := ⟨n % 12, rfl, by omega⟩
    have hm3 : (n : Int) % 12 = m := by omega
    clear hm
    obtain ⟨o1, o2⟩ := open_seal h
    have hp := sealS_size h
    have c1 := fun w => sum_Seal x w (by omega)
    have hzz := withZeros_size x m
    have c2 := fun w => sum_Seal (withZeros x m) w (by omega)
    rw [withZeros_seal x m (by omega), show sealE (withZeros x m) = 0 by simp [sealE]; omega] at c2
    have c3 := fun w => sum_Open (sealS x) w (by omega)
    rw [o1, o2] at c3
    have hx : (wholeS x).extract 0 x.size = x := by
      apply lst_inj
      rw [extract_lst, wholeS, lst_str, List.drop_zero, Nat.sub_zero, List.take_append_of_le_length (by rw [lst_length]; exact Nat.le_refl _), List.take_of_length_le (by rw [lst_length]; exact Nat.le_refl _)]
    have hww := wholeS_size h
    rw [show sealE x = 0 by simp [sealE]; omega] at c1
    clear o1 o2 hzz
    have hp2 : ((sealS x).size : Int) = 256 := by rw [hp]; rfl
    have hw2 : ((wholeS x).size : Int) = 252 := by rw [hww]; rfl
    clear hp hww
    generalize sealS x = P at *
    generalize wholeS x = W at *
    have C1 := Lib.hid c1; clear c1
    have C2 := Lib.hid c2; clear c2
    have C3 := Lib.hid c3; clear c3
    have hx1 : (x.size : Int) ≤ 252 := by omega
    go_wp2_with fail
    go_loop [5, 6] (fun t i => ∃ j : Nat, j ≤ m ∧ i = .int .i64 j ∧ t = .string (withZeros x j)) (fun _ i => m - (intOf i).toNat)
    case atStart => exact ⟨0, Nat.zero_le _, rfl, by simp [withZeros, str_lst]⟩
    case round =>
      obtain ⟨j, hj, rfl, rfl⟩ := hrel
      by_cases hlt : j < m
      · have hs1 := withZeros_size x j
        have hs2 : (withZeros x j).size ≤ 300 := by omega
        have HS := Lib.hid (withZeros_snoc x j)
        clear hs1
        go_wp2_with fail
        go_round
        case rel => exact ⟨j + 1, by omega, by go_num, by rw [← HS.out]⟩
        case measure => simp [intOf]; omega
      · obtain rfl : j = m := by omega
        go_wp2_with (first
          | (with_reducible refine (C1.out _).mono ?_; rintro e w1 ⟨rfl, hw1⟩; replace hu := hu.next hw1; clear hw1)
          | (with_reducible refine (C2.out _).mono ?_; rintro e w1 ⟨rfl, hw1⟩; replace hu := hu.next hw1; clear hw1)
          | (with_reducible refine (C3.out _).mono ?_; rintro e w1 ⟨rfl, hw1⟩; replace hu := hu.next hw1; clear hw1)
          | (with_reducible refine (C9.out _).mono ?_; rintro e w1 ⟨rfl, hw1⟩; replace hu := hu.next hw1; clear hw1))
        go_ret
        exact ⟨rfl, hu⟩

theorem whole_law (s : ByteArray) (hs : s.size ≤ maxLen) (n : Int) (wn : (Lit.int .u8 n).wf = true) (w : World) :
    Calls Try.prog 7 #[.string s, .int .u8 n] w fun e w' => e = .returned (.bool true) ∧ Below w.heap.size w w' := by
  have := bounds_u8 wn
  obtain ⟨n, rfl⟩ := Int.eq_ofNat_of_zero_le this.1
  exact whole_walk s hs n (by omega) w
end Go.Proofs.Ytijbfacfloljoaa
