import Derived.Test.YtoogmpoahnjfkaaField1Fixed
import Derived.Test.YtoogmpoahnjfkaaFieldFacts
import Derived.OpenShut
import Derived.Test.YtoogmpoahnjfkaaRegionLaw
namespace Go.Proofs.Ytoogmpoahnjfkaa
open Go.RowKit Bw
set_option linter.unusedVariables false

theorem empty_of_size {s : ByteArray} (h : s.size = 0) : s = ByteArray.empty := by
  apply lst_inj
  have : lst s = [] := List.eq_nil_of_length_eq_zero (by rw [lst_length, h])
  rw [this]; rfl

set_option maxHeartbeats 2000000 in
set_option maxRecDepth 100000 in
theorem bare_walk (s : ByteArray) (n : Nat) (w : World) (hs : s.size ≤ maxLen) (hn : n ≤ 255) :
    Calls Try.prog 6 #[.string s, .int .u8 n] w fun e w' => e = .returned (.bool true) ∧ Below w.heap.size w w' := by
  unfold maxLen at hs
  have hu := Up.refl w
  go_enter Try.func6, Try.ntmps6
  go_upto_region 1 with fail
  go_cut [0] (fun v wx => ∃ x : ByteArray, x.size ≤ 300 ∧ v = .string x ∧ w = wx)
  case first =>
    go_wp2_with fail
    · go_meet
      exact ⟨s.extract 0 300, by simp; omega, rfl, rfl⟩
    · go_meet
      exact ⟨s, by omega, rfl, rfl⟩
  case rest =>
    obtain ⟨x, hz, rfl, rfl⟩ := hcut
    clear hs
    have C5 := Lib.hid law1_fixed
    have c1 := fun w => field_Bare x w (by omega)
    obtain ⟨h1, h2, h3, h4⟩ := bareS_spec x
    have c2 := fun w => field_Pad (bareS x) x.size w (by omega)
    rw [padS_of h1 (by omega), padE_of h1 (by omega), h3] at c2
    have c3 := fun w => field_Pad (bareS x) ((bareS x).size + n : Nat) w (by omega)
    rw [padS_of (by omega) (by omega), padE_of (by omega) (by omega), show (bareS x).size + n - (bareS x).size = n by omega] at c3
    have hq : (str (lst (bareS x) ++ List.replicate n 0)).size = (bareS x).size + n := by rw [size_str, List.length_append, lst_length, List.length_replicate]
    have c4 := fun w => field_Bare (str (lst (bareS x) ++ List.replicate n 0)) w (by omega)
    rw [h2 n] at c4
    clear h2 h3
    generalize str (lst (bareS x) ++ List.replicate n 0) = X at *
    generalize bareS x = Y at *
    have e0 : ((Y.size + n : Nat) : Int) = (Y.size : Int) + (n : Int) := by omega
    rw [e0] at c3; clear e0
    have hq' : (X.size : Int) = (Y.size : Int) + (n : Int) := by omega
    have hq2 : ((X.size : Int) == (Y.size : Int) + (n : Int)) = true := by simp [hq']
    clear hq hq'
    have C1 := Lib.hid c1; clear c1
    have C2 := Lib.hid c2; clear c2
    have C3 := Lib.hid c3; clear c3
    have C4 := Lib.hid c4; clear c4
    by_cases h0 : Y.size = 0
    · obtain rfl := empty_of_size h0
      clear h0 h4
      have c3 := C3.out
      rw [show ((ByteArray.empty.size : Nat) : Int) + (n : Int) = (n : Int) by simp] at c3
      clear C3
      have C3 := Lib.hid c3; clear c3
      rw [show ((ByteArray.empty.size : Nat) : Int) + (n : Int) = (n : Int) by simp] at hq2
      go_wp2_with (first
        | (with_reducible refine (C1.out _).mono ?_; rintro e w1 ⟨rfl, rfl⟩)
        | (with_reducible refine (C2.out _).mono ?_; rintro e w1 ⟨rfl, hw1⟩; replace hu := hu.next hw1; clear hw1)
        | (with_reducible refine (C3.out _).mono ?_; rintro e w1 ⟨rfl, hw1⟩; replace hu := hu.next hw1; clear hw1)
        | (with_reducible refine (C4.out _).mono ?_; rintro e w1 ⟨rfl, rfl⟩)
        | (with_reducible refine (C5.out _).mono ?_; rintro e w1 ⟨rfl, hw1⟩; replace hu := hu.next hw1; clear hw1))
      go_ret
      exact ⟨rfl, hu⟩
    · obtain ⟨h5, h6⟩ := h4.resolve_left h0
      have h7 : Y.toList.isEmpty = false := by
        rw [toList_lst]; cases hl : lst Y with
        | nil => have := lst_length Y; rw [hl] at this; simp at this; omega
        | cons => rfl
      have h8 : ((Y[Y.size - 1].toNat : Int) != 0) = true := by simp; intro h; apply h6; apply UInt8.toNat_inj.1; simpa using h
      have h9 : 1 ≤ Y.size := by omega
      clear h0 h4 h6
      go_wp2_with (first
        | (with_reducible refine (C1.out _).mono ?_; rintro e w1 ⟨rfl, rfl⟩)
        | (with_reducible refine (C2.out _).mono ?_; rintro e w1 ⟨rfl, hw1⟩; replace hu := hu.next hw1; clear hw1)
        | (with_reducible refine (C3.out _).mono ?_; rintro e w1 ⟨rfl, hw1⟩; replace hu := hu.next hw1; clear hw1)
        | (with_reducible refine (C4.out _).mono ?_; rintro e w1 ⟨rfl, rfl⟩)
        | (with_reducible refine (C5.out _).mono ?_; rintro e w1 ⟨rfl, hw1⟩; replace hu := hu.next hw1; clear hw1))
      go_ret
      exact ⟨rfl, hu⟩

theorem bare_law (s : ByteArray) (hs : s.size ≤ maxLen) (n : Int) (wn : (Lit.int .u8 n).wf = true) (w : World) :
    Calls Try.prog 6 #[.string s, .int .u8 n] w fun e w' => e = .returned (.bool true) ∧ Below w.heap.size w w' := by
  have := bounds_u8 wn
  obtain ⟨n, rfl⟩ := Int.eq_ofNat_of_zero_le this.1
  exact bare_walk s n w hs (by omega)
end Go.Proofs.Ytoogmpoahnjfkaa
