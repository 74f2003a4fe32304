import Derived.Test.YtijbfacfloljoaaSumFixed
namespace Go.Proofs.Ytijbfacfloljoaa
open Go.RowKit Bw
set_option linter.unusedVariables false

set_option maxHeartbeats 2000000 in
set_option maxRecDepth 100000 in
theorem sback_law (s : ByteArray) (hs : s.size ≤ maxLen) (w : World) :
    Calls Try.prog 4 #[.string s] w fun e w' => e = .returned (.bool true) ∧ Below w.heap.size w w' := by
  unfold maxLen at hs
  have hu := Up.refl w
  go_enter Try.func4, Try.ntmps4
  go_upto_region 1 with fail
  go_cut [0] (fun v wx => ∃ x : ByteArray, x.size ≤ 300 ∧ v = .string x ∧ w = wx)
  case first =>
    go_wp2_with fail
    · go_meet
      exact ⟨s.extract 0 300, by simp; omega, rfl, rfl⟩
    · go_meet
      exact ⟨s, by omega, rfl, rfl⟩
  case rest =>
    obtain ⟨x, hz, rfl, rfl⟩ := hcut
    clear hs
    have C9 := Lib.hid law2_fixed
    have c1 := fun w => sum_Seal x w (by omega)
    by_cases h : x.size ≤ 252
    · obtain ⟨o1, o2⟩ := open_seal h
      have hp := sealS_size h
      have hww := wholeS_size h
      have c2 := fun w => sum_Open (sealS x) w (by omega)
      rw [o1, o2] at c2
      have c3 := fun w => ref1_Pad x (252 : Nat) w (by omega)
      rw [padE_of h (by omega), wholeS_pad h, show ((252 : Nat) : Int) = 252 from rfl] at c3
      have c4 := fun w => sum_Seal (wholeS x) w (by omega)
      have e4 : sealS (wholeS x) = sealS x := by
        have := (seal_open hp).2 (by rw [sealS_tail h, sealS_head h])
        rw [sealS_head h] at this; exact this
      rw [e4, show sealE (wholeS x) = 0 by simp [sealE, hww]] at c4
      rw [show sealE x = 0 by simp [sealE]; omega] at c1
      clear o1 o2 hp hww e4
      generalize sealS x = P at *
      generalize wholeS x = W at *
      have C1 := Lib.hid c1; clear c1
      have C2 := Lib.hid c2; clear c2
      have C3 := Lib.hid c3; clear c3
      have C4 := Lib.hid c4; clear c4
      go_wp2_with (first
        | (with_reducible refine (C1.out _).mono ?_; rintro e w1 ⟨rfl, hw1⟩; replace hu := hu.next hw1; clear hw1)
        | (with_reducible refine (C2.out _).mono ?_; rintro e w1 ⟨rfl, hw1⟩; replace hu := hu.next hw1; clear hw1)
        | (with_reducible refine (C3.out _).mono ?_; rintro e w1 ⟨rfl, hw1⟩; replace hu := hu.next hw1; clear hw1)
        | (with_reducible refine (C4.out _).mono ?_; rintro e w1 ⟨rfl, hw1⟩; replace hu := hu.next hw1; clear hw1)
        | (with_reducible refine (C9.out _).mono ?_; rintro e w1 ⟨rfl, hw1⟩; replace hu := hu.next hw1; clear hw1))
      go_ret
      exact ⟨rfl, hu⟩
    · rw [show sealS x = ByteArray.empty by simp [sealS]; omega, show sealE x = 2 by simp [sealE]; omega] at c1
      have C1 := Lib.hid c1; clear c1
      go_wp2_with (first
        | (with_reducible refine (C1.out _).mono ?_; rintro e w1 ⟨rfl, hw1⟩; replace hu := hu.next hw1; clear hw1)
        | (with_reducible refine (C9.out _).mono ?_; rintro e w1 ⟨rfl, hw1⟩; replace hu := hu.next hw1; clear hw1))
      go_ret
      exact ⟨rfl, hu⟩
end Go.Proofs.Ytijbfacfloljoaa
