import Derived.Test.YtijbfacfloljoaaSumFixed
namespace Go.Proofs.Ytijbfacfloljoaa
open Go.RowKit Bw
set_option linter.unusedVariables false

set_option maxHeartbeats 2000000 in
set_option maxRecDepth 100000 in
theorem pages_law (s : ByteArray) (hs : s.size ≤ maxLen) (t : ByteArray) (ht : t.size ≤ maxLen) (w : World) :
    Calls Try.prog 3 #[.string s, .string t] w fun e w' => e = .returned (.bool true) ∧ Below w.heap.size w w' := by
  unfold maxLen at hs ht
  have hu := Up.refl w
  go_enter Try.func3, Try.ntmps3
  go_upto_region 1 with fail
  go_cut [0] (fun v wx => ∃ x : ByteArray, x.size ≤ 300 ∧ v = .string x ∧ w = wx)
  case first =>
    go_wp2_with fail
    · go_meet
      exact ⟨s.extract 0 300, by simp; omega, rfl, rfl⟩
    · go_meet
      exact ⟨s, by omega, rfl, rfl⟩
  case rest =>
    obtain ⟨x, hz, rfl, rfl⟩ := hcut
    clear hs
    go_upto_region 2 with fail
    go_cut [1] (fun v wx => ∃ y : ByteArray, y.size ≤ 300 ∧ v = .string y ∧ w = wx)
    case first =>
      go_wp2_with fail
      · go_meet
        exact ⟨t.extract 0 300, by simp; omega, rfl, rfl⟩
      · go_meet
        exact ⟨t, by omega, rfl, rfl⟩
    case rest =>
      obtain ⟨y, hz2, rfl, rfl⟩ := hcut
      clear ht
      have C1 := Lib.hid (fun w => sum_Seal x w (by omega))
      have C2 := Lib.hid (fun w => ref2_Seal x w (by omega))
      have C3 := Lib.hid (fun w => sum_Open x w (by omega))
      have C4 := Lib.hid (fun w => ref2_Open x w (by omega))
      have C5 := Lib.hid (fun w => sum_Of x w (by omega))
      have C6 := Lib.hid (fun w => ref2_Of x w (by omega))
      have C7 := Lib.hid (fun w => sum_Torn x y w (by omega) (by omega))
      have C8 := Lib.hid (fun w => ref2_Torn x y w (by omega) (by omega))
      have C9 := Lib.hid law2_fixed
      go_wp2_with (first
        | (with_reducible refine (C1.out _).mono ?_; rintro e w1 ⟨rfl, hw1⟩; replace hu := hu.next hw1; clear hw1)
        | (with_reducible refine (C2.out _).mono ?_; rintro e w1 ⟨rfl, hw1⟩; replace hu := hu.next hw1; clear hw1)
        | (with_reducible refine (C3.out _).mono ?_; rintro e w1 ⟨rfl, hw1⟩; replace hu := hu.next hw1; clear hw1)
        | (with_reducible refine (C4.out _).mono ?_; rintro e w1 ⟨rfl, hw1⟩; replace hu := hu.next hw1; clear hw1)
        | (with_reducible refine (C5.out _).mono ?_; rintro e w1 ⟨rfl, hw1⟩; replace hu := hu.next hw1; clear hw1)
        | (with_reducible refine (C6.out _).mono ?_; rintro e w1 ⟨rfl, rfl⟩)
        | (with_reducible refine (C7.out _).mono ?_; rintro e w1 ⟨rfl, hw1⟩; replace hu := hu.next hw1; clear hw1)
        | (with_reducible refine (C8.out _).mono ?_; rintro e w1 ⟨rfl, rfl⟩)
        | (with_reducible refine (C9.out _).mono ?_; rintro e w1 ⟨rfl, hw1⟩; replace hu := hu.next hw1; clear hw1))
      go_ret
      exact ⟨rfl, hu⟩
end Go.Proofs.Ytijbfacfloljoaa
