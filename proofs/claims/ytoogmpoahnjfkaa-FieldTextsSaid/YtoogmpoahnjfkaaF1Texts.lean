import Derived.Test.YtoogmpoahnjfkaaField1Fixed
import Derived.OpenShut
namespace Go.Proofs.Ytoogmpoahnjfkaa
open Go.RowKit Bw
set_option linter.unusedVariables false

set_option maxHeartbeats 2000000 in
theorem texts_walk (s t : ByteArray) (n : Int) (w : World) (hs : s.size ≤ maxLen) (ht : t.size ≤ maxLen) :
    Calls Try.prog 4 #[.string s, .string t, .int .i64 n] w fun e w' => e = .returned (.bool true) ∧ Below w.heap.size w w' := by
  unfold maxLen at hs ht
  have hu := Up.refl w
  go_enter Try.func4, Try.ntmps4
  go_wp2_with fail
  all_goals
    first
      | (have hh : s.size ≤ 300 := by omega
         obtain ⟨x, rfl⟩ : ∃ x, x = s := ⟨s, rfl⟩
         have hz : x.size ≤ 300 := hh)
      | (have hz : (s.extract 0 300).size ≤ 300 := by simp; omega
         generalize s.extract 0 300 = x at *)
    clear hs
    first
      | (have hh : t.size ≤ 300 := by omega
         obtain ⟨y, rfl⟩ : ∃ y, y = t := ⟨t, rfl⟩
         have hz2 : y.size ≤ 300 := hh)
      | (have hz2 : (t.extract 0 300).size ≤ 300 := by simp; omega
         generalize t.extract 0 300 = y at *)
    clear ht
    have C1 := Lib.hid (fun w => field_Text x n w (by omega))
    have C2 := Lib.hid (fun w => ref1_Text x n w (by omega))
    have C3 := Lib.hid (fun w => field_PutText x n y w (by omega) (by omega))
    have C4 := Lib.hid (fun w => ref1_PutText x n y w (by omega) (by omega))
    have C5 := Lib.hid (fun w => field_Bare x w (by omega))
    have C6 := Lib.hid (fun w => ref1_Bare x.size x w rfl (by omega))
    have C7 := Lib.hid (fun w => field_Pad x n w (by omega))
    have C8 := Lib.hid (fun w => ref1_Pad x n w (by omega))
    have C9 := Lib.hid law1_fixed
    by_cases hn : n ≤ 1000
    · go_wp2_with (first
        | (with_reducible refine (C1.out _).mono ?_; rintro e w1 ⟨rfl, rfl⟩)
        | (with_reducible refine (C2.out _).mono ?_; rintro e w1 ⟨rfl, rfl⟩)
        | (with_reducible refine (C3.out _).mono ?_; rintro e w1 ⟨rfl, hw1⟩; replace hu := hu.next hw1; clear hw1)
        | (with_reducible refine (C4.out _).mono ?_; rintro e w2 ⟨rfl, hw1⟩; replace hu := hu.next hw1; clear hw1)
        | (with_reducible refine (C5.out _).mono ?_; rintro e w1 ⟨rfl, rfl⟩)
        | (with_reducible refine (C6.out _).mono ?_; rintro e w1 ⟨rfl, rfl⟩)
        | (with_reducible refine (C7.out _).mono ?_; rintro e w1 ⟨rfl, hw1⟩; replace hu := hu.next hw1; clear hw1)
        | (with_reducible refine (C8.out _).mono ?_; rintro e w2 ⟨rfl, hw1⟩; replace hu := hu.next hw1; clear hw1)
        | (with_reducible refine (C9.out _).mono ?_; rintro e w3 ⟨rfl, hw1⟩; replace hu := hu.next hw1; clear hw1))
      go_ret
      exact ⟨rfl, hu⟩
    · by_cases hn2 : n ≤ 65536
      · go_wp2_with (first
          | (with_reducible refine (C1.out _).mono ?_; rintro e w1 ⟨rfl, rfl⟩)
          | (with_reducible refine (C2.out _).mono ?_; rintro e w1 ⟨rfl, rfl⟩)
          | (with_reducible refine (C3.out _).mono ?_; rintro e w1 ⟨rfl, hw1⟩; replace hu := hu.next hw1; clear hw1)
          | (with_reducible refine (C4.out _).mono ?_; rintro e w2 ⟨rfl, hw1⟩; replace hu := hu.next hw1; clear hw1)
          | (with_reducible refine (C5.out _).mono ?_; rintro e w1 ⟨rfl, rfl⟩)
          | (with_reducible refine (C6.out _).mono ?_; rintro e w1 ⟨rfl, rfl⟩)
          | (with_reducible refine (C9.out _).mono ?_; rintro e w3 ⟨rfl, hw1⟩; replace hu := hu.next hw1; clear hw1))
        go_ret
        exact ⟨rfl, hu⟩
      · go_wp2_with (first
          | (with_reducible refine (C1.out _).mono ?_; rintro e w1 ⟨rfl, rfl⟩)
          | (with_reducible refine (C2.out _).mono ?_; rintro e w1 ⟨rfl, rfl⟩)
          | (with_reducible refine (C3.out _).mono ?_; rintro e w1 ⟨rfl, hw1⟩; replace hu := hu.next hw1; clear hw1)
          | (with_reducible refine (C4.out _).mono ?_; rintro e w2 ⟨rfl, hw1⟩; replace hu := hu.next hw1; clear hw1)
          | (with_reducible refine (C5.out _).mono ?_; rintro e w1 ⟨rfl, rfl⟩)
          | (with_reducible refine (C6.out _).mono ?_; rintro e w1 ⟨rfl, rfl⟩)
          | (with_reducible refine (C7.out _).mono ?_; rintro e w1 ⟨rfl, hw1⟩; replace hu := hu.next hw1; clear hw1)
          | (with_reducible refine (C8.out _).mono ?_; rintro e w2 ⟨rfl, hw1⟩; replace hu := hu.next hw1; clear hw1)
          | (with_reducible refine (C9.out _).mono ?_; rintro e w3 ⟨rfl, hw1⟩; replace hu := hu.next hw1; clear hw1))
        go_ret
        exact ⟨rfl, hu⟩

theorem texts_law (s : ByteArray) (hs : s.size ≤ maxLen) (t : ByteArray) (ht : t.size ≤ maxLen) (n : Int) (wn : (Lit.int .i64 n).wf = true) (w : World) :
    Calls Try.prog 4 #[.string s, .string t, .int .i64 n] w fun e w' => e = .returned (.bool true) ∧ Below w.heap.size w w' :=
  texts_walk s t n w hs ht
end Go.Proofs.Ytoogmpoahnjfkaa
