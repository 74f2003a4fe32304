import Derived.Test.YtoogmpoahnjfkaaField1Fixed
import Derived.OpenShut
namespace Go.Proofs.Ytoogmpoahnjfkaa
open Go.RowKit Bw
set_option linter.unusedVariables false

set_option maxHeartbeats 1000000 in
theorem numbers_walk (s : ByteArray) (x y n : Int) (w : World) (hs : s.size ≤ maxLen) (hn0 : 0 ≤ n) (hn : n < 18446744073709551616) :
    Calls Try.prog 3 #[.string s, .agg #[.int .i64 x, .int .i64 y], .int .u64 n] w fun e w' => e = .returned (.bool true) ∧ Below w.heap.size w w' := by
  unfold maxLen at hs
  have hu := Up.refl w
  have Hn0 := Lib.hid hn0; have Hn := Lib.hid hn
  clear hn0 hn
  go_enter Try.func3, Try.ntmps3
  go_wp2_with fail
  all_goals
    first
      | (have hh : s.size ≤ 300 := by omega
         obtain ⟨t, rfl⟩ : ∃ t, t = s := ⟨s, rfl⟩
         have hz : t.size ≤ 300 := hh)
      | (have hz : (s.extract 0 300).size ≤ 300 := by simp; omega
         generalize s.extract 0 300 = t at *)
    clear hs
    have C1 := Lib.hid (fun w => field_Get t x y w (by omega))
    have C2 := Lib.hid (fun w => ref1_Get t x y w (by omega))
    have C3 := Lib.hid (fun w => field_Put t x y n w (by omega) Hn0.out Hn.out)
    have C4 := Lib.hid (fun w => ref1_Put t x y n w (by omega) Hn0.out Hn.out)
    have C5 := Lib.hid law1_fixed
    replace hu := hu.alloc (.cells #[.int .i64 x, .int .i64 y] 22)
    go_wp2_with (first
      | (with_reducible refine (C1.out _).mono ?_; rintro e w1 ⟨rfl, rfl⟩)
      | (with_reducible refine (C2.out _).mono ?_; rintro e w1 ⟨rfl, rfl⟩)
      | (with_reducible refine (C3.out _).mono ?_; rintro e w1 ⟨rfl, hw1⟩; obtain ⟨hcc, hff⟩ := bcell hw1; have hsz1 := hw1.size; simp at hsz1; replace hu := hu.next hw1; clear hw1)
      | (with_reducible refine (C4.out _).mono ?_; rintro e w2 ⟨rfl, hw1⟩; obtain ⟨hcc2, hff2⟩ := bcell hw1; replace hu := hu.next hw1; clear hw1)
      | (with_reducible refine (C5.out _).mono ?_; rintro e w3 ⟨rfl, hw1⟩; replace hu := hu.next hw1; clear hw1))
    go_ret
    exact ⟨rfl, hu⟩

theorem numbers_law (s : ByteArray) (hs : s.size ≤ maxLen) (x y : Int) (hxy : (Lit.int .i64 x).wf = true ∧ (Lit.int .i64 y).wf = true) (n : Int) (wn : (Lit.int .u64 n).wf = true) (w : World) :
    Calls Try.prog 3 #[.string s, .agg #[.int .i64 x, .int .i64 y], .int .u64 n] w fun e w' => e = .returned (.bool true) ∧ Below w.heap.size w w' := by
  have := bounds_u64 wn
  exact numbers_walk s x y n w hs (by omega) (by omega)
end Go.Proofs.Ytoogmpoahnjfkaa
