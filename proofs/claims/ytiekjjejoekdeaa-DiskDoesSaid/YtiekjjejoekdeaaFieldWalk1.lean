import Derived.Test.YtiekjjejoekdeaaRows
import Derived.Test.YtiekjjejoekdeaaFieldPure
import Derived.WalkKit
import Derived.WalkSpells
import Derived.WalkLawsBesides
import Derived.Lib.Hide
namespace Go.Proofs.Ytiekjjejoekdeaa
open Go.RowKit
set_option linter.unusedVariables false

theorem placeE_le {s : ByteArray} {a : Int} (h0 : ¬ a < 0) (h1 : ¬ (s.size : Int) < a) : Bw.placeE s a = 0 := by simp [Bw.placeE]; omega

set_option maxHeartbeats 400000 in
theorem field_place (s : ByteArray) (a : Int) (w : World) :
    Calls Try.prog 58 #[.string s, .int .i64 a] w fun e w' => e = .returned (.int .i64 (Bw.placeE s a)) ∧ w = w' := by
  by_cases h0 : a < 0
  · have E : Bw.placeE s a = 1 := by simp [Bw.placeE, h0]
    rw [E]; clear E
    go_enter Try.func58, Try.ntmps58
    go_wp2
    go_ret
    exact ⟨rfl, rfl⟩
  · by_cases h1 : (s.size : Int) < a
    · have E : Bw.placeE s a = 1 := by simp [Bw.placeE, h1]
      rw [E]; clear E
      go_enter Try.func58, Try.ntmps58
      go_wp2
      go_ret
      exact ⟨rfl, rfl⟩
    · have E : Bw.placeE s a = 0 := placeE_le h0 h1
      rw [E]; clear E
      go_enter Try.func58, Try.ntmps58
      go_wp2
      go_ret
      exact ⟨rfl, rfl⟩

set_option maxHeartbeats 400000 in
theorem field_room (s : ByteArray) (a n : Int) (w : World) (hs : s.size ≤ 1099511627776) :
    Calls Try.prog 55 #[.string s, .int .i64 a, .int .i64 n] w fun e w' => e = .returned (.int .i64 (Bw.roomE s a n)) ∧ w = w' := by
  by_cases h0 : n < 1
  · have E : Bw.roomE s a n = 1 := by simp [Bw.roomE, h0]
    rw [E]; clear E
    go_enter Try.func55, Try.ntmps55
    go_wp2_with fail
    go_ret
    exact ⟨rfl, rfl⟩
  · by_cases h1 : 8 < n
    · have E : Bw.roomE s a n = 1 := by simp [Bw.roomE, h1]
      rw [E]; clear E
      go_enter Try.func55, Try.ntmps55
      go_wp2_with fail
      go_ret
      exact ⟨rfl, rfl⟩
    · by_cases h2 : a < 0 ∨ (s.size : Int) < a
      · have E : Bw.roomE s a n = 1 := by simp [Bw.roomE, h2]
        have P : Bw.placeE s a = 1 := by simp [Bw.placeE, h2]
        rw [E]; clear E
        have C := field_place s a w
        rw [P] at C
        have H := Lib.hid C; clear C
        go_enter Try.func55, Try.ntmps55
        clear h2
        go_wp2_with (refine H.out.mono ?_; rintro e w' ⟨rfl, rfl⟩)
        go_ret
        exact ⟨rfl, rfl⟩
      · have P : Bw.placeE s a = 0 := by simp [Bw.placeE, h2]
        have h3 : 0 ≤ a := by omega
        have h4 : a ≤ s.size := by omega
        clear h2
        have C := field_place s a w
        rw [P] at C
        clear P
        have H := Lib.hid C; clear C
        by_cases h5 : (s.size : Int) - a < n
        · have E : Bw.roomE s a n = 3 := by simp [Bw.roomE]; omega
          rw [E]; clear E
          go_enter Try.func55, Try.ntmps55
          go_wp2_with (refine H.out.mono ?_; rintro e w' ⟨rfl, rfl⟩)
          go_ret
          exact ⟨rfl, rfl⟩
        · have E : Bw.roomE s a n = 0 := by simp [Bw.roomE]; omega
          rw [E]; clear E
          go_enter Try.func55, Try.ntmps55
          go_wp2_with (refine H.out.mono ?_; rintro e w' ⟨rfl, rfl⟩)
          go_ret
          exact ⟨rfl, rfl⟩
end Go.Proofs.Ytiekjjejoekdeaa
