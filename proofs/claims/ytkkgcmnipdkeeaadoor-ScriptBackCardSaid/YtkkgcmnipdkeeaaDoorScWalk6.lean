/- Layer 24: the reader's byte and text. -/
import Derived.Test.YtkkgcmnipdkeeaaDoorScWalk2
import Derived.Test.YtkkgcmnipdkeeaaDoorScRead
import Derived.Test.YtkkgcmnipdkeeaaDoorFieldWalkA
namespace Go.Proofs.YtkkgcmnipdkeeaaDoor
open Go.RowKit Bw
set_option linter.unusedVariables false
/-- One block's cells may change. -/
abbrev OneS (g : Nat) : Nat → Prop := fun k => k = g
theorem oneS_2 {g : Nat} {w w1 : World} (h : Up w w1) (a b : Value) (i j : Nat) : AllS (OneS g) w ((w1.setCell ⟨g, i, none⟩ a).setCell ⟨g, j, none⟩ b) :=
  ((AllS.of_up (S := OneS g) h).setCell g i a (.inl rfl)).setCell g j b (.inl rfl)
set_option maxHeartbeats 1000000 in
theorem reader_one24 (s : ByteArray) (hs : s.size ≤ 1099511627776) (i : Nat) (hi : i ≤ 1099511627776) (ok : Bool) {g : Nat} {w : World} (hr : RowAt w g [.string s, .int .i64 i, .bool ok]) :
    Calls Tryd.prog 44 #[.pointer (some ⟨g, 0, none⟩)] w fun e w' => e = .returned (.int .i64 (getV s i 1)) ∧ RowAt w' g [.string s, .int .i64 ((i + 1 : Nat) : Int), .bool (ok && decide (roomE s i 1 = 0))] ∧ AllS (OneS g) w w' := by
  have C1 := Lib.hid (fun w => field_Get s i 1 w hs)
  obtain ⟨v0, v1⟩ := getV1_le s i
  generalize getV s i 1 = V at *
  have HE := Lib.hid (show decide (roomE s i 1 = 0) = (roomE s i 1 == 0) from rfl)
  rw [HE.out]
  clear HE
  cases hE : roomE s i 1 == 0
  all_goals
    generalize roomE s i 1 = E at *
    obtain ⟨r0, r1, -⟩ := hr.c3
    have l0 := Later.cell_of r0; have l1 := Later.cell_of r1
    have hne := later_ne w
    clear r0 r1
    have hik : IntKind.i64.wrap ((i : Int) + 1) = ((i + 1 : Nat) : Int) := by rw [IntKind.wrap_i64]; omega
    cases ok
  all_goals
    go_enter Tryd.func44, Tryd.ntmps44
    go_wp2_with fail
    refine wp_region_later (by kernel_rfl) (by kernel_rfl) ?_
    repeat (go_big_quiet_step ((go_at_call 49; with_reducible exact Calls.later_same (C1.out _))))
    refine wpQuiet_nil ?_
    intro w9 hw9
    obtain ⟨u9, rfl⟩ := hw9
    replace hr := hr.up u9.up
    have hux : Up w u9.world := u9.up
    clear hne l0 l1
    generalize u9.world = wx at *
    obtain ⟨r0, r1, r2, f0, f1, f2⟩ := hr.c3
    go_wp2_with fail
    go_ret
    exact ⟨rfl, by simpa using (hr.set 2 _ (by simp)).set 1 _ (by simp), oneS_2 hux _ _ _ _⟩
set_option maxHeartbeats 1000000 in
theorem reader_text24 (s : ByteArray) (hs : s.size ≤ 1099511627776) (i : Nat) (hi : i ≤ 1099511627776) (ok : Bool) {g : Nat} {w : World} (hr : RowAt w g [.string s, .int .i64 i, .bool ok]) :
    Calls Tryd.prog 45 #[.pointer (some ⟨g, 0, none⟩)] w fun e w' => e = .returned (.string (textS s i)) ∧ RowAt w' g [.string s, .int .i64 ((max i (textTo s i).toNat : Nat) : Int), .bool (ok && decide (textE s i = 0))] ∧ AllS (OneS g) w w' := by
  have C1 := Lib.hid (fun w => field_Text s i w hs)
  have hto : textTo s i = ((textTo s i).toNat : Int) := by
    rw [Int.toNat_of_nonneg]
    unfold textTo
    split <;> omega
  rw [hto] at C1
  generalize textS s i = V at *
  generalize (textTo s i).toNat = T at *
  clear hto
  have HE := Lib.hid (show decide (textE s i = 0) = (textE s i == 0) from rfl)
  rw [HE.out]
  clear HE
  have HM := Lib.hid (show ((max i T : Nat) : Int) = max (i : Int) (T : Int) by omega)
  cases hE : textE s i == 0
  all_goals
    generalize textE s i = E at *
    obtain ⟨r0, r1, -⟩ := hr.c3
    have l0 := Later.cell_of r0; have l1 := Later.cell_of r1
    have hne := later_ne w
    clear r0 r1
    cases ok
  all_goals
    go_enter Tryd.func45, Tryd.ntmps45
    go_wp2_with fail
    refine wp_region_later (by kernel_rfl) (by kernel_rfl) ?_
    repeat (go_big_quiet_step ((go_at_call 50; with_reducible exact Calls.later_same (C1.out _))))
    refine wpQuiet_nil ?_
    intro w9 hw9
    obtain ⟨u9, rfl⟩ := hw9
    replace hr := hr.up u9.up
    have hux : Up w u9.world := u9.up
    clear hne l0 l1
    generalize u9.world = wx at *
    obtain ⟨r0, r1, r2, f0, f1, f2⟩ := hr.c3
    go_wp2_with fail
    go_ret
    rw [HM.out]
    exact ⟨rfl, by simpa using (hr.set 2 _ (by simp)).set 1 _ (by simp), oneS_2 hux _ _ _ _⟩
end Go.Proofs.YtkkgcmnipdkeeaaDoor
