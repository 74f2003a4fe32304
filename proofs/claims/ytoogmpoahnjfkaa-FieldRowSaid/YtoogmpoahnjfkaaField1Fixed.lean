import Derived.Test.YtoogmpoahnjfkaaRef1Walk5
namespace Go.Proofs.Ytoogmpoahnjfkaa
open Go.RowKit Bw
set_option linter.unusedVariables false

def abcd : ByteArray := ⟨#[97, 98, 99, 100]⟩

set_option maxHeartbeats 1000000 in
set_option maxRecDepth 100000 in
theorem law1_fixed (w : World) :
    Calls Try.prog 14 #[] w fun e w' => e = .returned (.bool true) ∧ Below w.heap.size w w' := by
  have c1 : ∀ w, Calls Try.prog 12 #[.string ⟨#[97, 98, 99, 100]⟩, .int .i64 1, .int .i64 2, .int .u64 16961] w fun e w' => e = .returned (.tuple #[.string ⟨#[97, 65, 66, 100]⟩, .int .i64 0]) ∧ Below w.heap.size w w' := fun w => by
    have := field_Put ⟨#[97, 98, 99, 100]⟩ 1 2 16961 w (by decide +kernel) (by omega) (by omega)
    rwa [show putS ⟨#[97, 98, 99, 100]⟩ 1 2 16961 = ⟨#[97, 65, 66, 100]⟩ by decide +kernel, show putE ⟨#[97, 98, 99, 100]⟩ 1 2 16961 = 0 by decide +kernel] at this
  have c2 : ∀ w, Calls Try.prog 10 #[.string ⟨#[97, 65, 66, 100]⟩, .int .i64 1, .int .i64 2] w fun e w' => e = .returned (.tuple #[.int .u64 16961, .int .i64 0]) ∧ w = w' := fun w => by
    have := field_Get ⟨#[97, 65, 66, 100]⟩ 1 2 w (by decide +kernel)
    rwa [show getV ⟨#[97, 65, 66, 100]⟩ 1 2 = 16961 by decide +kernel, show roomE ⟨#[97, 65, 66, 100]⟩ 1 2 = 0 by decide +kernel] at this
  have c3 : ∀ w, Calls Try.prog 12 #[.string ⟨#[97, 98, 99, 100]⟩, .int .i64 3, .int .i64 2, .int .u64 1] w fun e w' => e = .returned (.tuple #[.string ByteArray.empty, .int .i64 3]) ∧ Below w.heap.size w w' := fun w => by
    have := field_Put ⟨#[97, 98, 99, 100]⟩ 3 2 1 w (by decide +kernel) (by omega) (by omega)
    rwa [show putS ⟨#[97, 98, 99, 100]⟩ 3 2 1 = ByteArray.empty by decide +kernel, show putE ⟨#[97, 98, 99, 100]⟩ 3 2 1 = 3 by decide +kernel] at this
  have c4 : ∀ w, Calls Try.prog 12 #[.string ⟨#[97, 98, 99, 100]⟩, .int .i64 1, .int .i64 1, .int .u64 256] w fun e w' => e = .returned (.tuple #[.string ByteArray.empty, .int .i64 2]) ∧ Below w.heap.size w w' := fun w => by
    have := field_Put ⟨#[97, 98, 99, 100]⟩ 1 1 256 w (by decide +kernel) (by omega) (by omega)
    rwa [show putS ⟨#[97, 98, 99, 100]⟩ 1 1 256 = ByteArray.empty by decide +kernel, show putE ⟨#[97, 98, 99, 100]⟩ 1 1 256 = 2 by decide +kernel] at this
  have c5 : ∀ w, Calls Try.prog 10 #[.string ⟨#[97, 98, 99, 100]⟩, .int .i64 0, .int .i64 9] w fun e w' => e = .returned (.tuple #[.int .u64 0, .int .i64 1]) ∧ w = w' := fun w => by
    have := field_Get ⟨#[97, 98, 99, 100]⟩ 0 9 w (by decide +kernel)
    rwa [show getV ⟨#[97, 98, 99, 100]⟩ 0 9 = 0 by decide +kernel, show roomE ⟨#[97, 98, 99, 100]⟩ 0 9 = 1 by decide +kernel] at this
  have c6 : ∀ w, Calls Try.prog 15 #[.string ⟨#[2, 97, 98, 99]⟩, .int .i64 0] w fun e w' => e = .returned (.tuple #[.string ⟨#[97, 98]⟩, .int .i64 3, .int .i64 0]) ∧ w = w' := fun w => by
    have := field_Text ⟨#[2, 97, 98, 99]⟩ 0 w (by decide +kernel)
    rwa [show textS ⟨#[2, 97, 98, 99]⟩ 0 = ⟨#[97, 98]⟩ by decide +kernel, show textTo ⟨#[2, 97, 98, 99]⟩ 0 = 3 by decide +kernel, show textE ⟨#[2, 97, 98, 99]⟩ 0 = 0 by decide +kernel] at this
  have c7 : ∀ w, Calls Try.prog 15 #[.string ⟨#[4, 97, 98, 99]⟩, .int .i64 0] w fun e w' => e = .returned (.tuple #[.string ByteArray.empty, .int .i64 0, .int .i64 3]) ∧ w = w' := fun w => by
    have := field_Text ⟨#[4, 97, 98, 99]⟩ 0 w (by decide +kernel)
    rwa [show textS ⟨#[4, 97, 98, 99]⟩ 0 = ByteArray.empty by decide +kernel, show textTo ⟨#[4, 97, 98, 99]⟩ 0 = 0 by decide +kernel, show textE ⟨#[4, 97, 98, 99]⟩ 0 = 3 by decide +kernel] at this
  have c8 : ∀ w, Calls Try.prog 17 #[.string ⟨#[97, 98, 99, 100]⟩, .int .i64 1, .string ⟨#[120]⟩] w fun e w' => e = .returned (.tuple #[.string ⟨#[97, 1, 120, 100]⟩, .int .i64 3, .int .i64 0]) ∧ Below w.heap.size w w' := fun w => by
    have := field_PutText ⟨#[97, 98, 99, 100]⟩ 1 ⟨#[120]⟩ w (by decide +kernel) (by decide +kernel)
    rwa [show ptS ⟨#[97, 98, 99, 100]⟩ 1 ⟨#[120]⟩ = ⟨#[97, 1, 120, 100]⟩ by decide +kernel, show ptTo ⟨#[97, 98, 99, 100]⟩ 1 ⟨#[120]⟩ = 3 by decide +kernel, show ptE ⟨#[97, 98, 99, 100]⟩ 1 ⟨#[120]⟩ = 0 by decide +kernel] at this
  have c9 : ∀ w, Calls Try.prog 17 #[.string ⟨#[97, 98, 99, 100]⟩, .int .i64 2, .string ⟨#[120, 121]⟩] w fun e w' => e = .returned (.tuple #[.string ByteArray.empty, .int .i64 0, .int .i64 3]) ∧ Below w.heap.size w w' := fun w => by
    have := field_PutText ⟨#[97, 98, 99, 100]⟩ 2 ⟨#[120, 121]⟩ w (by decide +kernel) (by decide +kernel)
    rwa [show ptS ⟨#[97, 98, 99, 100]⟩ 2 ⟨#[120, 121]⟩ = ByteArray.empty by decide +kernel, show ptTo ⟨#[97, 98, 99, 100]⟩ 2 ⟨#[120, 121]⟩ = 0 by decide +kernel, show ptE ⟨#[97, 98, 99, 100]⟩ 2 ⟨#[120, 121]⟩ = 3 by decide +kernel] at this
  have c10 : ∀ w, Calls Try.prog 21 #[.string ⟨#[97]⟩, .int .i64 3] w fun e w' => e = .returned (.tuple #[.string ⟨#[97, 0, 0]⟩, .int .i64 0]) ∧ Below w.heap.size w w' := fun w => by
    have := field_Pad ⟨#[97]⟩ 3 w (by decide +kernel)
    rwa [show padS ⟨#[97]⟩ 3 = ⟨#[97, 0, 0]⟩ by decide +kernel, show padE ⟨#[97]⟩ 3 = 0 by decide +kernel] at this
  have c11 : ∀ w, Calls Try.prog 21 #[.string ⟨#[97, 98, 99]⟩, .int .i64 2] w fun e w' => e = .returned (.tuple #[.string ByteArray.empty, .int .i64 2]) ∧ Below w.heap.size w w' := fun w => by
    have := field_Pad ⟨#[97, 98, 99]⟩ 2 w (by decide +kernel)
    rwa [show padS ⟨#[97, 98, 99]⟩ 2 = ByteArray.empty by decide +kernel, show padE ⟨#[97, 98, 99]⟩ 2 = 2 by decide +kernel] at this
  have c12 : ∀ w, Calls Try.prog 19 #[.string ⟨#[97, 0, 0]⟩] w fun e w' => e = .returned (.string ⟨#[97]⟩) ∧ w = w' := fun w => by
    have := field_Bare ⟨#[97, 0, 0]⟩ w (by decide +kernel)
    rwa [show bareS ⟨#[97, 0, 0]⟩ = ⟨#[97]⟩ by decide +kernel] at this
  have hu := Up.refl w
  have C1 := Lib.hid c1; clear c1
  have C2 := Lib.hid c2; clear c2
  have C3 := Lib.hid c3; clear c3
  have C4 := Lib.hid c4; clear c4
  have C5 := Lib.hid c5; clear c5
  have C6 := Lib.hid c6; clear c6
  have C7 := Lib.hid c7; clear c7
  have C8 := Lib.hid c8; clear c8
  have C9 := Lib.hid c9; clear c9
  have C10 := Lib.hid c10; clear c10
  have C11 := Lib.hid c11; clear c11
  have C12 := Lib.hid c12; clear c12
  go_enter Try.func14, Try.ntmps14
  go_wp2_with (first
    | (with_reducible refine (C1.out _).mono ?_; rintro e w1 ⟨rfl, hw1⟩; replace hu := hu.next hw1; clear hw1)
    | (with_reducible refine (C2.out _).mono ?_; rintro e w1 ⟨rfl, rfl⟩)
    | (with_reducible refine (C3.out _).mono ?_; rintro e w1 ⟨rfl, hw1⟩; replace hu := hu.next hw1; clear hw1)
    | (with_reducible refine (C4.out _).mono ?_; rintro e w1 ⟨rfl, hw1⟩; replace hu := hu.next hw1; clear hw1)
    | (with_reducible refine (C5.out _).mono ?_; rintro e w1 ⟨rfl, rfl⟩)
    | (with_reducible refine (C6.out _).mono ?_; rintro e w1 ⟨rfl, rfl⟩)
    | (with_reducible refine (C7.out _).mono ?_; rintro e w1 ⟨rfl, rfl⟩)
    | (with_reducible refine (C8.out _).mono ?_; rintro e w1 ⟨rfl, hw1⟩; replace hu := hu.next hw1; clear hw1)
    | (with_reducible refine (C9.out _).mono ?_; rintro e w1 ⟨rfl, hw1⟩; replace hu := hu.next hw1; clear hw1)
    | (with_reducible refine (C10.out _).mono ?_; rintro e w1 ⟨rfl, hw1⟩; replace hu := hu.next hw1; clear hw1)
    | (with_reducible refine (C11.out _).mono ?_; rintro e w1 ⟨rfl, hw1⟩; replace hu := hu.next hw1; clear hw1)
    | (with_reducible refine (C12.out _).mono ?_; rintro e w1 ⟨rfl, rfl⟩))
  go_ret
  exact ⟨rfl, hu⟩
end Go.Proofs.Ytoogmpoahnjfkaa
