import Derived.Test.YtokpkkjgagbpfaaRef1Walk5
import Derived.Test.YtokpkkjgagbpfaaCrc
import Derived.Test.YtokpkkjgagbpfaaRegionA
namespace Go.Proofs.Ytokpkkjgagbpfaa
open Go.RowKit Bw
set_option linter.unusedVariables false

theorem xor32 (a b : Nat) (ha : a < 4294967296) (hb : b < 4294967296) : bits BinOp.xor IntKind.u32 (a : Int) (b : Int) = ((a ^^^ b : Nat) : Int) := u32_xor_nat a b ha hb
theorem and1_32 (a : Nat) (ha : a < 4294967296) : bits BinOp.and IntKind.u32 (a : Int) 1 = ((a % 2 : Nat) : Int) := by
  have := u32_and_nat a 1 ha (by omega)
  rw [show ((1 : Nat) : Int) = 1 from rfl] at this
  rw [this, Nat.and_one_is_mod]

set_option maxHeartbeats 400000 in
theorem sum_laid (n : Nat) (w : World) (hn : n < 4294967296) :
    Calls Try.prog 94 #[.int .u32 n] w fun e w' => e = .returned (.int .u32 (crcK 4 n : Nat)) ∧ w = w' := by
  have Hn := Lib.hid hn; clear hn
  go_enter Try.func94, Try.ntmps94
  go_wp2
  go_loop [0, 4] (fun v c => ∃ j x : Nat, j ≤ 4 ∧ c = .int .i64 j ∧ v = .int .u32 x ∧ x < 4294967296 ∧ Hid (x = crcK j n)) (fun _ c => 4 - (intOf c).toNat)
  case atStart => exact ⟨0, n, by omega, rfl, rfl, Hn.out, rfl⟩
  case round =>
    obtain ⟨j, x, hj, rfl, rfl, hx, HX⟩ := hrel
    by_cases hlt : j < 4
    · have h1 := and1_32 x hx
      have h2 := xor32 (x / 2) 2197175160 (by omega) (by omega)
      rw [show ((2197175160 : Nat) : Int) = 2197175160 from rfl, show ((x / 2 : Nat) : Int) = (x : Int) / 2 by simp] at h2
      have hl := crc1_lt hx
      by_cases hp : x % 2 = 1
      · have h3 : (((x % 2 : Nat) : Int) == 1) = true := by rw [hp]; rfl
        have hc : crc1 x = x / 2 ^^^ 2197175160 := by unfold crc1; rw [if_pos hp]
        rw [← hc] at h2
        have HC : Hid (crc1 x = crcK (j + 1) n) := by show _ = crc1 (crcK j n); rw [← HX.out]
        clear hp hc
        generalize crc1 x = y at *
        go_wp2
        go_round
        case rel => exact ⟨j + 1, y, by omega, by go_num, rfl, hl, HC⟩
        case measure => simp [intOf]; omega
      · have h3 : (((x % 2 : Nat) : Int) == 1) = false := by simp; omega
        have hc : crc1 x = x / 2 := by unfold crc1; rw [if_neg hp]
        have HC : Hid (x / 2 = crcK (j + 1) n) := by show _ = crc1 (crcK j n); rw [← HX.out, hc]
        clear hp hc h2 hl
        go_wp2
        go_round
        case rel => exact ⟨j + 1, x / 2, by omega, by go_num, by go_num, by omega, HC⟩
        case measure => simp [intOf]; omega
    · obtain rfl : j = 4 := by omega
      have hx2 := HX.out
      subst hx2
      go_wp2
      go_ret
      exact ⟨rfl, rfl⟩

def tabI (i : Nat) : Int := (crcK 4 i : Nat)

set_option maxHeartbeats 2000000 in
set_option maxRecDepth 100000 in
theorem sum_table (w : World) :
    Calls Try.prog 93 #[] w fun e w' => e = .returned (.agg #[.int .u32 (tabI 0), .int .u32 (tabI 1), .int .u32 (tabI 2), .int .u32 (tabI 3), .int .u32 (tabI 4), .int .u32 (tabI 5), .int .u32 (tabI 6), .int .u32 (tabI 7), .int .u32 (tabI 8), .int .u32 (tabI 9), .int .u32 (tabI 10), .int .u32 (tabI 11), .int .u32 (tabI 12), .int .u32 (tabI 13), .int .u32 (tabI 14), .int .u32 (tabI 15)]) ∧ Below w.heap.size w w' := by
  have c1 : ∀ (i : Int) (k : Nat) w, i = k → k < 16 → Calls Try.prog 94 #[.int .u32 i] w fun e w' => e = .returned (.int .u32 (tabI k)) ∧ w = w' := fun i k w h hk => by subst h; exact sum_laid k w (by omega)
  have C0 := Lib.hid (fun w => c1 0 0 w rfl (by omega))
  have C1 := Lib.hid (fun w => c1 1 1 w rfl (by omega))
  have C2 := Lib.hid (fun w => c1 2 2 w rfl (by omega))
  have C3 := Lib.hid (fun w => c1 3 3 w rfl (by omega))
  have C4 := Lib.hid (fun w => c1 4 4 w rfl (by omega))
  have C5 := Lib.hid (fun w => c1 5 5 w rfl (by omega))
  have C6 := Lib.hid (fun w => c1 6 6 w rfl (by omega))
  have C7 := Lib.hid (fun w => c1 7 7 w rfl (by omega))
  have C8 := Lib.hid (fun w => c1 8 8 w rfl (by omega))
  have C9 := Lib.hid (fun w => c1 9 9 w rfl (by omega))
  have C10 := Lib.hid (fun w => c1 10 10 w rfl (by omega))
  have C11 := Lib.hid (fun w => c1 11 11 w rfl (by omega))
  have C12 := Lib.hid (fun w => c1 12 12 w rfl (by omega))
  have C13 := Lib.hid (fun w => c1 13 13 w rfl (by omega))
  have C14 := Lib.hid (fun w => c1 14 14 w rfl (by omega))
  have C15 := Lib.hid (fun w => c1 15 15 w rfl (by omega))
  clear c1
  go_enter Try.func93, Try.ntmps93
  go_wp2_with fail
  refine wp_loop_rounds 17 ?_
  rw [rounds_succ]
  go_wp2_with (go_at_call 94; (with_reducible refine (C0.out _).mono ?_); rintro e w1 ⟨rfl, rfl⟩)
  rw [rounds_succ]
  go_wp2_with (go_at_call 94; (with_reducible refine (C1.out _).mono ?_); rintro e w1 ⟨rfl, rfl⟩)
  rw [rounds_succ]
  go_wp2_with (go_at_call 94; (with_reducible refine (C2.out _).mono ?_); rintro e w1 ⟨rfl, rfl⟩)
  rw [rounds_succ]
  go_wp2_with (go_at_call 94; (with_reducible refine (C3.out _).mono ?_); rintro e w1 ⟨rfl, rfl⟩)
  rw [rounds_succ]
  go_wp2_with (go_at_call 94; (with_reducible refine (C4.out _).mono ?_); rintro e w1 ⟨rfl, rfl⟩)
  rw [rounds_succ]
  go_wp2_with (go_at_call 94; (with_reducible refine (C5.out _).mono ?_); rintro e w1 ⟨rfl, rfl⟩)
  rw [rounds_succ]
  go_wp2_with (go_at_call 94; (with_reducible refine (C6.out _).mono ?_); rintro e w1 ⟨rfl, rfl⟩)
  rw [rounds_succ]
  go_wp2_with (go_at_call 94; (with_reducible refine (C7.out _).mono ?_); rintro e w1 ⟨rfl, rfl⟩)
  rw [rounds_succ]
  go_wp2_with (go_at_call 94; (with_reducible refine (C8.out _).mono ?_); rintro e w1 ⟨rfl, rfl⟩)
  rw [rounds_succ]
  go_wp2_with (go_at_call 94; (with_reducible refine (C9.out _).mono ?_); rintro e w1 ⟨rfl, rfl⟩)
  rw [rounds_succ]
  go_wp2_with (go_at_call 94; (with_reducible refine (C10.out _).mono ?_); rintro e w1 ⟨rfl, rfl⟩)
  rw [rounds_succ]
  go_wp2_with (go_at_call 94; (with_reducible refine (C11.out _).mono ?_); rintro e w1 ⟨rfl, rfl⟩)
  rw [rounds_succ]
  go_wp2_with (go_at_call 94; (with_reducible refine (C12.out _).mono ?_); rintro e w1 ⟨rfl, rfl⟩)
  rw [rounds_succ]
  go_wp2_with (go_at_call 94; (with_reducible refine (C13.out _).mono ?_); rintro e w1 ⟨rfl, rfl⟩)
  rw [rounds_succ]
  go_wp2_with (go_at_call 94; (with_reducible refine (C14.out _).mono ?_); rintro e w1 ⟨rfl, rfl⟩)
  rw [rounds_succ]
  go_wp2_with (go_at_call 94; (with_reducible refine (C15.out _).mono ?_); rintro e w1 ⟨rfl, rfl⟩)
  rw [rounds_succ]
  go_wp2_with fail
  exact bodyPost_ret (v := .agg #[.int .u32 (tabI 0), .int .u32 (tabI 1), .int .u32 (tabI 2), .int .u32 (tabI 3), .int .u32 (tabI 4), .int .u32 (tabI 5), .int .u32 (tabI 6), .int .u32 (tabI 7), .int .u32 (tabI 8), .int .u32 (tabI 9), .int .u32 (tabI 10), .int .u32 (tabI 11), .int .u32 (tabI 12), .int .u32 (tabI 13), .int .u32 (tabI 14), .int .u32 (tabI 15)]) (by simp [results, Try.results93, go_sem]) rfl ⟨rfl, ((Below.refl _ _).alloc (Nat.le_refl _) _).alloc (by simp) _⟩
end Go.Proofs.Ytokpkkjgagbpfaa
