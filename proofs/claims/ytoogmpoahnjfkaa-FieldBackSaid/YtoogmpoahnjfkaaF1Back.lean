import Derived.Test.YtoogmpoahnjfkaaField1Fixed
import Derived.Test.YtoogmpoahnjfkaaFieldFacts
import Derived.OpenShut
import Derived.Test.YtoogmpoahnjfkaaRegionLaw
namespace Go.Proofs.Ytoogmpoahnjfkaa
open Go.RowKit Bw
set_option linter.unusedVariables false

theorem at_and (n m : Nat) (hn : n < 18446744073709551616) (hm : m ≤ 300) : ∃ B : Nat, wrap64 ((bits BinOp.and IntKind.u64 (n : Int) 65535).tmod ((m : Int) + 1)) = B ∧ B ≤ m := by
  have e : bits BinOp.and IntKind.u64 (n : Int) 65535 = ((n &&& 65535 : Nat) : Int) := u64_and_nat n 65535 hn (by omega)
  rw [e, Int.tmod_eq_emod_of_nonneg (by omega)]
  refine ⟨(n &&& 65535) % (m + 1), ?_, ?_⟩
  · have h := Nat.mod_lt (n &&& 65535) (show m + 1 > 0 by omega)
    have e2 : (((n &&& 65535 : Nat) : Int) % ((m : Int) + 1)) = (((n &&& 65535) % (m + 1) : Nat) : Int) := by simp
    rw [e2, IntWalk.wrap64_in _ ⟨by omega, by omega⟩]
  · have h := Nat.mod_lt (n &&& 65535) (show m + 1 > 0 by omega); omega

set_option maxHeartbeats 2000000 in
set_option maxRecDepth 100000 in
theorem back_walk (s t : ByteArray) (n : Nat) (w : World) (hs : s.size ≤ maxLen) (ht : t.size ≤ maxLen) (hn : n < 18446744073709551616) :
    Calls Try.prog 5 #[.string s, .string t, .int .u64 n] w fun e w' => e = .returned (.bool true) ∧ Below w.heap.size w w' := by
  unfold maxLen at hs ht
  have hu := Up.refl w
  have Hn := Lib.hid hn; clear hn
  go_enter Try.func5, Try.ntmps5
  go_upto_region 1 with fail
  go_cut [0] (fun v wx => ∃ x : ByteArray, x.size ≤ 300 ∧ v = .string x ∧ w = wx)
  case first =>
    go_wp2_with fail
    · go_meet
      exact ⟨s.extract 0 300, by simp; omega, rfl, rfl⟩
    · go_meet
      exact ⟨s, by omega, rfl, rfl⟩
  case rest =>
    obtain ⟨x, hz, rfl, rfl⟩ := hcut
    clear hs
    go_upto_region 2 with fail
    go_cut [1] (fun v wx => ∃ y : ByteArray, y.size ≤ 300 ∧ v = .string y ∧ w = wx)
    case first =>
      go_wp2_with fail
      · go_meet
        exact ⟨t.extract 0 300, by simp; omega, rfl, rfl⟩
      · go_meet
        exact ⟨t, by omega, rfl, rfl⟩
    case rest =>
      obtain ⟨y, hz2, rfl, rfl⟩ := hcut
      clear ht
      obtain ⟨A, hA⟩ : ∃ A : Nat, (y.size : Int) % ((x.size : Int) + 1) = A := ⟨y.size % (x.size + 1), by simp⟩
      have hA2 : A ≤ x.size := by have := Int.emod_lt_of_pos (y.size : Int) (show (0 : Int) < (x.size : Int) + 1 by omega); omega
      go_wp2_with fail
      go_loopw [7] (fun c wr => ∃ k : Nat, 1 ≤ k ∧ k ≤ 9 ∧ c = .int .i64 k ∧ Up w wr) (fun c _ => 9 - (intOf c).toNat)
      case atStart => exact ⟨1, by omega, by omega, rfl, hu⟩
      case round =>
        obtain ⟨k, hk1, hk9, rfl, hur⟩ := hrel
        clear hu
        by_cases hk : k ≤ 8
        · have hk' : ¬ k = 9 := by omega
          by_cases hE : putE x A k n = 0
          · have C1 := fun w => field_Put x A k n w (by omega) (by omega) (by have := Hn.out; omega)
            obtain ⟨f1, f2, f3, f4, f5, f6⟩ := size_putS x A k n hE
            obtain ⟨g1, g2⟩ := get_put x A k n hE
            have e1 := put_head x A k n hE
            have e2 := put_tail x A k n hE
            have C2 := fun w => field_Get (putS x A k n) A k w (by omega)
            rw [hE] at C1
            rw [g1, g2] at C2
            clear f6 g1 g2 hE f3 f4 f5
            have hf1 : (putS x A k n).size = x.size := f1
            clear f1
            generalize putS x A k n = X at *
            have HC1 := Lib.hid C1; clear C1
            have HC2 := Lib.hid C2; clear C2
            go_wp2_with (first
              | (with_reducible refine (HC1.out _).mono ?_; rintro e w1 ⟨rfl, hw1⟩; replace hur := hur.next hw1; clear hw1)
              | (with_reducible refine (HC2.out _).mono ?_; rintro e w1 ⟨rfl, rfl⟩))
            go_quiet (fail)
            go_wp2_with fail
            go_roundw
            case rel => exact ⟨k + 1, by omega, by omega, by go_num, hur.drewN _⟩
            case measure => simp [intOf]; omega
          · have C1 := fun w => field_Put x A k n w (by omega) (by omega) (by have := Hn.out; omega)
            have hE' : (putE x A k n != 0) = true := by simpa using hE
            have HC1 := Lib.hid C1; clear C1 hE
            go_wp2_with (first
              | (with_reducible refine (HC1.out _).mono ?_; rintro e w1 ⟨rfl, hw1⟩; replace hur := hur.next hw1; clear hw1))
            go_roundw
            case rel => exact ⟨k + 1, by omega, by omega, by go_num, hur⟩
            case measure => simp [intOf]; omega
        · obtain rfl : k = 9 := by omega
          clear hA hA2
          obtain ⟨B, hB, hB2⟩ := at_and n x.size Hn.out hz
          have C5 := Lib.hid law1_fixed
          have C3 := fun w => field_PutText x B y w (by omega) (by omega)
          by_cases hE : ptE x B y = 0
          · obtain ⟨f1, f2, f3, f4, f5⟩ := size_ptS x y B hE
            obtain ⟨g1, g2, g3⟩ := text_pt x y B hE
            have e1 := pt_head x y B hE
            have e2 := pt_tail x y B hE
            have C4 := fun w => field_Text (ptS x B y) B w (by omega)
            rw [hE, f4] at C3
            rw [g1, g2, g3] at C4
            clear f5 g1 g2 g3 hE f4
            have hf1 : (ptS x B y).size = x.size := f1
            clear f1
            generalize ptS x B y = X at *
            have HC3 := Lib.hid C3; clear C3
            have HC4 := Lib.hid C4; clear C4
            have d1 : ((B : Int) + (y.size : Int) + 1 == (B : Int) + 1 + (y.size : Int)) = true := by simp; omega
            have d2 : ((B : Int) + (y.size : Int) + 1).toNat = B + y.size + 1 := by omega
            go_wp2_with (first
              | (with_reducible refine (HC3.out _).mono ?_; rintro e w1 ⟨rfl, hw1⟩; replace hur := hur.next hw1; clear hw1)
              | (with_reducible refine (HC4.out _).mono ?_; rintro e w1 ⟨rfl, rfl⟩)
              | (with_reducible refine (C5.out _).mono ?_; rintro e w1 ⟨rfl, hw1⟩; replace hur := hur.next hw1; clear hw1))
            have d3 : (0 : Int) ≤ (B : Int) + (y.size : Int) + 1 := by omega
            have d4 : (B : Int) + (y.size : Int) + 1 ≤ (x.size : Int) := by omega
            have d5 : IntKind.i64.wrap ((B : Int) + 1) = (B : Int) + 1 := IntWalk.i64_in _ ⟨by omega, by omega⟩
            have d6 : IntKind.i64.wrap ((B : Int) + 1 + (y.size : Int)) = (B : Int) + 1 + (y.size : Int) := IntWalk.i64_in _ ⟨by omega, by omega⟩
            have d7 : (0 : Int) ≤ (B : Int) := by omega
            have d8 : (B : Int) ≤ (x.size : Int) := by omega
            have d9 := later_ne w1
            refine wp_region_later (by kernel_rfl) (by kernel_rfl) ?_
            repeat (go_big_quiet_step ((go_at_call 14; exact Calls.later (C5.out _))))
            refine wpQuiet_nil ?_
            intro w9 hw9
            obtain ⟨u9, rfl⟩ := hw9
            clear d1 d2 d3 d4 d5 d6 d7 d8 d9 e1 e2 hf1
            go_wp2_with fail
            go_ret
            exact ⟨rfl, hur.trans u9.up⟩
          · have hE' : (ptE x B y != 0) = true := by simpa using hE
            have e1 : ptS x B y = ByteArray.empty := by simp [ptS, hE]
            have e2 : ptTo x B y = 0 := by simp [ptTo, hE]
            rw [e1, e2] at C3
            clear hE e1 e2
            have HC3 := Lib.hid C3; clear C3
            go_wp2_with (first
              | (with_reducible refine (HC3.out _).mono ?_; rintro e w1 ⟨rfl, hw1⟩; replace hur := hur.next hw1; clear hw1)
              | (with_reducible refine (C5.out _).mono ?_; rintro e w1 ⟨rfl, hw1⟩; replace hur := hur.next hw1; clear hw1))
            go_ret
            exact ⟨rfl, hur⟩

theorem back_law (s : ByteArray) (hs : s.size ≤ maxLen) (t : ByteArray) (ht : t.size ≤ maxLen) (n : Int) (wn : (Lit.int .u64 n).wf = true) (w : World) :
    Calls Try.prog 5 #[.string s, .string t, .int .u64 n] w fun e w' => e = .returned (.bool true) ∧ Below w.heap.size w w' := by
  have := bounds_u64 wn
  obtain ⟨n, rfl⟩ := Int.eq_ofNat_of_zero_le this.1
  exact back_walk s t n w hs ht (by omega)
end Go.Proofs.Ytoogmpoahnjfkaa
