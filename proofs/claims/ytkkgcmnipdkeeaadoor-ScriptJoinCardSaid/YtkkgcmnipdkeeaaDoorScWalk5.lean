/- Layer 24: bytes in base 16. -/
import Derived.Test.YtkkgcmnipdkeeaaDoorScWalk3
namespace Bw
/-- Bytes in base 16, without what stands ahead. -/
def hexB (l : List UInt8) : List UInt8 := l.flatMap fun c => [hexC (c.toNat / 16), hexC (c.toNat % 16)]
theorem hexB_len (l : List UInt8) : (hexB l).length = 2 * l.length := by
  induction l with
  | nil => rfl
  | cons c l ih => simp only [hexB, List.flatMap_cons, List.length_append, List.length_cons, List.length_nil] at *; omega
def digitsS : ByteArray := ⟨#[48, 49, 50, 51, 52, 53, 54, 55, 56, 57, 97, 98, 99, 100, 101, 102]⟩
theorem digit_at : ∀ n < 16, digitsS.extract n (n + 1) = str [hexC n] := by decide +kernel
end Bw
namespace Go.Proofs.YtkkgcmnipdkeeaaDoor
open Go.RowKit Bw
set_option linter.unusedVariables false
set_option maxHeartbeats 1000000 in
theorem script_hex (s : ByteArray) (hs : s.size ≤ 1099511627776) (w : World) : Calls Tryd.prog 35 #[.string s] w fun e w' => e = .returned (.string (str (hexL s))) ∧ Below w.heap.size w w' := by
  have hm : s.size ≤ maxLen := by unfold maxLen; omega
  have HR := Lib.hid (show str (hexL s) = str (32 :: 58 :: hexB (lst s)) from rfl)
  generalize str (hexL s) = R at *
  have hl : (lst s).length = s.size := lst_length s
  go_enter Tryd.func35, Tryd.ntmps35
  go_wp2_with (with_reducible refine wpList_toBytes rfl _ 9 44 5 rfl Tryd.underlying9 Tryd.underlying44 Tryd.underlying5 s rfl w.heap.size w (Below.refl _ _) (Nat.le_refl _) ?_ hm; intro g1 cap1 w1 hb1 hw1 hw1' hg1 hg1' hc1 hc2)
  have HB := Lib.hid hb1
  have HL := Lib.hid hl
  clear hb1 hl
  go_loopw [3, 9] (fun v3 v9 wr => ∃ m : Nat, m ≤ s.size ∧ v9 = .int .i64 m ∧ v3 = .string (str (32 :: 58 :: hexB ((lst s).take m))) ∧ Up w1 wr) (fun _ v _ => s.size - (intOf v).toNat)
  case atStart => exact ⟨0, by omega, rfl, rfl, Up.refl w1⟩
  case round =>
    obtain ⟨m, hmm, rfl, rfl, hu⟩ := hrel
    have i0 : (0 : Int) ≤ (m : Int) := by omega
    by_cases hlt : m < s.size
    · have b1 : (m : Int) < (s.size : Int) := by omega
      have hml : m < (lst s).length := by have := HL.out; omega
      have e1 := (HB.out.below (Below.trans (Below.refl _ _) hu) hg1').cell m hml
      rw [Nat.zero_add] at e1
      generalize hc : (lst s)[m] = c at *
      have HC := Lib.hid hc
      clear hc
      have hc3 : 0 ≤ (c.toNat : Int) ∧ (c.toNat : Int) < 256 := by have := c.toNat_lt; omega
      go_upto_region 5 with fail
      have q1 : (⟨#[48, 49, 50, 51, 52, 53, 54, 55, 56, 57, 97, 98, 99, 100, 101, 102]⟩ : ByteArray).extract (c.toNat / 16) (c.toNat / 16 + 1) = str [hexC (c.toNat / 16)] := digit_at _ (by have := c.toNat_lt; omega)
      have q2 : (⟨#[48, 49, 50, 51, 52, 53, 54, 55, 56, 57, 97, 98, 99, 100, 101, 102]⟩ : ByteArray).extract (c.toNat % 16) (c.toNat % 16 + 1) = str [hexC (c.toNat % 16)] := digit_at _ (by omega)
      have z1 : ¬ 9223372036854775807 < ((⟨#[48, 49, 50, 51, 52, 53, 54, 55, 56, 57, 97, 98, 99, 100, 101, 102]⟩ : ByteArray).extract (c.toNat / 16) (c.toNat / 16 + 1)).size + ((⟨#[48, 49, 50, 51, 52, 53, 54, 55, 56, 57, 97, 98, 99, 100, 101, 102]⟩ : ByteArray).extract (c.toNat % 16) (c.toNat % 16 + 1)).size := by rw [q1, q2, size_str, size_str]; simp
      have hz := HL.out
      have z2 : ¬ 9223372036854775807 < (str (32 :: 58 :: hexB ((lst s).take m))).size + ((⟨#[48, 49, 50, 51, 52, 53, 54, 55, 56, 57, 97, 98, 99, 100, 101, 102]⟩ : ByteArray).extract (c.toNat / 16) (c.toNat / 16 + 1) ++ (⟨#[48, 49, 50, 51, 52, 53, 54, 55, 56, 57, 97, 98, 99, 100, 101, 102]⟩ : ByteArray).extract (c.toNat % 16) (c.toNat % 16 + 1)).size := by
        rw [ByteArray.size_append, q1, q2, size_str, size_str, size_str]
        simp only [List.length_cons, List.length_nil, hexB_len, List.length_take]
        omega
      have HT := Lib.hid (show str (32 :: 58 :: hexB ((lst s).take m)) ++ ((⟨#[48, 49, 50, 51, 52, 53, 54, 55, 56, 57, 97, 98, 99, 100, 101, 102]⟩ : ByteArray).extract (c.toNat / 16) (c.toNat / 16 + 1) ++ (⟨#[48, 49, 50, 51, 52, 53, 54, 55, 56, 57, 97, 98, 99, 100, 101, 102]⟩ : ByteArray).extract (c.toNat % 16) (c.toNat % 16 + 1)) = str (32 :: 58 :: hexB ((lst s).take (m + 1))) by
        rw [q1, q2, str_append, str_append, List.take_succ_eq_append_getElem hml, HC.out]
        simp [hexB])
      clear q1 q2 hz
      generalize hexB ((lst s).take m) = X at *
      have l0 := Later.cell_of e1
      have hne := later_ne wr
      clear e1
      refine wp_region_later (by kernel_rfl) (by kernel_rfl) ?_
      repeat (go_big_quiet_step (fail))
      refine wpQuiet_nil ?_
      intro w9 hw9
      obtain ⟨u9, rfl⟩ := hw9
      replace hu := hu.trans u9.up
      clear l0 hne
      generalize u9.world = w9 at *
      go_wp2_with fail
      go_roundw
      case rel => exact ⟨m + 1, by omega, by go_num, by rw [HT.out], hu⟩
      case measure => simp [intOf]; omega
    · have hml : m = s.size := by omega
      subst hml
      have hz := HL.out
      rw [List.take_of_length_le (by omega), ← HR.out]
      go_wp2_with fail
      go_ret
      exact ⟨rfl, Below.trans hw1 (Below.mono hu (Below.size hw1))⟩
end Go.Proofs.YtkkgcmnipdkeeaaDoor
