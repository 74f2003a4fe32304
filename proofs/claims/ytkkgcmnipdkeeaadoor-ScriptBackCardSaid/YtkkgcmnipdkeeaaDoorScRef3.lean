/- Layer 24, the document's side: bytes in base 16; numerals. -/
import Derived.Test.YtkkgcmnipdkeeaaDoorScWalk5
namespace Go.Proofs.YtkkgcmnipdkeeaaDoor
open Go.RowKit Bw
set_option linter.unusedVariables false
theorem one_of (b : UInt8) (w : World) : Calls Tryd.prog 32 #[.int .i64 (b.toNat : Int)] w fun e w' => e = .returned (.string (str [b])) ∧ Below w.heap.size w w' := by
  have h := ref24_one (b.toNat : Int) (by omega) (by have := b.toNat_lt; omega) w
  rw [numL_one, Int.toNat_natCast] at h
  have e : UInt8.ofNat b.toNat = b := by simp
  rw [e] at h
  exact h
theorem digit_get : ∀ n (h : n < 16), digitsS[n]'(by have : digitsS.size = 16 := rfl; omega) = hexC n := by decide +kernel
set_option maxHeartbeats 1000000 in
theorem ref24_hex (s : ByteArray) (hs : s.size ≤ 1099511627776) (w : World) : Calls Tryd.prog 37 #[.string s] w fun e w' => e = .returned (.string (str (hexL s))) ∧ Below w.heap.size w w' := by
  have HR := Lib.hid (show str (hexL s) = str (32 :: 58 :: hexB (lst s)) from rfl)
  generalize str (hexL s) = R at *
  have hl : (lst s).length = s.size := lst_length s
  have HL := Lib.hid hl
  have CO := Lib.hid one_of
  clear hl
  go_enter Tryd.func37, Tryd.ntmps37
  go_wp2_with fail
  go_loopw [3, 5] (fun v3 v5 wr => ∃ m : Nat, m ≤ s.size ∧ v5 = .int .i64 m ∧ v3 = .string (str (32 :: 58 :: hexB ((lst s).take m))) ∧ Up w wr) (fun _ v _ => s.size - (intOf v).toNat)
  case atStart => exact ⟨0, by omega, rfl, rfl, Up.refl w⟩
  case round =>
    obtain ⟨m, hmm, rfl, rfl, hu⟩ := hrel
    have i0 : (0 : Int) ≤ (m : Int) := by omega
    by_cases hlt : m < s.size
    · have b1 : (m : Int) < (s.size : Int) := by omega
      have hml : m < (lst s).length := by have := HL.out; omega
      go_upto_region 5 with fail
      obtain ⟨c, hcs⟩ : ∃ c, s[m]'hlt = c := ⟨_, rfl⟩
      have HC := Lib.hid (show (lst s)[m] = c from hcs)
      have hc3 : 0 ≤ (c.toNat : Int) ∧ (c.toNat : Int) < 256 := by have := c.toNat_lt; omega
      obtain ⟨q1, hq1⟩ : ∃ q1 : Nat, (c.toNat : Int) / 16 = (q1 : Int) := ⟨c.toNat / 16, by omega⟩
      obtain ⟨q2, hq2⟩ : ∃ q2 : Nat, (c.toNat : Int) % 16 = (q2 : Int) := ⟨c.toNat % 16, by omega⟩
      obtain ⟨DD, hDD⟩ : ∃ DD : ByteArray, (⟨#[48, 49, 50, 51, 52, 53, 54, 55, 56, 57, 97, 98, 99, 100, 101, 102]⟩ : ByteArray) = DD := ⟨_, rfl⟩
      have hd16 : DD.size = 16 := by rw [← hDD]; rfl
      have k1 : q1 < 16 := by omega
      have k2 : q2 < 16 := by omega
      have k3 : q1 < DD.size := by omega
      have k4 : q2 < DD.size := by omega
      have g1 : DD[q1] = hexC q1 := by subst hDD; exact digit_get q1 k1
      have g2 : DD[q2] = hexC q2 := by subst hDD; exact digit_get q2 k2
      obtain ⟨p1, hp1⟩ : ∃ p, DD[q1]'k3 = p := ⟨_, rfl⟩
      obtain ⟨p2, hp2⟩ : ∃ p, DD[q2]'k4 = p := ⟨_, rfl⟩
      rw [hp1] at g1
      rw [hp2] at g2
      have b3 : 0 ≤ (p1.toNat : Int) ∧ (p1.toNat : Int) < 256 := by have := p1.toNat_lt; omega
      have b4 : 0 ≤ (p2.toNat : Int) ∧ (p2.toNat : Int) < 256 := by have := p2.toNat_lt; omega
      have n1 : q1 = c.toNat / 16 := by omega
      have n2 : q2 = c.toNat % 16 := by omega
      have d1 : (q1 : Int) < (DD.size : Int) := by omega
      have d2 : (q2 : Int) < (DD.size : Int) := by omega
      have hz := HL.out
      have z1 : ¬ 9223372036854775807 < (str [p1]).size + (str [p2]).size := by rw [size_str, size_str]; simp
      have z2 : ¬ 9223372036854775807 < (str (32 :: 58 :: hexB ((lst s).take m))).size + (str [p1] ++ str [p2]).size := by
        rw [ByteArray.size_append, size_str, size_str, size_str]
        simp only [List.length_cons, List.length_nil, hexB_len, List.length_take]
        omega
      have HT := Lib.hid (show str (32 :: 58 :: hexB ((lst s).take m)) ++ (str [p1] ++ str [p2]) = str (32 :: 58 :: hexB ((lst s).take (m + 1))) by
        rw [g1, g2, n1, n2, str_append, str_append, List.take_succ_eq_append_getElem hml, HC.out]
        simp [hexB])
      rw [hDD]
      have HDD := Lib.hid hDD
      clear hDD hd16 hz g1 g2 n1 n2 k1 k2 HC
      generalize hexB ((lst s).take m) = X at *
      have hne := later_ne wr
      refine wp_region_later (by kernel_rfl) (by kernel_rfl) ?_
      repeat (go_big_quiet_step ((go_at_call 32; with_reducible exact Calls.later (CO.out _ _))))
      refine wpQuiet_nil ?_
      intro w9 hw9
      obtain ⟨u9, rfl⟩ := hw9
      replace hu := hu.trans u9.up
      clear hne
      generalize u9.world = w9 at *
      have hDD := HDD.out
      clear HDD hp1 hp2 d1 d2
      subst hDD
      go_wp2_with fail
      go_roundw
      case rel => exact ⟨m + 1, by omega, by go_num, by rw [HT.out], hu⟩
      case measure => simp [intOf]; omega
    · have hml : m = s.size := by omega
      subst hml
      have hz := HL.out
      rw [List.take_of_length_le (by omega), ← HR.out]
      go_wp2_with fail
      go_ret
      exact ⟨rfl, hu⟩
end Go.Proofs.YtkkgcmnipdkeeaaDoor
