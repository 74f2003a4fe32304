import Derived.Test.YtkkgcmnipdkeeaaDoorRows
import Derived.Test.YtkkgcmnipdkeeaaDoorFieldPure
import Derived.WalkKit
import Derived.WalkSpells
import Derived.WalkLawsBesides
import Derived.Lib.Hide
import Derived.Test.YtkkgcmnipdkeeaaDoorBytesLaw
namespace Go.Proofs.YtkkgcmnipdkeeaaDoor
open Go.RowKit
set_option linter.unusedVariables false

theorem placeE_le {s : ByteArray} {a : Int} (h0 : ¬ a < 0) (h1 : ¬ (s.size : Int) < a) : Bw.placeE s a = 0 := by simp [Bw.placeE]; omega

set_option maxHeartbeats 400000 in
theorem field_place (s : ByteArray) (a : Int) (w : World) :
    Calls Tryd.prog 56 #[.string s, .int .i64 a] w fun e w' => e = .returned (.int .i64 (Bw.placeE s a)) ∧ w = w' := by
  by_cases h0 : a < 0
  · have E : Bw.placeE s a = 1 := by simp [Bw.placeE, h0]
    rw [E]; clear E
    go_enter Tryd.func56, Tryd.ntmps56
    go_wp2
    go_ret
    exact ⟨rfl, rfl⟩
  · by_cases h1 : (s.size : Int) < a
    · have E : Bw.placeE s a = 1 := by simp [Bw.placeE, h1]
      rw [E]; clear E
      go_enter Tryd.func56, Tryd.ntmps56
      go_wp2
      go_ret
      exact ⟨rfl, rfl⟩
    · have E : Bw.placeE s a = 0 := placeE_le h0 h1
      rw [E]; clear E
      go_enter Tryd.func56, Tryd.ntmps56
      go_wp2
      go_ret
      exact ⟨rfl, rfl⟩

set_option maxHeartbeats 400000 in
theorem field_room (s : ByteArray) (a n : Int) (w : World) (hs : s.size ≤ 1099511627776) :
    Calls Tryd.prog 55 #[.string s, .int .i64 a, .int .i64 n] w fun e w' => e = .returned (.int .i64 (Bw.roomE s a n)) ∧ w = w' := by
  by_cases h0 : n < 1
  · have E : Bw.roomE s a n = 1 := by simp [Bw.roomE, h0]
    rw [E]; clear E
    go_enter Tryd.func55, Tryd.ntmps55
    go_wp2_with fail
    go_ret
    exact ⟨rfl, rfl⟩
  · by_cases h1 : 8 < n
    · have E : Bw.roomE s a n = 1 := by simp [Bw.roomE, h1]
      rw [E]; clear E
      go_enter Tryd.func55, Tryd.ntmps55
      go_wp2_with fail
      go_ret
      exact ⟨rfl, rfl⟩
    · by_cases h2 : a < 0 ∨ (s.size : Int) < a
      · have E : Bw.roomE s a n = 1 := by simp [Bw.roomE, h2]
        have P : Bw.placeE s a = 1 := by simp [Bw.placeE, h2]
        rw [E]; clear E
        have C := field_place s a w
        rw [P] at C
        have H := Lib.hid C; clear C
        go_enter Tryd.func55, Tryd.ntmps55
        clear h2
        go_wp2_with (refine H.out.mono ?_; rintro e w' ⟨rfl, rfl⟩)
        go_ret
        exact ⟨rfl, rfl⟩
      · have P : Bw.placeE s a = 0 := by simp [Bw.placeE, h2]
        have h3 : 0 ≤ a := by omega
        have h4 : a ≤ s.size := by omega
        clear h2
        have C := field_place s a w
        rw [P] at C
        clear P
        have H := Lib.hid C; clear C
        by_cases h5 : (s.size : Int) - a < n
        · have E : Bw.roomE s a n = 3 := by simp [Bw.roomE]; omega
          rw [E]; clear E
          go_enter Tryd.func55, Tryd.ntmps55
          go_wp2_with (refine H.out.mono ?_; rintro e w' ⟨rfl, rfl⟩)
          go_ret
          exact ⟨rfl, rfl⟩
        · have E : Bw.roomE s a n = 0 := by simp [Bw.roomE]; omega
          rw [E]; clear E
          go_enter Tryd.func55, Tryd.ntmps55
          go_wp2_with (refine H.out.mono ?_; rintro e w' ⟨rfl, rfl⟩)
          go_ret
          exact ⟨rfl, rfl⟩
end Go.Proofs.YtkkgcmnipdkeeaaDoor
namespace Go.Proofs.YtkkgcmnipdkeeaaDoor
open Go.RowKit
set_option linter.unusedVariables false

/-- One byte more of the number at a place, as the loop reckons it. -/
theorem get_step (s : ByteArray) (i j k : Nat) (hk : k ≤ 8) (hj : j < k) (h : i + j < s.size) :
    bits BinOp.or IntKind.u64 ((Bw.le (((Bw.lst s).drop i).take j) : Nat) : Int) (IntKind.u64.wrap (IntKind.u64.wrap ((s[i + j].toNat : Nat) : Int) * 2 ^ (8 * j))) = ((Bw.le (((Bw.lst s).drop i).take (j + 1)) : Nat) : Int) := by
  have hl : (((Bw.lst s).drop i).take j).length = j := by simp [Bw.lst_length]; omega
  have hx := Bw.le_lt (((Bw.lst s).drop i).take j)
  rw [hl] at hx
  have hp : (256 : Nat) ^ j ≤ 256 ^ 7 := Nat.pow_le_pow_right (by omega) (by omega)
  have hb : s[i + j].toNat < 256 := s[i + j].toNat_lt
  have e1 : IntKind.u64.wrap ((s[i + j].toNat : Nat) : Int) = ((s[i + j].toNat : Nat) : Int) := IntWalk.u64_in _ ⟨by omega, by omega⟩
  have hm : s[i + j].toNat * 256 ^ j ≤ 255 * 256 ^ 7 := Nat.mul_le_mul (by omega) hp
  have e2 : ((s[i + j].toNat : Nat) : Int) * 2 ^ (8 * j) = ((s[i + j].toNat * 256 ^ j : Nat) : Int) := by rw [← Bw.pow8]; simp
  rw [e1, e2, IntWalk.u64_in _ ⟨by omega, by omega⟩]
  rw [u64_or_nat _ _ (by omega) (by omega), ← Bw.pow8, Bw.or_shift _ _ _ (by rw [Bw.pow8]; exact hx)]
  congr 1
  have hg : ((Bw.lst s).drop i)[j]? = some s[i + j] := by
    rw [List.getElem?_drop, Bw.lst_getElem]; exact List.getElem?_eq_getElem _
  rw [List.take_add_one, hg, Bw.le_append, hl, Bw.pow8]
  simp [Bw.le]

set_option maxHeartbeats 400000 in
theorem field_Get (s : ByteArray) (a n : Int) (w : World) (hs : s.size ≤ 1099511627776) :
    Calls Tryd.prog 49 #[.string s, .int .i64 a, .int .i64 n] w fun e w' => e = .returned (.tuple #[.int .u64 (Bw.getV s a n), .int .i64 (Bw.roomE s a n)]) ∧ w = w' := by
  have C := field_room s a n w hs
  by_cases h0 : Bw.roomE s a n = 0
  · have h1 : 1 ≤ n := by simp [Bw.roomE] at h0; omega
    have h2 : n ≤ 8 := by simp [Bw.roomE] at h0; omega
    have h3 : 0 ≤ a := by simp [Bw.roomE] at h0; omega
    have h4 : a + n ≤ s.size := by simp [Bw.roomE] at h0; omega
    obtain ⟨i, rfl⟩ := Int.eq_ofNat_of_zero_le h3
    obtain ⟨k, rfl⟩ := Int.eq_ofNat_of_zero_le (show 0 ≤ n by omega)
    have E : Bw.getV s i k = (Bw.le (((Bw.lst s).drop i).take k) : Nat) := by simp [Bw.getV, h0]
    rw [E, h0]; clear E
    rw [h0] at C; clear h0
    have H := Lib.hid C; clear C
    go_enter Tryd.func49, Tryd.ntmps49
    go_wp2_with (refine H.out.mono ?_; rintro e w' ⟨rfl, rfl⟩)
    go_loop [9, 19] (fun v c => ∃ j : Nat, j ≤ k ∧ c = .int .i64 j ∧ v = .int .u64 ((Bw.le (((Bw.lst s).drop i).take j) : Nat) : Int)) (fun _ c => k - (intOf c).toNat)
    case atStart => exact ⟨0, Nat.zero_le _, rfl, by simp [Bw.le]⟩
    case round =>
      obtain ⟨j, hj, rfl, rfl⟩ := hrel
      go_wp2
      · have hlt : j < k := by assumption
        go_round
        case rel => exact ⟨j + 1, by omega, by go_num, by rw [get_step s i j k (by omega) hlt (by omega)]⟩
        case measure => simp [intOf]; omega
      · have hlt : ¬ j < k := by assumption
        obtain rfl : j = k := by omega
        go_ret2
        exact ⟨rfl, rfl⟩
  · have E : Bw.getV s a n = 0 := by simp [Bw.getV, h0]
    rw [E]; clear E
    have h0' : (Bw.roomE s a n != 0) = true := by simpa using h0
    clear h0
    have H := Lib.hid C; clear C
    go_enter Tryd.func49, Tryd.ntmps49
    go_wp2_with (refine H.out.mono ?_; rintro e w' ⟨rfl, rfl⟩)
    go_ret2
    exact ⟨rfl, rfl⟩

end Go.Proofs.YtkkgcmnipdkeeaaDoor
namespace Go.Proofs.YtkkgcmnipdkeeaaDoor
open Go.RowKit Bw
set_option linter.unusedVariables false

theorem u8info : (Tryd.prog.info? 5).map (fun i => (i.zero, i.size, i.bytes)) = some (some (.int .u8 0), 1, 1) := by kernel_rfl
theorem u8size : (Tryd.prog.info? 5).map (·.size) = some 1 := by kernel_rfl

end Go.Proofs.YtkkgcmnipdkeeaaDoor
namespace Go.Proofs.YtkkgcmnipdkeeaaDoor
open Go.RowKit Bw
set_option linter.unusedVariables false


end Go.Proofs.YtkkgcmnipdkeeaaDoor
namespace Go.Proofs.YtkkgcmnipdkeeaaDoor
open Go.RowKit Bw
set_option linter.unusedVariables false

theorem getD_at (s : ByteArray) (i : Nat) (h : i < s.size) : (lst s).getD i 0 = s[i] := by
  rw [lst_getElem s i h, List.getD_eq_getElem?_getD, List.getElem?_eq_getElem (by rw [lst_length]; exact h)]; rfl

theorem extract_str (s : ByteArray) (i j : Nat) : s.extract i j = str (((lst s).drop i).take (j - i)) := by
  have := ByteArray.extract_mk (lst s) i j
  have e : (ByteArray.mk (lst s).toArray) = s := str_lst s
  rw [e] at this
  exact this

set_option maxHeartbeats 400000 in
theorem field_Text (s : ByteArray) (i : Int) (w : World) (hs : s.size ≤ 1099511627776) :
    Calls Tryd.prog 50 #[.string s, .int .i64 i] w fun e w' =>
      e = .returned (.tuple #[.string (textS s i), .int .i64 (textTo s i), .int .i64 (textE s i)]) ∧ w = w' := by
  have C := field_place s i w
  by_cases h0 : i < 0 ∨ (s.size : Int) < i
  · have P : placeE s i = 1 := by simp [placeE, h0]
    have E : textE s i = 1 := by simp [textE, h0]
    rw [show textS s i = ByteArray.empty by simp [textS, E], show textTo s i = 0 by simp [textTo, E], E]
    rw [P] at C
    clear h0 E P
    have H := Lib.hid C; clear C
    go_enter Tryd.func50, Tryd.ntmps50
    go_wp2_with (with_reducible refine H.out.mono ?_; rintro e w' ⟨rfl, rfl⟩)
    go_ret3
    exact ⟨rfl, rfl⟩
  · have P : placeE s i = 0 := by simp [placeE, h0]
    have h1 : 0 ≤ i := by omega
    obtain ⟨i, rfl⟩ := Int.eq_ofNat_of_zero_le h1
    have h2 : i ≤ s.size := by omega
    clear h0
    rw [P] at C
    have H := Lib.hid C; clear C P
    by_cases h3 : i = s.size
    · have E : textE s i = 3 := by simp [textE]; omega
      rw [show textS s i = ByteArray.empty by simp [textS, E], show textTo s i = 0 by simp [textTo, E], E]
      clear E
      have h3' : ((i : Int) == (s.size : Int)) = true := by simp; omega
      clear h3
      go_enter Tryd.func50, Tryd.ntmps50
      go_wp2_with (with_reducible refine H.out.mono ?_; rintro e w' ⟨rfl, rfl⟩)
      go_ret3
      exact ⟨rfl, rfl⟩
    · have h4 : i < s.size := by omega
      have h3' : ((i : Int) == (s.size : Int)) = false := by simp; omega
      clear h3
      have hD := getD_at s i h4
      have hb : s[i].toNat < 256 := s[i].toNat_lt
      by_cases h5 : (s.size : Int) - i - 1 < (s[i].toNat : Int)
      · have E : textE s i = 3 := by simp only [textE, Int.toNat_natCast, hD]; rw [if_neg (by omega), if_pos (by omega)]
        rw [show textS s i = ByteArray.empty by simp [textS, E], show textTo s i = 0 by simp [textTo, E], E]
        clear E hD
        go_enter Tryd.func50, Tryd.ntmps50
        go_wp2_with (with_reducible refine H.out.mono ?_; rintro e w' ⟨rfl, rfl⟩)
        go_ret3
        exact ⟨rfl, rfl⟩
      · have E : textE s i = 0 := by simp only [textE, Int.toNat_natCast, hD]; rw [if_neg (by omega), if_neg (by omega)]
        have e1 : textS s i = s.extract (i + 1) (i + 1 + s[i].toNat) := by
          simp only [textS, E, if_true, Int.toNat_natCast, hD]
          rw [extract_str]; congr 2; omega
        have e2 : textTo s i = (i : Int) + 1 + (s[i].toNat : Int) := by simp only [textTo, E, if_true, Int.toNat_natCast, hD]
        rw [e1, e2, E]
        clear e1 e2 E hD
        go_enter Tryd.func50, Tryd.ntmps50
        go_wp2_with (with_reducible refine H.out.mono ?_; rintro e w' ⟨rfl, rfl⟩)
        go_ret3
        exact ⟨rfl, rfl⟩


end Go.Proofs.YtkkgcmnipdkeeaaDoor
namespace Go.Proofs.YtkkgcmnipdkeeaaDoor
open Go.RowKit Bw
set_option linter.unusedVariables false

theorem one_byte (w : World) (n : Nat) (hn : n ≤ 255) : BytesAt (w.alloc (.cells #[.int .u8 (n : Int)] 5)) w.heap.size 0 [UInt8.ofNat n] :=
  bytesAt_alloc _ _ _ fun j hj => by
    have : j = 0 := by simpa using hj
    subst this
    have e : (UInt8.ofNat n).toNat = n % 256 := UInt8.toNat_ofNat'
    simp [e]; omega


theorem bareL_snoc (l : List UInt8) (b : UInt8) : bareL (l ++ [b]) = if b = 0 then bareL l else l ++ [b] := by
  simp only [bareL, List.reverse_append, List.reverse_cons, List.reverse_nil, List.nil_append, List.cons_append, List.dropWhile_cons]
  by_cases h : b = 0 <;> simp [h]

theorem bareL_nil : bareL [] = [] := rfl

/-- Where the bytes 0 at the end begin. -/
theorem bare_stop (s : ByteArray) (n : Nat) (hn : n ≤ s.size) (h : bareL (lst s) = bareL ((lst s).take n)) (hz : n = 0 ∨ ∃ h : n - 1 < s.size, 0 < n ∧ s[n - 1] ≠ 0) : bareS s = s.extract 0 n := by
  rw [bareS, extract_str, h]
  congr 1
  simp only [List.drop_zero, Nat.sub_zero]
  rcases hz with rfl | ⟨hn1, h0, hne⟩
  · rfl
  · obtain ⟨m, rfl⟩ : ∃ m, n = m + 1 := ⟨n - 1, by omega⟩
    have hg : (lst s)[m]? = some s[m] := by rw [lst_getElem]; exact List.getElem?_eq_getElem _
    rw [List.take_add_one, hg]
    simp only [Option.toList_some]
    rw [bareL_snoc, if_neg (by simpa using hne)]

theorem bare_step (s : ByteArray) (n : Nat) (hn : n < s.size) (h : bareL (lst s) = bareL ((lst s).take (n + 1))) (hz : s[n] = 0) : bareL (lst s) = bareL ((lst s).take n) := by
  have hg : (lst s)[n]? = some s[n] := by rw [lst_getElem]; exact List.getElem?_eq_getElem _
  rw [List.take_add_one, hg] at h
  simp only [Option.toList_some] at h
  rw [h, bareL_snoc, if_pos hz]


end Go.Proofs.YtkkgcmnipdkeeaaDoor
