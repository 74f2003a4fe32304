import Derived.Test.YtokpkkjgagbpfaaRows
import Derived.Test.YtokpkkjgagbpfaaFieldPure
import Derived.WalkKit
import Derived.WalkSpells
import Derived.WalkLawsBesides
import Derived.Lib.Hide
import Derived.Test.YtokpkkjgagbpfaaBytesLaw
namespace Go.Proofs.Ytokpkkjgagbpfaa
open Go.RowKit
set_option linter.unusedVariables false

theorem placeE_le {s : ByteArray} {a : Int} (h0 : ¬ a < 0) (h1 : ¬ (s.size : Int) < a) : Bw.placeE s a = 0 := by simp [Bw.placeE]; omega

set_option maxHeartbeats 400000 in
theorem field_place (s : ByteArray) (a : Int) (w : World) :
    Calls Try.prog 89 #[.string s, .int .i64 a] w fun e w' => e = .returned (.int .i64 (Bw.placeE s a)) ∧ w = w' := by
  by_cases h0 : a < 0
  · have E : Bw.placeE s a = 1 := by simp [Bw.placeE, h0]
    rw [E]; clear E
    go_enter Try.func89, Try.ntmps89
    go_wp2
    go_ret
    exact ⟨rfl, rfl⟩
  · by_cases h1 : (s.size : Int) < a
    · have E : Bw.placeE s a = 1 := by simp [Bw.placeE, h1]
      rw [E]; clear E
      go_enter Try.func89, Try.ntmps89
      go_wp2
      go_ret
      exact ⟨rfl, rfl⟩
    · have E : Bw.placeE s a = 0 := placeE_le h0 h1
      rw [E]; clear E
      go_enter Try.func89, Try.ntmps89
      go_wp2
      go_ret
      exact ⟨rfl, rfl⟩

set_option maxHeartbeats 400000 in
theorem field_room (s : ByteArray) (a n : Int) (w : World) (hs : s.size ≤ 1099511627776) :
    Calls Try.prog 82 #[.string s, .int .i64 a, .int .i64 n] w fun e w' => e = .returned (.int .i64 (Bw.roomE s a n)) ∧ w = w' := by
  by_cases h0 : n < 1
  · have E : Bw.roomE s a n = 1 := by simp [Bw.roomE, h0]
    rw [E]; clear E
    go_enter Try.func82, Try.ntmps82
    go_wp2_with fail
    go_ret
    exact ⟨rfl, rfl⟩
  · by_cases h1 : 8 < n
    · have E : Bw.roomE s a n = 1 := by simp [Bw.roomE, h1]
      rw [E]; clear E
      go_enter Try.func82, Try.ntmps82
      go_wp2_with fail
      go_ret
      exact ⟨rfl, rfl⟩
    · by_cases h2 : a < 0 ∨ (s.size : Int) < a
      · have E : Bw.roomE s a n = 1 := by simp [Bw.roomE, h2]
        have P : Bw.placeE s a = 1 := by simp [Bw.placeE, h2]
        rw [E]; clear E
        have C := field_place s a w
        rw [P] at C
        have H := Lib.hid C; clear C
        go_enter Try.func82, Try.ntmps82
        clear h2
        go_wp2_with (refine H.out.mono ?_; rintro e w' ⟨rfl, rfl⟩)
        go_ret
        exact ⟨rfl, rfl⟩
      · have P : Bw.placeE s a = 0 := by simp [Bw.placeE, h2]
        have h3 : 0 ≤ a := by omega
        have h4 : a ≤ s.size := by omega
        clear h2
        have C := field_place s a w
        rw [P] at C
        clear P
        have H := Lib.hid C; clear C
        by_cases h5 : (s.size : Int) - a < n
        · have E : Bw.roomE s a n = 3 := by simp [Bw.roomE]; omega
          rw [E]; clear E
          go_enter Try.func82, Try.ntmps82
          go_wp2_with (refine H.out.mono ?_; rintro e w' ⟨rfl, rfl⟩)
          go_ret
          exact ⟨rfl, rfl⟩
        · have E : Bw.roomE s a n = 0 := by simp [Bw.roomE]; omega
          rw [E]; clear E
          go_enter Try.func82, Try.ntmps82
          go_wp2_with (refine H.out.mono ?_; rintro e w' ⟨rfl, rfl⟩)
          go_ret
          exact ⟨rfl, rfl⟩
end Go.Proofs.Ytokpkkjgagbpfaa
namespace Go.Proofs.Ytokpkkjgagbpfaa
open Go.RowKit
set_option linter.unusedVariables false

/-- One byte more of the number at a place, as the loop reckons it. -/
theorem get_step (s : ByteArray) (i j k : Nat) (hk : k ≤ 8) (hj : j < k) (h : i + j < s.size) :
    bits BinOp.or IntKind.u64 ((Bw.le (((Bw.lst s).drop i).take j) : Nat) : Int) (IntKind.u64.wrap (IntKind.u64.wrap ((s[i + j].toNat : Nat) : Int) * 2 ^ (8 * j))) = ((Bw.le (((Bw.lst s).drop i).take (j + 1)) : Nat) : Int) := by
  have hl : (((Bw.lst s).drop i).take j).length = j := by simp [Bw.lst_length]; omega
  have hx := Bw.le_lt (((Bw.lst s).drop i).take j)
  rw [hl] at hx
  have hp : (256 : Nat) ^ j ≤ 256 ^ 7 := Nat.pow_le_pow_right (by omega) (by omega)
  have hb : s[i + j].toNat < 256 := s[i + j].toNat_lt
  have e1 : IntKind.u64.wrap ((s[i + j].toNat : Nat) : Int) = ((s[i + j].toNat : Nat) : Int) := IntWalk.u64_in _ ⟨by omega, by omega⟩
  have hm : s[i + j].toNat * 256 ^ j ≤ 255 * 256 ^ 7 := Nat.mul_le_mul (by omega) hp
  have e2 : ((s[i + j].toNat : Nat) : Int) * 2 ^ (8 * j) = ((s[i + j].toNat * 256 ^ j : Nat) : Int) := by rw [← Bw.pow8]; simp
  rw [e1, e2, IntWalk.u64_in _ ⟨by omega, by omega⟩]
  rw [u64_or_nat _ _ (by omega) (by omega), ← Bw.pow8, Bw.or_shift _ _ _ (by rw [Bw.pow8]; exact hx)]
  congr 1
  have hg : ((Bw.lst s).drop i)[j]? = some s[i + j] := by
    rw [List.getElem?_drop, Bw.lst_getElem]; exact List.getElem?_eq_getElem _
  rw [List.take_add_one, hg, Bw.le_append, hl, Bw.pow8]
  simp [Bw.le]

set_option maxHeartbeats 400000 in
theorem field_Get (s : ByteArray) (a n : Int) (w : World) (hs : s.size ≤ 1099511627776) :
    Calls Try.prog 66 #[.string s, .int .i64 a, .int .i64 n] w fun e w' => e = .returned (.tuple #[.int .u64 (Bw.getV s a n), .int .i64 (Bw.roomE s a n)]) ∧ w = w' := by
  have C := field_room s a n w hs
  by_cases h0 : Bw.roomE s a n = 0
  · have h1 : 1 ≤ n := by simp [Bw.roomE] at h0; omega
    have h2 : n ≤ 8 := by simp [Bw.roomE] at h0; omega
    have h3 : 0 ≤ a := by simp [Bw.roomE] at h0; omega
    have h4 : a + n ≤ s.size := by simp [Bw.roomE] at h0; omega
    obtain ⟨i, rfl⟩ := Int.eq_ofNat_of_zero_le h3
    obtain ⟨k, rfl⟩ := Int.eq_ofNat_of_zero_le (show 0 ≤ n by omega)
    have E : Bw.getV s i k = (Bw.le (((Bw.lst s).drop i).take k) : Nat) := by simp [Bw.getV, h0]
    rw [E, h0]; clear E
    rw [h0] at C; clear h0
    have H := Lib.hid C; clear C
    go_enter Try.func66, Try.ntmps66
    go_wp2_with (refine H.out.mono ?_; rintro e w' ⟨rfl, rfl⟩)
    go_loop [9, 19] (fun v c => ∃ j : Nat, j ≤ k ∧ c = .int .i64 j ∧ v = .int .u64 ((Bw.le (((Bw.lst s).drop i).take j) : Nat) : Int)) (fun _ c => k - (intOf c).toNat)
    case atStart => exact ⟨0, Nat.zero_le _, rfl, by simp [Bw.le]⟩
    case round =>
      obtain ⟨j, hj, rfl, rfl⟩ := hrel
      go_wp2
      · have hlt : j < k := by assumption
        go_round
        case rel => exact ⟨j + 1, by omega, by go_num, by rw [get_step s i j k (by omega) hlt (by omega)]⟩
        case measure => simp [intOf]; omega
      · have hlt : ¬ j < k := by assumption
        obtain rfl : j = k := by omega
        go_ret2
        exact ⟨rfl, rfl⟩
  · have E : Bw.getV s a n = 0 := by simp [Bw.getV, h0]
    rw [E]; clear E
    have h0' : (Bw.roomE s a n != 0) = true := by simpa using h0
    clear h0
    have H := Lib.hid C; clear C
    go_enter Try.func66, Try.ntmps66
    go_wp2_with (refine H.out.mono ?_; rintro e w' ⟨rfl, rfl⟩)
    go_ret2
    exact ⟨rfl, rfl⟩

end Go.Proofs.Ytokpkkjgagbpfaa
namespace Go.Proofs.Ytokpkkjgagbpfaa
open Go.RowKit Bw
set_option linter.unusedVariables false

theorem u8info : (Try.prog.info? 5).map (fun i => (i.zero, i.size, i.bytes)) = some (some (.int .u8 0), 1, 1) := by kernel_rfl
theorem u8size : (Try.prog.info? 5).map (·.size) = some 1 := by kernel_rfl

set_option maxHeartbeats 400000 in
theorem field_over (s : ByteArray) (i : Nat) (g off n cap : Nat) (t : List UInt8) (w : World) (hs : s.size ≤ 1099511627776) (ht : BytesAt w g off t) (hn : n = t.length) (h1 : 1 ≤ n) (hf : i + n ≤ s.size) :
    Calls Try.prog 84 #[.string s, .int .i64 i, .slice (some ⟨g, off, none⟩) n cap] w fun e w' =>
      e = .returned (.string (str ((lst s).take i ++ t ++ (lst s).drop (i + t.length)))) ∧ Below w.heap.size w w' := by
  have hg : g < w.heap.size := ht.lt (by omega)
  have Hn := Lib.hid hn; clear hn
  have hm : s.size ≤ maxLen := by unfold maxLen; omega
  go_enter Try.func84, Try.ntmps84
  go_wp2_with (first
    | (with_reducible refine wpList_toBytes rfl _ 9 54 5 rfl Try.underlying9 Try.underlying54 Try.underlying5 s rfl w.heap.size w (Below.refl _ _) (Nat.le_refl _) ?_ hm; intro g1 cap1 w1 hb1 hw1 hw1' hg1 hg1' hc1 hc2; unfold maxLen at hc2)
    | (with_reducible refine wpList_copyBytes rfl _ _ 54 54 rfl 5 Try.underlying54 u8size g1 i (s.size - i) (cap1 - i) g off n cap ?c1 ?c2 (lst s) t hb1 (ht.below hw1 hg) Hn.out ?c3 ?c4 w.heap.size w hw1 hg1 ?_))
  case c1 => rfl
  case c2 => rfl
  case c3 => rw [lst_length]; omega
  case c4 => have := Hn.out; omega
  intro w2 hb2 hw2 hz2
  clear hz2
  go_wp2_with (first
    | (with_reducible refine wpList_toString rfl _ 54 9 5 rfl Try.underlying54 Try.underlying9 Try.underlying5 ((lst s).take i ++ t ++ (lst s).drop (i + t.length)) g1 0 s.size cap1 ?d1 ?d2 ?d3 ?_))
  case d1 => rfl
  case d2 => have := Hn.out; simp [lst_length]; omega
  case d3 => simpa using hb2
  go_wp2_with fail
  go_ret
  exact ⟨by simp, hw2⟩
end Go.Proofs.Ytokpkkjgagbpfaa
namespace Go.Proofs.Ytokpkkjgagbpfaa
open Go.RowKit Bw
set_option linter.unusedVariables false

theorem byte_of (n j : Nat) : IntKind.u8.wrap ((n : Int) / 2 ^ (8 * j)) = (((UInt8.ofNat (n / 256 ^ j)).toNat : Nat) : Int) := by
  have e : (UInt8.ofNat (n / 256 ^ j)).toNat = n / 256 ^ j % 256 := UInt8.toNat_ofNat'
  rw [e, IntKind.wrap_u8, ← Bw.pow8]
  simp

theorem put_step (w : World) (g n j k : Nat) (hj : j < k) (h : BytesAt w g 0 (toLE n j ++ List.replicate (k - j) 0)) :
    BytesAt (w.setCell ⟨g, j, none⟩ (.int .u8 (IntKind.u8.wrap ((n : Int) / 2 ^ (8 * j))))) g 0 (toLE n (j + 1) ++ List.replicate (k - (j + 1)) 0) := by
  have := h.set j (by simp [toLE_length]; omega) (UInt8.ofNat (n / 256 ^ j))
  rw [byte_of]
  have e : (toLE n j ++ List.replicate (k - j) 0).set j (UInt8.ofNat (n / 256 ^ j)) = toLE n (j + 1) ++ List.replicate (k - (j + 1)) 0 := by
    have hl := toLE_length n j
    rw [List.set_append_right _ _ (by omega), hl, toLE_snoc, Nat.sub_self]
    obtain ⟨m, hm⟩ : ∃ m, k - j = m + 1 := ⟨k - j - 1, by omega⟩
    rw [hm, List.replicate_succ, List.set_cons_zero, show k - (j + 1) = m by omega]
    simp
  rw [e] at this
  exact this

set_option maxHeartbeats 400000 in
theorem field_Put_ok (s : ByteArray) (i k n : Nat) (w : World) (hs : s.size ≤ 1099511627776) (hk : 1 ≤ k) (hk8 : k ≤ 8) (hi : i + k ≤ s.size) (hn : n < 18446744073709551616) (hfit : n < 256 ^ k) :
    Calls Try.prog 70 #[.string s, .int .i64 i, .int .i64 k, .int .u64 n] w fun e w' =>
      e = .returned (.tuple #[.string (str ((lst s).take i ++ toLE n k ++ (lst s).drop (i + k))), .int .i64 0]) ∧ Below w.heap.size w w' := by
  have C := field_room s i k w hs
  have h0 : Bw.roomE s i k = 0 := by simp [Bw.roomE]; omega
  rw [h0] at C; clear h0
  have H := Lib.hid C; clear C
  have hz : decide (0 < (n : Int) / 2 ^ (8 * k)) = false := by
    have : n / 256 ^ k = 0 := Nat.div_eq_of_lt hfit
    have e : (n : Int) / 2 ^ (8 * k) = ((n / 256 ^ k : Nat) : Int) := by rw [← Bw.pow8]; simp
    rw [e, this]; rfl
  clear hfit
  go_enter Try.func70, Try.ntmps70
  go_wp2_with (first
    | (with_reducible refine H.out.mono ?_; rintro e w' ⟨rfl, rfl⟩)
    | (with_reducible refine wpList_makeBytes rfl _ _ 54 5 rfl Try.underlying54 u8info _ _ _ _ k rfl rfl rfl rfl (by omega) w.heap.size w (Below.refl _ _) (Nat.le_refl _) ?_; intro g1 w1 hb1 hw1 hw1' hg1 hg1'))
  all_goals
    clear hz
    go_loopw [32] (fun c wr => ∃ j : Nat, j ≤ k ∧ c = .int .i64 j ∧ BytesAt wr g1 0 (toLE n j ++ List.replicate (k - j) 0) ∧ Below w.heap.size w wr ∧ g1 < wr.heap.size) (fun c _ => k - (intOf c).toNat)
    case atStart => exact ⟨0, Nat.zero_le _, rfl, by simpa [toLE] using hb1, hw1, hg1'⟩
    case round =>
      obtain ⟨j, hj, rfl, hb, hw, hgw⟩ := hrel
      by_cases hlt : j < k
      · have hc := hb.cell j (by simp [toLE_length]; omega)
        have hf := hb.free j (by simp [toLE_length]; omega)
        simp only [Nat.zero_add] at hc hf
        generalize (toLE n j ++ List.replicate (k - j) 0)[j]'(by simp [toLE_length]; omega) = old at hc
        go_wp2
        go_roundw
        case rel => exact ⟨j + 1, by omega, by go_num, put_step wr g1 n j k hlt hb, hw.setCell hg1 _, by simpa [World.setCell] using hgw⟩
        case measure => simp [intOf]; omega
      · obtain rfl : j = k := by omega
        have hbk : BytesAt wr g1 0 (toLE n j) := by simpa using hb
        have hov := field_over s i g1 0 j j (toLE n j) wr hs hbk (toLE_length n j).symm hk hi
        have HO := Lib.hid hov; clear hov hb hbk
        go_wp2_with (with_reducible refine HO.out.mono ?_; rintro e w' ⟨rfl, hw2⟩)
        go_ret2
        exact ⟨by simp [toLE_length], hw.trans (hw2.mono (by have := hw.size; omega))⟩

set_option maxHeartbeats 400000 in
theorem field_Put_bad (s : ByteArray) (i k n : Int) (w : World) (hs : s.size ≤ 1099511627776) (hb : roomE s i k ≠ 0) :
    Calls Try.prog 70 #[.string s, .int .i64 i, .int .i64 k, .int .u64 n] w fun e w' =>
      e = .returned (.tuple #[.string ByteArray.empty, .int .i64 (roomE s i k)]) ∧ w = w' := by
  have C := field_room s i k w hs
  have h0' : (roomE s i k != 0) = true := by simpa using hb
  have H := Lib.hid C; clear C hb
  go_enter Try.func70, Try.ntmps70
  go_wp2_with (with_reducible refine H.out.mono ?_; rintro e w' ⟨rfl, rfl⟩)
  go_ret2
  exact ⟨rfl, rfl⟩

set_option maxHeartbeats 400000 in
theorem field_Put_big (s : ByteArray) (i k n : Nat) (w : World) (hs : s.size ≤ 1099511627776) (hk : 1 ≤ k) (hk8 : k < 8) (hi : i + k ≤ s.size) (hfit : 256 ^ k ≤ n) :
    Calls Try.prog 70 #[.string s, .int .i64 i, .int .i64 k, .int .u64 n] w fun e w' =>
      e = .returned (.tuple #[.string ByteArray.empty, .int .i64 2]) ∧ w = w' := by
  have C := field_room s i k w hs
  have h0 : roomE s i k = 0 := by simp [Bw.roomE]; omega
  rw [h0] at C; clear h0
  have H := Lib.hid C; clear C
  have hz : decide (0 < (n : Int) / 2 ^ (8 * k)) = true := by
    have : 0 < n / 256 ^ k := Nat.div_pos hfit (Nat.pow_pos (by omega))
    have e : (n : Int) / 2 ^ (8 * k) = ((n / 256 ^ k : Nat) : Int) := by rw [← Bw.pow8]; simp
    rw [e]; exact decide_eq_true (by omega)
  clear hfit
  go_enter Try.func70, Try.ntmps70
  go_wp2_with (with_reducible refine H.out.mono ?_; rintro e w' ⟨rfl, rfl⟩)
  go_ret2
  exact ⟨rfl, rfl⟩

theorem putS_ok (s : ByteArray) (i k n : Nat) (h : roomE s i k = 0) (hfit : n < 256 ^ k) : putS s i k n = str ((lst s).take i ++ toLE n k ++ (lst s).drop (i + k)) := by
  have : putE s i k n = 0 := by simp [putE, h]; omega
  simp [putS, this]

/-- field.Put, whatever it is given. -/
theorem field_Put (s : ByteArray) (i k n : Int) (w : World) (hs : s.size ≤ 1099511627776) (hn0 : 0 ≤ n) (hn : n < 18446744073709551616) :
    Calls Try.prog 70 #[.string s, .int .i64 i, .int .i64 k, .int .u64 n] w fun e w' =>
      e = .returned (.tuple #[.string (putS s i k n), .int .i64 (putE s i k n)]) ∧ Below w.heap.size w w' := by
  by_cases h0 : roomE s i k = 0
  · have h1 : 1 ≤ k := by simp [Bw.roomE] at h0; omega
    have h2 : k ≤ 8 := by simp [Bw.roomE] at h0; omega
    have h3 : 0 ≤ i := by simp [Bw.roomE] at h0; omega
    have h4 : i + k ≤ s.size := by simp [Bw.roomE] at h0; omega
    obtain ⟨i, rfl⟩ := Int.eq_ofNat_of_zero_le h3
    obtain ⟨k, rfl⟩ := Int.eq_ofNat_of_zero_le (show 0 ≤ k by omega)
    obtain ⟨n, rfl⟩ := Int.eq_ofNat_of_zero_le hn0
    by_cases hf : n < 256 ^ k
    · have hE : putE s i k n = 0 := by simp [putE, h0]; omega
      rw [putS_ok s i k n h0 hf, hE]
      exact field_Put_ok s i k n w hs (by omega) (by omega) (by omega) (by omega) hf
    · have hE : putE s i k n = 2 := by simp [putE, h0]; omega
      have hk : k < 8 := by
        rcases Nat.lt_or_ge k 8 with h | h
        · exact h
        · obtain rfl : k = 8 := by omega
          omega
      rw [show putS s i k n = ByteArray.empty by simp [putS, hE], hE]
      exact (field_Put_big s i k n w hs (by omega) hk (by omega) (by omega)).mono fun e w' h => ⟨h.1, by rw [← h.2]; exact Below.refl _ _⟩
  · have hE : putE s i k n = roomE s i k := by simp [putE, h0]
    rw [show putS s i k n = ByteArray.empty by simp [putS, hE, h0], hE]
    exact (field_Put_bad s i k n w hs h0).mono fun e w' h => ⟨h.1, by rw [← h.2]; exact Below.refl _ _⟩

end Go.Proofs.Ytokpkkjgagbpfaa
namespace Go.Proofs.Ytokpkkjgagbpfaa
open Go.RowKit Bw
set_option linter.unusedVariables false

theorem getD_at (s : ByteArray) (i : Nat) (h : i < s.size) : (lst s).getD i 0 = s[i] := by
  rw [lst_getElem s i h, List.getD_eq_getElem?_getD, List.getElem?_eq_getElem (by rw [lst_length]; exact h)]; rfl

theorem extract_str (s : ByteArray) (i j : Nat) : s.extract i j = str (((lst s).drop i).take (j - i)) := by
  have := ByteArray.extract_mk (lst s) i j
  have e : (ByteArray.mk (lst s).toArray) = s := str_lst s
  rw [e] at this
  exact this


set_option maxHeartbeats 400000 in
theorem field_Pad (s : ByteArray) (n : Int) (w : World) (hs : s.size ≤ 1099511627776) :
    Calls Try.prog 91 #[.string s, .int .i64 n] w fun e w' =>
      e = .returned (.tuple #[.string (padS s n), .int .i64 (padE s n)]) ∧ Below w.heap.size w w' := by
  by_cases h0 : n < 0
  · have E : padE s n = 1 := by simp [padE, h0]
    rw [show padS s n = ByteArray.empty by simp [padS, E], E]
    clear E
    go_enter Try.func91, Try.ntmps91
    go_wp2
    go_ret2
    exact ⟨rfl, Below.refl _ _⟩
  by_cases h1 : 65536 < n
  · have E : padE s n = 1 := by simp [padE, h1]
    rw [show padS s n = ByteArray.empty by simp [padS, E], E]
    clear E
    go_enter Try.func91, Try.ntmps91
    go_wp2
    go_ret2
    exact ⟨rfl, Below.refl _ _⟩
  by_cases h2 : n < s.size
  · have E : padE s n = 2 := by simp [padE, h2]; omega
    rw [show padS s n = ByteArray.empty by simp [padS, E], E]
    clear E
    go_enter Try.func91, Try.ntmps91
    go_wp2
    go_ret2
    exact ⟨rfl, Below.refl _ _⟩
  obtain ⟨n, rfl⟩ := Int.eq_ofNat_of_zero_le (show 0 ≤ n by omega)
  have E : padE s n = 0 := by simp [padE]; omega
  have e1 : padS s n = str (lst s ++ List.replicate (n - s.size) 0) := by simp [padS, E]
  rw [e1, E]
  clear e1 E
  obtain ⟨m, hm⟩ : ∃ m, n = s.size + m := ⟨n - s.size, by omega⟩
  subst hm
  have e : s ++ str (List.replicate m 0) = str (lst s ++ List.replicate (s.size + m - s.size) 0) := by
    rw [show s.size + m - s.size = m by omega]
    apply lst_inj
    simp [lst, str]
  rw [← e]
  clear e
  have hz : (str (List.replicate m 0)).size = m := by rw [size_str, List.length_replicate]
  have HZ := Lib.hid hz; clear hz
  have hsz2 : (str (List.replicate m 0)).size ≤ 65536 := by have := HZ.out; omega
  generalize hX : str (List.replicate m 0) = X at *
  have HX := Lib.hid hX; clear hX
  go_enter Try.func91, Try.ntmps91
  go_wp2_with (first
    | (with_reducible refine wpList_makeBytes rfl _ _ 54 5 rfl Try.underlying54 u8info _ _ _ _ m rfl rfl ?a1 ?a2 ?a0 w.heap.size w (Below.refl _ _) (Nat.le_refl _) ?_; rotate_right; intro g1 w1 hb1 hw1 hw1' hg1 hg1')
    | (with_reducible refine wpList_toString rfl _ 54 9 5 rfl Try.underlying54 Try.underlying9 Try.underlying5 (List.replicate m 0) g1 0 m m rfl ?d2 hb1 ?_; rotate_right; rw [HX.out]))
  case a0 => omega
  case a1 => omega
  case a2 => omega
  go_wp2
  go_ret2
  exact ⟨rfl, hw1⟩

end Go.Proofs.Ytokpkkjgagbpfaa
namespace Go.Proofs.Ytokpkkjgagbpfaa
open Go.RowKit Bw
set_option linter.unusedVariables false

theorem one_byte (w : World) (n : Nat) (hn : n ≤ 255) : BytesAt (w.alloc (.cells #[.int .u8 (n : Int)] 5)) w.heap.size 0 [UInt8.ofNat n] :=
  bytesAt_alloc _ _ _ fun j hj => by
    have : j = 0 := by simpa using hj
    subst this
    have e : (UInt8.ofNat n).toNat = n % 256 := UInt8.toNat_ofNat'
    simp [e]; omega

set_option maxHeartbeats 400000 in
theorem field_PutText_ok (s t : ByteArray) (i : Nat) (w : World) (hs : s.size ≤ 1099511627776) (ht : t.size ≤ 255) (hi : i + t.size + 1 ≤ s.size) :
    Calls Try.prog 87 #[.string s, .int .i64 i, .string t] w fun e w' =>
      e = .returned (.tuple #[.string (str ((lst s).take i ++ UInt8.ofNat t.size :: lst t ++ (lst s).drop (i + t.size + 1))), .int .i64 ((i : Int) + t.size + 1), .int .i64 0]) ∧ Below w.heap.size w w' := by
  have C := field_place s i w
  have P : placeE s i = 0 := by simp [placeE]; omega
  rw [P] at C; clear P
  have H := Lib.hid C; clear C
  have hb1 := one_byte w t.size ht
  go_enter Try.func87, Try.ntmps87
  go_wp2_with (first
    | (with_reducible refine H.out.mono ?_; rintro e w' ⟨rfl, rfl⟩)
    | (at_builtin; refine wpList_appendString rfl _ _ 54 9 5 rfl Try.underlying54 Try.underlying9 u8info w.heap.size 1 t [UInt8.ofNat t.size] rfl rfl hb1 rfl (by omega) w.heap.size w ((Below.refl _ _).alloc (Nat.le_refl _) _) (by simp) (Nat.le_refl _) ?_; intro g1 cap1 w1 hb2 hw1 hw1' hg1 hc1 hc2; have HO := Lib.hid (field_over s i g1 0 (1 + t.size) cap1 ([UInt8.ofNat t.size] ++ lst t) w1 hs hb2 (by simp [lst_length]; omega) (by omega) (by omega)); clear hb1 hb2)
    | (with_reducible refine HO.out.mono ?_; rintro e w2 ⟨rfl, hw2⟩))
  go_ret3
  refine ⟨?_, ?_⟩
  · simp [lst_length, Nat.add_assoc]
  · exact hw1.trans (hw2.mono (by have := hw1.size; omega))

set_option maxHeartbeats 400000 in
theorem field_PutText (s : ByteArray) (i : Int) (t : ByteArray) (w : World) (hs : s.size ≤ 1099511627776) (ht : t.size ≤ 1099511627776) :
    Calls Try.prog 87 #[.string s, .int .i64 i, .string t] w fun e w' =>
      e = .returned (.tuple #[.string (ptS s i t), .int .i64 (ptTo s i t), .int .i64 (ptE s i t)]) ∧ Below w.heap.size w w' := by
  have C := field_place s i w
  by_cases h0 : i < 0 ∨ (s.size : Int) < i
  · have P : placeE s i = 1 := by simp [placeE, h0]
    have E : ptE s i t = 1 := by simp [ptE, h0]
    rw [show ptS s i t = ByteArray.empty by simp [ptS, E], show ptTo s i t = 0 by simp [ptTo, E], E]
    rw [P] at C
    clear h0 E P
    have H := Lib.hid C; clear C
    go_enter Try.func87, Try.ntmps87
    go_wp2_with (with_reducible refine H.out.mono ?_; rintro e w' ⟨rfl, rfl⟩)
    go_ret3
    exact ⟨rfl, Below.refl _ _⟩
  have P : placeE s i = 0 := by simp [placeE, h0]
  have h1 : 0 ≤ i := by omega
  have h2 : i ≤ s.size := by omega
  clear h0
  rw [P] at C; clear P
  have H := Lib.hid C; clear C
  by_cases h3 : 255 < t.size
  · have E : ptE s i t = 2 := by simp only [ptE]; rw [if_neg (by omega), if_pos h3]
    rw [show ptS s i t = ByteArray.empty by simp [ptS, E], show ptTo s i t = 0 by simp [ptTo, E], E]
    clear E
    go_enter Try.func87, Try.ntmps87
    go_wp2_with (with_reducible refine H.out.mono ?_; rintro e w' ⟨rfl, rfl⟩)
    go_ret3
    exact ⟨rfl, Below.refl _ _⟩
  by_cases h4 : (s.size : Int) - i < t.size + 1
  · have E : ptE s i t = 3 := by simp only [ptE]; rw [if_neg (by omega), if_neg h3, if_pos h4]
    rw [show ptS s i t = ByteArray.empty by simp [ptS, E], show ptTo s i t = 0 by simp [ptTo, E], E]
    clear E
    go_enter Try.func87, Try.ntmps87
    go_wp2_with (with_reducible refine H.out.mono ?_; rintro e w' ⟨rfl, rfl⟩)
    go_ret3
    exact ⟨rfl, Below.refl _ _⟩
  have E : ptE s i t = 0 := by simp only [ptE]; rw [if_neg (by omega), if_neg h3, if_neg h4]
  obtain ⟨i, rfl⟩ := Int.eq_ofNat_of_zero_le h1
  have := field_PutText_ok s t i w hs (by omega) (by omega)
  simp only [ptS, ptTo, E, if_true, Int.toNat_natCast]
  exact this

theorem bareL_snoc (l : List UInt8) (b : UInt8) : bareL (l ++ [b]) = if b = 0 then bareL l else l ++ [b] := by
  simp only [bareL, List.reverse_append, List.reverse_cons, List.reverse_nil, List.nil_append, List.cons_append, List.dropWhile_cons]
  by_cases h : b = 0 <;> simp [h]

theorem bareL_nil : bareL [] = [] := rfl

/-- Where the bytes 0 at the end begin. -/
theorem bare_stop (s : ByteArray) (n : Nat) (hn : n ≤ s.size) (h : bareL (lst s) = bareL ((lst s).take n)) (hz : n = 0 ∨ ∃ h : n - 1 < s.size, 0 < n ∧ s[n - 1] ≠ 0) : bareS s = s.extract 0 n := by
  rw [bareS, extract_str, h]
  congr 1
  simp only [List.drop_zero, Nat.sub_zero]
  rcases hz with rfl | ⟨hn1, h0, hne⟩
  · rfl
  · obtain ⟨m, rfl⟩ : ∃ m, n = m + 1 := ⟨n - 1, by omega⟩
    have hg : (lst s)[m]? = some s[m] := by rw [lst_getElem]; exact List.getElem?_eq_getElem _
    rw [List.take_add_one, hg]
    simp only [Option.toList_some]
    rw [bareL_snoc, if_neg (by simpa using hne)]

theorem bare_step (s : ByteArray) (n : Nat) (hn : n < s.size) (h : bareL (lst s) = bareL ((lst s).take (n + 1))) (hz : s[n] = 0) : bareL (lst s) = bareL ((lst s).take n) := by
  have hg : (lst s)[n]? = some s[n] := by rw [lst_getElem]; exact List.getElem?_eq_getElem _
  rw [List.take_add_one, hg] at h
  simp only [Option.toList_some] at h
  rw [h, bareL_snoc, if_pos hz]


end Go.Proofs.Ytokpkkjgagbpfaa
