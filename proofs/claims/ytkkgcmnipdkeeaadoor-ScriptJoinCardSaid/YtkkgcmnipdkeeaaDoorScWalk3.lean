/- Layer 24: a byte as a text; numbers alike; acts alike. -/
import Derived.Test.YtkkgcmnipdkeeaaDoorScWalk1
import Derived.Test.YtkkgcmnipdkeeaaDoorScInts
import Derived.Test.YtkkgcmnipdkeeaaDoorBytesLaw
namespace Go.Proofs.YtkkgcmnipdkeeaaDoor
open Go.RowKit Bw
set_option linter.unusedVariables false
theorem numL_one (n : Int) : numL n 1 = [UInt8.ofNat n.toNat] := rfl
theorem byte_at (n : Int) (h0 : 0 ≤ n) (h1 : n ≤ 255) : n % 256 = (((UInt8.ofNat n.toNat).toNat : Nat) : Int) := by
  rw [UInt8.toNat_ofNat']; omega
theorem bytes_one24 (w : World) (e : TypeId) (b : UInt8) : BytesAt (w.alloc (.cells #[.int .u8 (b.toNat : Int)] e)) w.heap.size 0 [b] := by
  have h := RowAt.made w e [.int .u8 (b.toNat : Int)]
  refine ⟨fun j hj => ?_, fun j hj => ?_⟩
  · obtain rfl : j = 0 := by simp at hj; omega
    exact h.cell 0 (by simp)
  · obtain rfl : j = 0 := by simp at hj; omega
    exact h.free 0 (by simp)
set_option maxHeartbeats 400000 in
theorem script_one (n : Int) (h0 : 0 ≤ n) (h1 : n ≤ 255) (w : World) : Calls Tryd.prog 31 #[.int .i64 n] w fun e w' => e = .returned (.string (str (numL n 1))) ∧ Below w.heap.size w w' := by
  have hone := fun w e => bytes_one24 w e (UInt8.ofNat n.toNat)
  rw [← byte_at n h0 h1] at hone
  have HO := Lib.hid hone
  clear hone h0 h1
  rw [numL_one]
  generalize UInt8.ofNat n.toNat = B at *
  have hu := Up.refl w
  go_enter Tryd.func31, Tryd.ntmps31
  go_wp2_with (with_reducible refine wpList_toString rfl _ 44 9 5 rfl Tryd.underlying44 Tryd.underlying9 Tryd.underlying5 [B] w.heap.size 0 1 1 rfl (by simp) (HO.out _ _) ?_)
  go_ret
  exact ⟨rfl, hu.alloc _⟩
set_option maxHeartbeats 400000 in
theorem ref24_one (n : Int) (h0 : 0 ≤ n) (h1 : n ≤ 255) (w : World) : Calls Tryd.prog 32 #[.int .i64 n] w fun e w' => e = .returned (.string (str (numL n 1))) ∧ Below w.heap.size w w' := by
  have hone := fun w e => bytes_one24 w e (UInt8.ofNat n.toNat)
  rw [← byte_at n h0 h1] at hone
  have HO := Lib.hid hone
  clear hone h0 h1
  rw [numL_one]
  generalize UInt8.ofNat n.toNat = B at *
  have hu := Up.refl w
  go_enter Tryd.func32, Tryd.ntmps32
  go_wp2_with (with_reducible refine wpList_toString rfl _ 44 9 5 rfl Tryd.underlying44 Tryd.underlying9 Tryd.underlying5 [B] w.heap.size 0 1 1 rfl (by simp) (HO.out _ _) ?_)
  go_ret
  exact ⟨rfl, hu.alloc _⟩
set_option maxHeartbeats 1000000 in
theorem slices_EqualInts (a b : List Int) (pa pb : Option Addr) (ca cb : Nat) (w : World) (hA : IntsAt w pa a) (hB : IntsAt w pb b) (la : a.length ≤ 1099511627776) (lb : b.length ≤ 1099511627776) :
    Calls Tryd.prog 38 #[.slice pa a.length ca, .slice pb b.length cb] w fun e w' => e = .returned (.bool (decide (a = b))) ∧ Below w.heap.size w w' := by
  have HF := Lib.hid (show decide (a = b) = decide (a = b) from rfl)
  generalize hK : decide (a = b) = K at *
  have HK := Lib.hid hK; clear hK HF
  have HA := Lib.hid hA; have HB := Lib.hid hB; clear hA hB
  by_cases hl : a.length = b.length
  · have HL := Lib.hid hl
    have hlb : ((a.length : Int) != (b.length : Int)) = false := by simp; omega
    clear hl
    go_enter Tryd.func38, Tryd.ntmps38
    go_wp2_with fail
    go_loopw [13] (fun v wr => ∃ k : Nat, k ≤ a.length ∧ v = .int .i64 k ∧ a.take k = b.take k ∧ Up w wr) (fun v _ => a.length - (intOf v).toNat)
    case atStart => exact ⟨0, by omega, rfl, rfl, Up.refl w⟩
    case round =>
      obtain ⟨k, hk, rfl, htk, hu⟩ := hrel
      have HT := Lib.hid htk; clear htk
      by_cases hlt : k < a.length
      · have hlt2 : k < b.length := by have := HL.out; omega
        obtain ⟨ga, oa, rfl, a1⟩ := (HA.out.up hu) k hlt
        obtain ⟨gb, ob, rfl, b1⟩ := (HB.out.up hu) k hlt2
        have i0 : (0 : Int) ≤ (k : Int) := by omega
        have i1 : (k : Int) < (a.length : Int) := by omega
        have i2 : (k : Int) < (b.length : Int) := by omega
        have i3 : (k : Int) < 1099511627776 := by omega
        generalize hx : a[k] = x at *
        generalize hy : b[k] = y at *
        have HX := Lib.hid hx; have HY := Lib.hid hy; clear hx hy
        go_upto_region 6 with fail
        have l1 := Later.cell_of a1
        have l3 := Later.cell_of b1
        have hne := later_ne wr
        clear a1 b1
        cases hd : x != y
        all_goals
          refine wp_region_later (by kernel_rfl) (by kernel_rfl) ?_
          repeat (go_big_quiet_step (fail))
          refine wpQuiet_nil ?_
          intro w9 hw9
          obtain ⟨u9, rfl⟩ := hw9
          replace hu := hu.trans u9.up
          clear l1 l3 hne
          generalize u9.world = w9 at *
          go_wp2_with fail
        · go_roundw
          case rel =>
            refine ⟨k + 1, by omega, by go_num, ?_, hu⟩
            rw [List.take_succ_eq_append_getElem hlt, List.take_succ_eq_append_getElem hlt2, HT.out, HX.out, HY.out]
            have : x = y := by simpa using hd
            rw [this]
          case measure => simp [intOf]; omega
        · go_ret
          refine ⟨?_, hu⟩
          rw [← HK.out]
          have hne : ¬ a = b := fun h => by
            subst h
            have h3 := HX.out.symm.trans HY.out
            subst h3
            simp at hd
          simp [hne]
      · go_wp2_with fail
        go_ret
        have e := HT.out
        rw [List.take_of_length_le (by omega), List.take_of_length_le (by have := HL.out; omega)] at e
        exact ⟨by rw [← HK.out]; simp [e], hu⟩
  · have hne : ¬ a = b := fun h => hl (by rw [h])
    have hlb : ((a.length : Int) != (b.length : Int)) = true := by simp; omega
    clear hl
    go_enter Tryd.func38, Tryd.ntmps38
    go_wp2_with fail
    go_ret
    exact ⟨by rw [← HK.out]; simp [hne], Below.refl _ _⟩
end Go.Proofs.YtkkgcmnipdkeeaaDoor
