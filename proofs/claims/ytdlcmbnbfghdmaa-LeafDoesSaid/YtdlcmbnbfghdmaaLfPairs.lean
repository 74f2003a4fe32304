import Derived.Test.YtdlcmbnbfghdmaaRecWalk3
namespace Go.Proofs.Ytdlcmbnbfghdmaa
open Go.RowKit Bw
set_option linter.unusedVariables false
set_option maxHeartbeats 1000000 in
theorem ref5_Pairs (a b : List PairD) (pa pb : Option Addr) (ca cb : Nat) (w : World) (hA : PairsAt w pa a) (hB : PairsAt w pb b) (la : a.length ≤ 1099511627776) (lb : b.length ≤ 1099511627776) :
    Calls Try.prog 52 #[.slice pa a.length ca, .slice pb b.length cb] w fun e w' => e = .returned (.bool (decide (a = b))) ∧ Below w.heap.size w w' := by
  have HF := Lib.hid (show decide (a = b) = decide (a = b) from rfl)
  generalize hK : decide (a = b) = K at *
  have HK := Lib.hid hK; clear hK HF
  have HA := Lib.hid hA; have HB := Lib.hid hB; clear hA hB
  by_cases hl : a.length = b.length
  · have HL := Lib.hid hl
    have hlb : ((a.length : Int) != (b.length : Int)) = false := by simp; omega
    clear hl
    go_enter Try.func52, Try.ntmps52
    go_wp2_with fail
    go_loopw [5] (fun v wr => ∃ k : Nat, k ≤ a.length ∧ v = .int .i64 k ∧ a.take k = b.take k ∧ Up w wr) (fun v _ => a.length - (intOf v).toNat)
    case atStart => exact ⟨0, by omega, rfl, rfl, Up.refl w⟩
    case round =>
      obtain ⟨k, hk, rfl, htk, hu⟩ := hrel
      have HT := Lib.hid htk; clear htk
      by_cases hlt : k < a.length
      · have hlt2 : k < b.length := by have := HL.out; omega
        obtain ⟨ga, oa, rfl, a1, a2⟩ := (HA.out.up hu) k hlt
        obtain ⟨gb, ob, rfl, b1, b2⟩ := (HB.out.up hu) k hlt2
        have i0 : (0 : Int) ≤ (k : Int) := by omega
        have i1 : (k : Int) < (a.length : Int) := by omega
        have i2 : (k : Int) < (b.length : Int) := by omega
        have i3 : (k : Int) < 1099511627776 := by omega
        generalize hx : a[k] = x at *
        generalize hy : b[k] = y at *
        have HX := Lib.hid hx; have HY := Lib.hid hy; clear hx hy
        obtain ⟨x1, x2⟩ := x
        obtain ⟨y1, y2⟩ := y
        have E1 := Lib.hid (str_eqB x1 y1)
        have E2 := Lib.hid (str_eqB x2 y2)
        have hcs : ((x1.toList == y1.toList) = false) ∨ ((x1.toList == y1.toList) = true ∧ (x2.toList == y2.toList) = false) ∨ ((x1.toList == y1.toList) = true ∧ (x2.toList == y2.toList) = true) := by
          cases x1.toList == y1.toList <;> cases x2.toList == y2.toList <;> simp
        go_upto_region 6 with fail
        have l1 := Later.cell_of a1; have l2 := Later.cell_of a2
        have l3 := Later.cell_of b1; have l4 := Later.cell_of b2
        have hne := later_ne wr
        clear a1 a2 b1 b2
        rcases hcs with d1 | ⟨d1, d2⟩ | ⟨d1, d2⟩
        all_goals
          refine wp_region_later (by kernel_rfl) (by kernel_rfl) ?_
          repeat (go_big_quiet_step (fail))
          refine wpQuiet_nil ?_
          intro w9 hw9
          obtain ⟨u9, rfl⟩ := hw9
          replace hu := hu.trans u9.up
          clear l1 l2 l3 l4 hne
          generalize u9.world = w9 at *
          go_wp2_with fail
        · go_ret
          refine ⟨?_, hu⟩
          rw [← HK.out]
          have hne : ¬ a = b := fun h => by
            subst h
            have := E1.out; rw [d1] at this; have h3 := HX.out.symm.trans HY.out
            simp at h3; simp [h3.1] at this
          simp [hne]
        · go_ret
          refine ⟨?_, hu⟩
          rw [← HK.out]
          have hne : ¬ a = b := fun h => by
            subst h
            have := E2.out; rw [d2] at this; have h3 := HX.out.symm.trans HY.out
            simp at h3; simp [h3.2] at this
          simp [hne]
        · go_roundw
          case rel =>
            refine ⟨k + 1, by omega, by go_num, ?_, hu⟩
            rw [List.take_succ_eq_append_getElem hlt, List.take_succ_eq_append_getElem hlt2, HT.out, HX.out, HY.out]
            have g1 := E1.out; have g2 := E2.out; rw [d1] at g1; rw [d2] at g2
            simp at g1 g2
            rw [g1, g2]
          case measure => simp [intOf]; omega
      · go_wp2_with fail
        go_ret
        have e := HT.out
        rw [List.take_of_length_le (by omega), List.take_of_length_le (by have := HL.out; omega)] at e
        exact ⟨by rw [← HK.out]; simp [e], hu⟩
  · have hne : ¬ a = b := fun h => hl (by rw [h])
    have hlb : ((a.length : Int) != (b.length : Int)) = true := by simp; omega
    clear hl
    go_enter Try.func52, Try.ntmps52
    go_wp2_with fail
    go_ret
    exact ⟨by rw [← HK.out]; simp [hne], Below.refl _ _⟩
end Go.Proofs.Ytdlcmbnbfghdmaa
