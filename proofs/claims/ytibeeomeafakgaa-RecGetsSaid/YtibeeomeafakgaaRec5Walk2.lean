import Derived.Test.YtibeeomeafakgaaRec5Walk1
namespace Go.Proofs.Ytibeeomeafakgaa
open Go.RowKit Bw
set_option linter.unusedVariables false

theorem ltS_empty {s : ByteArray} (h : keyB s = true) : ltS ByteArray.empty s = true := by
  simp only [keyB, Bool.and_eq_true, decide_eq_true_eq] at h
  simp only [ltS, decide_eq_true_eq]
  have : lst ByteArray.empty = [] := rfl
  rw [this]
  cases hl : lst s with
  | nil => have := lst_length s; rw [hl] at this; simp at this; omega
  | cons c r => simp


set_option maxHeartbeats 2000000 in
theorem ref5_Row (l : List PairD) (pa : Option Addr) (ca : Nat) (w : World) (hA : PairsAt w pa l) (la : l.length ≤ 1099511627776) (hs : ∀ p ∈ l, p.1.size ≤ 1099511627776) :
    Calls Try.prog 30 #[.slice pa l.length ca] w fun e w' => e = .returned (.bool (rowB l)) ∧ Below w.heap.size w w' := by
  have HK := Lib.hid (show rowB l = (rowFrom ByteArray.empty l && decide (l.length ≤ 4000)) from rfl)
  generalize rowB l = K at *
  have HA := Lib.hid hA; clear hA
  have HS := Lib.hid hs; clear hs
  go_enter Try.func30, Try.ntmps30
  go_wp2_with fail
  go_loopw [3] (fun v wr => ∃ (k : Nat), k ≤ l.length ∧ v = .int .i64 k ∧ rowFrom ByteArray.empty l = rowFrom (if h : 0 < k ∧ k ≤ l.length then (l[k - 1]'(by omega)).1 else ByteArray.empty) (l.drop k) ∧ Up w wr) (fun v _ => l.length - (intOf v).toNat)
  case atStart => exact ⟨0, by omega, rfl, rfl, Up.refl w⟩
  case round =>
    obtain ⟨k, hk, rfl, htk, hu⟩ := hrel
    have HT := Lib.hid htk; clear htk
    by_cases hlt : k < l.length
    · obtain ⟨ga, oa, rfl, a1, a2⟩ := (HA.out.up hu) k hlt
      have hd := List.drop_eq_getElem_cons hlt
      have hx1 := HS.out _ (List.getElem_mem hlt)
      have HN := Lib.hid (show (if h : 0 < k + 1 ∧ k + 1 ≤ l.length then (l[k + 1 - 1]'(by omega)).1 else ByteArray.empty) = l[k].1 by rw [dif_pos ⟨by omega, by omega⟩]; rfl)
      have i0 : (0 : Int) ≤ (k : Int) := by omega
      have i1 : (k : Int) < (l.length : Int) := by omega
      have i2 : (k : Int) < 1099511627776 := by omega
      have l1 := Later.cell_of a1; have l2 := Later.cell_of a2
      have hne := later_ne wr
      generalize hgx : l[k] = x at *
      clear hgx
      obtain ⟨x1, x2⟩ := x
      have c1 := (fun w => ref5_Key x1 w)
      have c2 := (fun w => ref5_Value x2 w)
      by_cases h0 : 0 < k
      · obtain ⟨gb, ob, hpb, b1, b2⟩ := (HA.out.up hu) (k - 1) (by omega)
        obtain ⟨rfl, rfl⟩ : ga = gb ∧ oa = ob := by simpa using hpb
        have hy1 := HS.out _ (List.getElem_mem (show k - 1 < l.length by omega))
        have hT := HT.out
        rw [dif_pos ⟨h0, hk⟩, hd] at hT
        clear hd HT hpb b2
        generalize l[k - 1] = y at *
        obtain ⟨y1, y2⟩ := y
        simp only at hT hx1 hy1 b1 a1 a2
        have HT2 := Lib.hid (show rowFrom ByteArray.empty l = (keyB x1 && valB x2 && ltS y1 x1 && rowFrom x1 (l.drop (k + 1))) from hT)
        clear hT
        have C3 := Lib.hid (fun w => ref5_Less y1 x1 w hy1 hx1)
        clear hx1 hy1
        have l3 := Later.cell_of b1
        clear a1 a2 b1
        have d0 : decide ((0 : Int) < (k : Int)) = true := by simp; omega
        have d1 : (0 : Int) < (k : Int) := by omega
        have d2 : (0 : Int) ≤ (k : Int) - 1 := by omega
        have d3 : (k : Int) - 1 < (l.length : Int) := by omega
        have d4 : IntKind.i64.wrap ((k : Int) - 1) = (k : Int) - 1 := IntWalk.i64_in _ ⟨by omega, by omega⟩
        have d5 : ((k : Int) - 1).toNat = k - 1 := by omega
        cases h1 : keyB x1
        · rw [h1] at c1 HT2
          have C1 := Lib.hid c1; clear c1
          have C2 := Lib.hid c2; clear c2
          go_upto_region 4 with fail
          refine wp_region_later (by kernel_rfl) (by kernel_rfl) ?_
          repeat (go_big_quiet_step (first
            | (go_at_call 19; exact Calls.later_same (C1.out _))
            | (go_at_call 21; exact Calls.later_same (C2.out _))
            | (go_at_call 41; exact Calls.later (C3.out _))))
          refine wpQuiet_nil ?_
          intro w9 hw9
          obtain ⟨u9, rfl⟩ := hw9
          replace hu := hu.trans u9.up
          generalize u9.world = w9 at *
          go_wp2_with fail
          go_ret
          exact ⟨by rw [HK.out, HT2.out]; rfl, hu⟩
        cases h2 : valB x2
        · rw [h1] at c1 HT2
          rw [h2] at c2 HT2
          have C1 := Lib.hid c1; clear c1
          have C2 := Lib.hid c2; clear c2
          go_upto_region 4 with fail
          refine wp_region_later (by kernel_rfl) (by kernel_rfl) ?_
          repeat (go_big_quiet_step (first
            | (go_at_call 19; exact Calls.later_same (C1.out _))
            | (go_at_call 21; exact Calls.later_same (C2.out _))
            | (go_at_call 41; exact Calls.later (C3.out _))))
          refine wpQuiet_nil ?_
          intro w9 hw9
          obtain ⟨u9, rfl⟩ := hw9
          replace hu := hu.trans u9.up
          generalize u9.world = w9 at *
          go_wp2_with fail
          go_ret
          exact ⟨by rw [HK.out, HT2.out]; rfl, hu⟩
        rw [h1] at c1 HT2
        rw [h2] at c2 HT2
        have C1 := Lib.hid c1; clear c1
        have C2 := Lib.hid c2; clear c2
        clear h1 h2
        cases h3 : ltS y1 x1
        · rw [h3] at C3 HT2
          go_upto_region 4 with fail
          refine wp_region_later (by kernel_rfl) (by kernel_rfl) ?_
          repeat (go_big_quiet_step (first
            | (go_at_call 19; exact Calls.later_same (C1.out _))
            | (go_at_call 21; exact Calls.later_same (C2.out _))
            | (go_at_call 41; exact Calls.later (C3.out _))))
          refine wpQuiet_nil ?_
          intro w9 hw9
          obtain ⟨u9, rfl⟩ := hw9
          replace hu := hu.trans u9.up
          generalize u9.world = w9 at *
          go_wp2_with fail
          go_ret
          exact ⟨by rw [HK.out, HT2.out]; rfl, hu⟩
        · rw [h3] at C3 HT2
          go_upto_region 4 with fail
          refine wp_region_later (by kernel_rfl) (by kernel_rfl) ?_
          repeat (go_big_quiet_step (first
            | (go_at_call 19; exact Calls.later_same (C1.out _))
            | (go_at_call 21; exact Calls.later_same (C2.out _))
            | (go_at_call 41; exact Calls.later (C3.out _))))
          refine wpQuiet_nil ?_
          intro w9 hw9
          obtain ⟨u9, rfl⟩ := hw9
          replace hu := hu.trans u9.up
          generalize u9.world = w9 at *
          go_wp2_with fail
          case roundEnd =>
            exact ⟨⟨k + 1, by omega, by go_num, by rw [HN.out, HT2.out]; rfl, hu⟩, by simp [intOf]; omega⟩
      · have hT := HT.out
        rw [dif_neg (by omega), hd] at hT
        clear hd HT
        simp only at hT hx1 a1 a2
        have HT2 := Lib.hid (show rowFrom ByteArray.empty l = (keyB x1 && valB x2 && rowFrom x1 (l.drop (k + 1))) by
          rw [hT]; show (keyB x1 && valB x2 && ltS ByteArray.empty x1 && rowFrom x1 _) = _
          cases hq : keyB x1
          · rfl
          · rw [ltS_empty hq]; simp)
        clear hT hx1 a1 a2
        have d0 : decide ((0 : Int) < (k : Int)) = false := by simp; omega
        have d1 : ¬ (0 : Int) < (k : Int) := by omega
        have C3 := c1
        cases h1 : keyB x1
        · rw [h1] at c1 HT2
          have C1 := Lib.hid c1; clear c1
          have C2 := Lib.hid c2; clear c2
          go_upto_region 4 with fail
          refine wp_region_later (by kernel_rfl) (by kernel_rfl) ?_
          repeat (go_big_quiet_step (first
            | (go_at_call 19; exact Calls.later_same (C1.out _))
            | (go_at_call 21; exact Calls.later_same (C2.out _))
            | (go_at_call 41; exact Calls.later (C3.out _))))
          refine wpQuiet_nil ?_
          intro w9 hw9
          obtain ⟨u9, rfl⟩ := hw9
          replace hu := hu.trans u9.up
          generalize u9.world = w9 at *
          go_wp2_with fail
          go_ret
          exact ⟨by rw [HK.out, HT2.out]; rfl, hu⟩
        cases h2 : valB x2
        · rw [h1] at c1 HT2
          rw [h2] at c2 HT2
          have C1 := Lib.hid c1; clear c1
          have C2 := Lib.hid c2; clear c2
          go_upto_region 4 with fail
          refine wp_region_later (by kernel_rfl) (by kernel_rfl) ?_
          repeat (go_big_quiet_step (first
            | (go_at_call 19; exact Calls.later_same (C1.out _))
            | (go_at_call 21; exact Calls.later_same (C2.out _))
            | (go_at_call 41; exact Calls.later (C3.out _))))
          refine wpQuiet_nil ?_
          intro w9 hw9
          obtain ⟨u9, rfl⟩ := hw9
          replace hu := hu.trans u9.up
          generalize u9.world = w9 at *
          go_wp2_with fail
          go_ret
          exact ⟨by rw [HK.out, HT2.out]; rfl, hu⟩
        rw [h1] at c1 HT2
        rw [h2] at c2 HT2
        have C1 := Lib.hid c1; clear c1
        have C2 := Lib.hid c2; clear c2
        go_upto_region 4 with fail
        refine wp_region_later (by kernel_rfl) (by kernel_rfl) ?_
        repeat (go_big_quiet_step (first
          | (go_at_call 19; exact Calls.later_same (C1.out _))
          | (go_at_call 21; exact Calls.later_same (C2.out _))
          | (go_at_call 41; exact Calls.later (C3.out _))))
        refine wpQuiet_nil ?_
        intro w9 hw9
        obtain ⟨u9, rfl⟩ := hw9
        replace hu := hu.trans u9.up
        generalize u9.world = w9 at *
        go_wp2_with fail
        case roundEnd =>
          exact ⟨⟨k + 1, by omega, by go_num, by rw [HN.out, HT2.out]; rfl, hu⟩, by simp [intOf]; omega⟩
    · have j3 : decide ((k : Int) < (l.length : Int)) = false := by simp; omega
      go_wp2_with fail
      go_ret
      refine ⟨?_, hu⟩
      have hT := HT.out
      rw [List.drop_of_length_le (by omega)] at hT
      rw [HK.out, hT]
      simp [rowFrom]
      try omega
end Go.Proofs.Ytibeeomeafakgaa
