/- Layer 10, the document's answer: Right. -/
import Derived.Test.YtdlcmbnbfghdmaaLfRef2
namespace Go.Proofs.Ytdlcmbnbfghdmaa
open Go.RowKit Bw
set_option linter.unusedVariables false
set_option maxHeartbeats 4000000 in
theorem ref10_Right (x : LfD) (hx : x.Sm) (q : Option Addr) (c : Nat) (w : World) (hA : PairsAt w q x.l) : Calls Try.prog 14 #[lfV x q c] w fun e w' => e = .returned (.bool x.right) ∧ Below w.heap.size w w' := by
  have CW := Lib.hid (fun w hA => ref10_weight x.l hx.len hx.each q c w hA)
  have hbd := wtL_take hx.each hx.len x.l.length
  rw [List.take_length] at hbd
  have HBAD := Lib.hid (fun k hk => right_bad (x := x) (k := k) hk)
  have HEND := Lib.hid (right_end (x := x))
  have hOk : ∀ k hk, x.OkAt k hk = (keyB x.l[k].1 = true ∧ valB x.l[k].2 = true ∧ (0 < k → ltS (x.l[k - 1]'(by omega)).1 x.l[k].1 = true) ∧ (x.high = ByteArray.empty ∨ ltS x.l[k].1 x.high = true)) := fun _ _ => rfl
  have HOK := Lib.hid hOk
  obtain ⟨OK, hOK⟩ : ∃ OK : Nat → Prop, ∀ k (hk : k < x.l.length), OK k = x.OkAt k hk := ⟨fun k => ∀ hk : k < x.l.length, x.OkAt k hk, fun k hk => propext ⟨fun h => h hk, fun h _ => h⟩⟩
  have HOK2 := Lib.hid hOK
  clear hOk hOK
  generalize hRR : x.right = RR at *
  clear hRR
  obtain ⟨L, H, N⟩ := x
  obtain ⟨s1, s2, s3⟩ := hx
  simp only [lfV] at *
  have HS := Lib.hid s3
  have b1 : (L.length : Int) ≤ 1000 := by omega
  have b2 : (0 : Int) ≤ (H.size : Int) := by omega
  have b3 : (H.size : Int) ≤ 1000 := by omega
  have hD := (Hold.start w).madeRow (.slice q L.length c) [.string H, .int .i64 N] 29
  rw [List.nil_append] at hD
  have HA := Lib.hid hA
  clear hA s3 s1
  go_enter Try.func14, Try.ntmps14
  go_upto_region 1 with fail
  generalize w.alloc _ = w0 at *
  go_wp2_with fail
  go_loopw [3] (fun v wr => ∃ k : Nat, k ≤ L.length ∧ v = .int .i64 k ∧ (∀ j, j < k → OK j) ∧ Hold w wr [rowR w.heap.size (.slice q L.length c) [.string H, .int .i64 N]]) (fun v _ => L.length - (intOf v).toNat)
  case atStart => exact ⟨0, by omega, rfl, fun j h => absurd h (by omega), hD⟩
  case round =>
  clear hD
  obtain ⟨k, hk, rfl, hok0, hD⟩ := hrel
  have HP := Lib.hid hok0
  clear hok0
  obtain ⟨t0, t1, t2, -⟩ := RowAt.c3 (hD.get 0 rfl)
  by_cases hlt : k < L.length
  · obtain ⟨ga, oa, rfl, a1, a2⟩ := (HA.out.up hD.up) k hlt
    have i0 : (0 : Int) ≤ (k : Int) := by omega
    have i1 : (k : Int) < (L.length : Int) := by omega
    have hsz := HS.out _ (List.getElem_mem hlt)
    have hO := HOK.out k hlt
    have hO2 := HOK2.out k hlt
    rw [hO] at hO2
    have hB := HBAD.out k hlt
    rw [hO] at hB
    clear hO
    generalize hgx : L[k] = x at *
    have HX := Lib.hid hgx
    clear hgx
    obtain ⟨x1, x2⟩ := x
    simp only at a1 a2 hsz hO2 hB
    have c1 := (fun w => ref5_Key x1 w)
    have c2 := (fun w => ref5_Value x2 w)
    have C4 := Lib.hid (fun w => ref5_Less x1 H w (by omega) (by omega))
    have HN : OK k → ∀ j, j < k + 1 → OK j := fun h j hj => by
      rcases Nat.lt_or_ge j k with h2 | h2
      · exact HP.out j h2
      · obtain rfl : j = k := by omega
        exact h
    have HNH := Lib.hid HN
    have HO2 := Lib.hid hO2
    have HBB := Lib.hid hB
    clear HN HP hO2 hB
    by_cases h0 : 0 < k
    · obtain ⟨gb, ob, hpb, y1', -⟩ := (HA.out.up hD.up) (k - 1) (by omega)
      obtain ⟨rfl, rfl⟩ : ga = gb ∧ oa = ob := by simpa using hpb
      have hy1 := (HS.out _ (List.getElem_mem (show k - 1 < L.length by omega))).1
      clear hpb
      generalize L[k - 1] = y at *
      obtain ⟨y1, y2⟩ := y
      simp only at hy1 y1' HO2 HBB
      have C3 := Lib.hid (fun w => ref5_Less y1 x1 w (by omega) (by omega))
      have l3 := Later.cell_of y1'
      clear y1' hy1 hsz
      have d0 : decide ((0 : Int) < (k : Int)) = true := by simp; omega
      have d1 : (0 : Int) < (k : Int) := by omega
      have d2 : (0 : Int) ≤ (k : Int) - 1 := by omega
      have d3 : (k : Int) - 1 < (L.length : Int) := by omega
      have d4 : IntKind.i64.wrap ((k : Int) - 1) = (k : Int) - 1 := IntWalk.i64_in _ ⟨by omega, by omega⟩
      have d5 : ((k : Int) - 1).toNat = k - 1 := by omega
      cases h1 : keyB x1
      · rw [h1] at c1
        have C1 := Lib.hid c1
        have C2 := Lib.hid c2
        have HB := Lib.hid (HBB.out fun h => by rw [h1] at h; exact absurd h.1 (by decide))
        clear c1 c2 h1 HO2 HBB
        go_upto_region 4 with fail
        have l0 := Later.cell_of t0
        have l1 := Later.cell_of a1; have l2 := Later.cell_of a2
        have hne := later_ne wr
        clear t0 a1 a2
        refine wp_region_later (by kernel_rfl) (by kernel_rfl) ?_
        repeat (go_big_quiet_step (first
          | (go_at_call 34; with_reducible exact Calls.later_same (C1.out _))
          | (go_at_call 35; with_reducible exact Calls.later_same (C2.out _))
          | (go_at_call 38; with_reducible exact Calls.later (C3.out _))))
        refine wpQuiet_nil ?_
        intro w9 hw9
        obtain ⟨u9, rfl⟩ := hw9
        replace hD := hD.next u9.up
        clear l0 l1 l2 hne
        generalize u9.world = w9 at *
        go_wp2_with fail
        go_ret
        exact ⟨by rw [HB.out]; rfl, hD.up⟩
      cases h2 : valB x2
      · rw [h1] at c1
        rw [h2] at c2
        have C1 := Lib.hid c1
        have C2 := Lib.hid c2
        have HB := Lib.hid (HBB.out fun h => by rw [h2] at h; exact absurd h.2.1 (by decide))
        clear c1 c2 h1 h2 HO2 HBB
        go_upto_region 4 with fail
        have l0 := Later.cell_of t0
        have l1 := Later.cell_of a1; have l2 := Later.cell_of a2
        have hne := later_ne wr
        clear t0 a1 a2
        refine wp_region_later (by kernel_rfl) (by kernel_rfl) ?_
        repeat (go_big_quiet_step (first
          | (go_at_call 34; with_reducible exact Calls.later_same (C1.out _))
          | (go_at_call 35; with_reducible exact Calls.later_same (C2.out _))
          | (go_at_call 38; with_reducible exact Calls.later (C3.out _))))
        refine wpQuiet_nil ?_
        intro w9 hw9
        obtain ⟨u9, rfl⟩ := hw9
        replace hD := hD.next u9.up
        clear l0 l1 l2 hne
        generalize u9.world = w9 at *
        go_wp2_with fail
        go_ret
        exact ⟨by rw [HB.out]; rfl, hD.up⟩
      rw [h1] at c1
      rw [h2] at c2
      have C1 := Lib.hid c1
      have C2 := Lib.hid c2
      cases h3 : ltS y1 x1
      · rw [h3] at C3
        have HB := Lib.hid (HBB.out fun h => by have := h.2.2.1 h0; rw [h3] at this; exact absurd this (by decide))
        clear c1 c2 h1 h2 h3 HO2 HBB
        go_upto_region 4 with fail
        have l0 := Later.cell_of t0
        have l1 := Later.cell_of a1; have l2 := Later.cell_of a2
        have hne := later_ne wr
        clear t0 a1 a2
        refine wp_region_later (by kernel_rfl) (by kernel_rfl) ?_
        repeat (go_big_quiet_step (first
          | (go_at_call 34; with_reducible exact Calls.later_same (C1.out _))
          | (go_at_call 35; with_reducible exact Calls.later_same (C2.out _))
          | (go_at_call 38; with_reducible exact Calls.later (C3.out _))))
        refine wpQuiet_nil ?_
        intro w9 hw9
        obtain ⟨u9, rfl⟩ := hw9
        replace hD := hD.next u9.up
        clear l0 l1 l2 hne
        generalize u9.world = w9 at *
        go_wp2_with fail
        go_ret
        exact ⟨by rw [HB.out]; rfl, hD.up⟩
      rw [h3] at C3
      have hbad : ¬ H = ByteArray.empty → ltS x1 H = false → RR = false := fun hE hb => HBB.out fun h => by
        rcases h.2.2.2 with h | h
        · exact hE h
        · rw [hb] at h; exact absurd h (by decide)
      have hok : (H = ByteArray.empty ∨ ltS x1 H = true) → ∀ j, j < k + 1 → OK j := fun h => HNH.out (by rw [HO2.out]; exact ⟨h1, h2, fun _ => h3, h⟩)
      clear c1 c2 h1 h2 h3 HO2 HBB
      by_cases hE : H = ByteArray.empty
      · have g1 : H.toList = [] := by rw [hE, Lib.toList_data]; rfl
        have g2 : H.toList.isEmpty = true := by rw [g1]; rfl
        have HO := Lib.hid (hok (.inl hE))
        clear hE hbad hok
        go_upto_region 4 with fail
        have l0 := Later.cell_of t0
        have l1 := Later.cell_of a1; have l2 := Later.cell_of a2
        have hne := later_ne wr
        clear t0 a1 a2
        refine wp_region_later (by kernel_rfl) (by kernel_rfl) ?_
        repeat (go_big_quiet_step (first
          | (go_at_call 34; with_reducible exact Calls.later_same (C1.out _))
          | (go_at_call 35; with_reducible exact Calls.later_same (C2.out _))
          | (go_at_call 38; with_reducible exact Calls.later (C3.out _))))
        refine wpQuiet_nil ?_
        intro w9 hw9
        obtain ⟨u9, rfl⟩ := hw9
        replace hD := hD.next u9.up
        clear l0 l1 l2 hne
        generalize u9.world = w9 at *
        obtain ⟨s0, s1, s2, -⟩ := RowAt.c3 (hD.get 0 rfl)
        obtain ⟨ga', oa', hq', a1, -⟩ := (HA.out.up hD.up) k hlt
        injection hq' with hq'
        injection hq' with e1 e2
        subst e1 e2
        rw [HX.out] at a1
        simp only at a1
        go_upto_region 6 with fail
        have m0 := Later.cell_of s0; have m1 := Later.cell_of s1; have m2 := Later.cell_of a1
        have hne := later_ne w9
        clear s0 s1 s2 a1
        refine wp_region_later (by kernel_rfl) (by kernel_rfl) ?_
        repeat (go_big_quiet_step ((go_at_call 38; with_reducible exact Calls.later (C4.out _))))
        refine wpQuiet_nil ?_
        intro w8 hw8
        obtain ⟨u8, rfl⟩ := hw8
        replace hD := hD.next u8.up
        clear m0 m1 m2 hne
        generalize u8.world = w7 at *
        go_wp2_with fail
        exact ⟨⟨k + 1, by omega, by go_num, HO.out, hD⟩, by simp [intOf]; omega⟩
      · have g1 := toList_ne hE
        have g2 := toList_nonempty hE
        cases hb : ltS x1 H
        · rw [hb] at C4
          have HB := Lib.hid (hbad hE hb)
          clear hE hbad hok hb
          go_upto_region 4 with fail
          have l0 := Later.cell_of t0
          have l1 := Later.cell_of a1; have l2 := Later.cell_of a2
          have hne := later_ne wr
          clear t0 a1 a2
          refine wp_region_later (by kernel_rfl) (by kernel_rfl) ?_
          repeat (go_big_quiet_step (first
            | (go_at_call 34; with_reducible exact Calls.later_same (C1.out _))
            | (go_at_call 35; with_reducible exact Calls.later_same (C2.out _))
            | (go_at_call 38; with_reducible exact Calls.later (C3.out _))))
          refine wpQuiet_nil ?_
          intro w9 hw9
          obtain ⟨u9, rfl⟩ := hw9
          replace hD := hD.next u9.up
          clear l0 l1 l2 hne
          generalize u9.world = w9 at *
          obtain ⟨s0, s1, s2, -⟩ := RowAt.c3 (hD.get 0 rfl)
          obtain ⟨ga', oa', hq', a1, -⟩ := (HA.out.up hD.up) k hlt
          injection hq' with hq'
          injection hq' with e1 e2
          subst e1 e2
          rw [HX.out] at a1
          simp only at a1
          go_upto_region 6 with fail
          have m0 := Later.cell_of s0; have m1 := Later.cell_of s1; have m2 := Later.cell_of a1
          have hne := later_ne w9
          clear s0 s1 s2 a1
          refine wp_region_later (by kernel_rfl) (by kernel_rfl) ?_
          repeat (go_big_quiet_step ((go_at_call 38; with_reducible exact Calls.later (C4.out _))))
          refine wpQuiet_nil ?_
          intro w8 hw8
          obtain ⟨u8, rfl⟩ := hw8
          replace hD := hD.next u8.up
          clear m0 m1 m2 hne
          generalize u8.world = w7 at *
          go_wp2_with fail
          go_ret
          exact ⟨by rw [HB.out]; rfl, hD.up⟩
        · rw [hb] at C4
          have HO := Lib.hid (hok (.inr hb))
          clear hE hbad hok hb
          go_upto_region 4 with fail
          have l0 := Later.cell_of t0
          have l1 := Later.cell_of a1; have l2 := Later.cell_of a2
          have hne := later_ne wr
          clear t0 a1 a2
          refine wp_region_later (by kernel_rfl) (by kernel_rfl) ?_
          repeat (go_big_quiet_step (first
            | (go_at_call 34; with_reducible exact Calls.later_same (C1.out _))
            | (go_at_call 35; with_reducible exact Calls.later_same (C2.out _))
            | (go_at_call 38; with_reducible exact Calls.later (C3.out _))))
          refine wpQuiet_nil ?_
          intro w9 hw9
          obtain ⟨u9, rfl⟩ := hw9
          replace hD := hD.next u9.up
          clear l0 l1 l2 hne
          generalize u9.world = w9 at *
          obtain ⟨s0, s1, s2, -⟩ := RowAt.c3 (hD.get 0 rfl)
          obtain ⟨ga', oa', hq', a1, -⟩ := (HA.out.up hD.up) k hlt
          injection hq' with hq'
          injection hq' with e1 e2
          subst e1 e2
          rw [HX.out] at a1
          simp only at a1
          go_upto_region 6 with fail
          have m0 := Later.cell_of s0; have m1 := Later.cell_of s1; have m2 := Later.cell_of a1
          have hne := later_ne w9
          clear s0 s1 s2 a1
          refine wp_region_later (by kernel_rfl) (by kernel_rfl) ?_
          repeat (go_big_quiet_step ((go_at_call 38; with_reducible exact Calls.later (C4.out _))))
          refine wpQuiet_nil ?_
          intro w8 hw8
          obtain ⟨u8, rfl⟩ := hw8
          replace hD := hD.next u8.up
          clear m0 m1 m2 hne
          generalize u8.world = w7 at *
          go_wp2_with fail
          exact ⟨⟨k + 1, by omega, by go_num, HO.out, hD⟩, by simp [intOf]; omega⟩
    · have d0 : decide ((0 : Int) < (k : Int)) = false := by simp; omega
      have d1 : ¬ (0 : Int) < (k : Int) := by omega
      have C3 := Lib.hid c1
      clear hsz
      cases h1 : keyB x1
      · rw [h1] at c1
        have C1 := Lib.hid c1
        have C2 := Lib.hid c2
        have HB := Lib.hid (HBB.out fun h => by rw [h1] at h; exact absurd h.1 (by decide))
        clear c1 c2 h1 HO2 HBB
        go_upto_region 4 with fail
        have l0 := Later.cell_of t0
        have l1 := Later.cell_of a1; have l2 := Later.cell_of a2
        have hne := later_ne wr
        clear t0 a1 a2
        refine wp_region_later (by kernel_rfl) (by kernel_rfl) ?_
        repeat (go_big_quiet_step (first
          | (go_at_call 34; with_reducible exact Calls.later_same (C1.out _))
          | (go_at_call 35; with_reducible exact Calls.later_same (C2.out _))
          | (go_at_call 38; with_reducible exact Calls.later (C3.out _))))
        refine wpQuiet_nil ?_
        intro w9 hw9
        obtain ⟨u9, rfl⟩ := hw9
        replace hD := hD.next u9.up
        clear l0 l1 l2 hne
        generalize u9.world = w9 at *
        go_wp2_with fail
        go_ret
        exact ⟨by rw [HB.out]; rfl, hD.up⟩
      cases h2 : valB x2
      · rw [h1] at c1
        rw [h2] at c2
        have C1 := Lib.hid c1
        have C2 := Lib.hid c2
        have HB := Lib.hid (HBB.out fun h => by rw [h2] at h; exact absurd h.2.1 (by decide))
        clear c1 c2 h1 h2 HO2 HBB
        go_upto_region 4 with fail
        have l0 := Later.cell_of t0
        have l1 := Later.cell_of a1; have l2 := Later.cell_of a2
        have hne := later_ne wr
        clear t0 a1 a2
        refine wp_region_later (by kernel_rfl) (by kernel_rfl) ?_
        repeat (go_big_quiet_step (first
          | (go_at_call 34; with_reducible exact Calls.later_same (C1.out _))
          | (go_at_call 35; with_reducible exact Calls.later_same (C2.out _))
          | (go_at_call 38; with_reducible exact Calls.later (C3.out _))))
        refine wpQuiet_nil ?_
        intro w9 hw9
        obtain ⟨u9, rfl⟩ := hw9
        replace hD := hD.next u9.up
        clear l0 l1 l2 hne
        generalize u9.world = w9 at *
        go_wp2_with fail
        go_ret
        exact ⟨by rw [HB.out]; rfl, hD.up⟩
      rw [h1] at c1
      rw [h2] at c2
      have C1 := Lib.hid c1
      have C2 := Lib.hid c2
      have hbad : ¬ H = ByteArray.empty → ltS x1 H = false → RR = false := fun hE hb => HBB.out fun h => by
        rcases h.2.2.2 with h | h
        · exact hE h
        · rw [hb] at h; exact absurd h (by decide)
      have hok : (H = ByteArray.empty ∨ ltS x1 H = true) → ∀ j, j < k + 1 → OK j := fun h => HNH.out (by rw [HO2.out]; exact ⟨h1, h2, fun h' => absurd h' h0, h⟩)
      clear c1 c2 h1 h2 HO2 HBB
      by_cases hE : H = ByteArray.empty
      · have g1 : H.toList = [] := by rw [hE, Lib.toList_data]; rfl
        have g2 : H.toList.isEmpty = true := by rw [g1]; rfl
        have HO := Lib.hid (hok (.inl hE))
        clear hE hbad hok
        go_upto_region 4 with fail
        have l0 := Later.cell_of t0
        have l1 := Later.cell_of a1; have l2 := Later.cell_of a2
        have hne := later_ne wr
        clear t0 a1 a2
        refine wp_region_later (by kernel_rfl) (by kernel_rfl) ?_
        repeat (go_big_quiet_step (first
          | (go_at_call 34; with_reducible exact Calls.later_same (C1.out _))
          | (go_at_call 35; with_reducible exact Calls.later_same (C2.out _))
          | (go_at_call 38; with_reducible exact Calls.later (C3.out _))))
        refine wpQuiet_nil ?_
        intro w9 hw9
        obtain ⟨u9, rfl⟩ := hw9
        replace hD := hD.next u9.up
        clear l0 l1 l2 hne
        generalize u9.world = w9 at *
        obtain ⟨s0, s1, s2, -⟩ := RowAt.c3 (hD.get 0 rfl)
        obtain ⟨ga', oa', hq', a1, -⟩ := (HA.out.up hD.up) k hlt
        injection hq' with hq'
        injection hq' with e1 e2
        subst e1 e2
        rw [HX.out] at a1
        simp only at a1
        go_upto_region 6 with fail
        have m0 := Later.cell_of s0; have m1 := Later.cell_of s1; have m2 := Later.cell_of a1
        have hne := later_ne w9
        clear s0 s1 s2 a1
        refine wp_region_later (by kernel_rfl) (by kernel_rfl) ?_
        repeat (go_big_quiet_step ((go_at_call 38; with_reducible exact Calls.later (C4.out _))))
        refine wpQuiet_nil ?_
        intro w8 hw8
        obtain ⟨u8, rfl⟩ := hw8
        replace hD := hD.next u8.up
        clear m0 m1 m2 hne
        generalize u8.world = w7 at *
        go_wp2_with fail
        exact ⟨⟨k + 1, by omega, by go_num, HO.out, hD⟩, by simp [intOf]; omega⟩
      · have g1 := toList_ne hE
        have g2 := toList_nonempty hE
        cases hb : ltS x1 H
        · rw [hb] at C4
          have HB := Lib.hid (hbad hE hb)
          clear hE hbad hok hb
          go_upto_region 4 with fail
          have l0 := Later.cell_of t0
          have l1 := Later.cell_of a1; have l2 := Later.cell_of a2
          have hne := later_ne wr
          clear t0 a1 a2
          refine wp_region_later (by kernel_rfl) (by kernel_rfl) ?_
          repeat (go_big_quiet_step (first
            | (go_at_call 34; with_reducible exact Calls.later_same (C1.out _))
            | (go_at_call 35; with_reducible exact Calls.later_same (C2.out _))
            | (go_at_call 38; with_reducible exact Calls.later (C3.out _))))
          refine wpQuiet_nil ?_
          intro w9 hw9
          obtain ⟨u9, rfl⟩ := hw9
          replace hD := hD.next u9.up
          clear l0 l1 l2 hne
          generalize u9.world = w9 at *
          obtain ⟨s0, s1, s2, -⟩ := RowAt.c3 (hD.get 0 rfl)
          obtain ⟨ga', oa', hq', a1, -⟩ := (HA.out.up hD.up) k hlt
          injection hq' with hq'
          injection hq' with e1 e2
          subst e1 e2
          rw [HX.out] at a1
          simp only at a1
          go_upto_region 6 with fail
          have m0 := Later.cell_of s0; have m1 := Later.cell_of s1; have m2 := Later.cell_of a1
          have hne := later_ne w9
          clear s0 s1 s2 a1
          refine wp_region_later (by kernel_rfl) (by kernel_rfl) ?_
          repeat (go_big_quiet_step ((go_at_call 38; with_reducible exact Calls.later (C4.out _))))
          refine wpQuiet_nil ?_
          intro w8 hw8
          obtain ⟨u8, rfl⟩ := hw8
          replace hD := hD.next u8.up
          clear m0 m1 m2 hne
          generalize u8.world = w7 at *
          go_wp2_with fail
          go_ret
          exact ⟨by rw [HB.out]; rfl, hD.up⟩
        · rw [hb] at C4
          have HO := Lib.hid (hok (.inr hb))
          clear hE hbad hok hb
          go_upto_region 4 with fail
          have l0 := Later.cell_of t0
          have l1 := Later.cell_of a1; have l2 := Later.cell_of a2
          have hne := later_ne wr
          clear t0 a1 a2
          refine wp_region_later (by kernel_rfl) (by kernel_rfl) ?_
          repeat (go_big_quiet_step (first
            | (go_at_call 34; with_reducible exact Calls.later_same (C1.out _))
            | (go_at_call 35; with_reducible exact Calls.later_same (C2.out _))
            | (go_at_call 38; with_reducible exact Calls.later (C3.out _))))
          refine wpQuiet_nil ?_
          intro w9 hw9
          obtain ⟨u9, rfl⟩ := hw9
          replace hD := hD.next u9.up
          clear l0 l1 l2 hne
          generalize u9.world = w9 at *
          obtain ⟨s0, s1, s2, -⟩ := RowAt.c3 (hD.get 0 rfl)
          obtain ⟨ga', oa', hq', a1, -⟩ := (HA.out.up hD.up) k hlt
          injection hq' with hq'
          injection hq' with e1 e2
          subst e1 e2
          rw [HX.out] at a1
          simp only at a1
          go_upto_region 6 with fail
          have m0 := Later.cell_of s0; have m1 := Later.cell_of s1; have m2 := Later.cell_of a1
          have hne := later_ne w9
          clear s0 s1 s2 a1
          refine wp_region_later (by kernel_rfl) (by kernel_rfl) ?_
          repeat (go_big_quiet_step ((go_at_call 38; with_reducible exact Calls.later (C4.out _))))
          refine wpQuiet_nil ?_
          intro w8 hw8
          obtain ⟨u8, rfl⟩ := hw8
          replace hD := hD.next u8.up
          clear m0 m1 m2 hne
          generalize u8.world = w7 at *
          go_wp2_with fail
          exact ⟨⟨k + 1, by omega, by go_num, HO.out, hD⟩, by simp [intOf]; omega⟩
  · have i1 : ¬ (k : Int) < (L.length : Int) := by omega
    obtain rfl : k = L.length := by omega
    have hE := HEND.out (fun k hk => (HOK2.out k hk) ▸ HP.out k hk)
    clear HEND HBAD HOK HOK2 HP hlt hk HS
    generalize wtL L = z at *
    have z0 : 0 ≤ z := hbd.1
    have z1 : z ≤ 2002000 := hbd.2
    clear hbd
    have key : ¬ (H.size : Int) ≤ 16 ∨ ((H.size : Int) ≤ 16 ∧ ¬ 0 ≤ N) ∨ ((H.size : Int) ≤ 16 ∧ 0 ≤ N ∧ ¬ N ≤ 1024) ∨ ((H.size : Int) ≤ 16 ∧ 0 ≤ N ∧ N ≤ 1024) := by omega
    rcases key with k1 | ⟨k1, k2⟩ | ⟨k1, k2, k3⟩ | ⟨k1, k2, k3⟩
    · have HB := Lib.hid (show RR = false by rw [hE, decide_eq_false (show ¬ H.size ≤ 16 by omega)]; rfl)
      clear hE
      go_wp2_with fail
      go_ret
      exact ⟨by rw [HB.out]; rfl, hD.up⟩
    · have HB := Lib.hid (show RR = false by rw [hE, decide_eq_false k2]; simp)
      clear hE
      go_wp2_with fail
      go_ret
      exact ⟨by rw [HB.out]; rfl, hD.up⟩
    · have HB := Lib.hid (show RR = false by rw [hE, decide_eq_false k3]; simp)
      clear hE
      go_wp2_with fail
      go_ret
      exact ⟨by rw [HB.out]; rfl, hD.up⟩
    · have HB := Lib.hid (show RR = decide (z ≤ 231) by rw [hE, decide_eq_true (show H.size ≤ 16 by omega), decide_eq_true k2, decide_eq_true k3]; simp)
      clear hE
      go_wp2_with ((with_reducible refine (CW.out _ (HA.out.up hD.up)).mono ?_); rintro e wn ⟨rfl, hwn⟩; replace hD := hD.next hwn; clear hwn)
      go_ret
      exact ⟨by rw [HB.out]; rfl, hD.up⟩
end Go.Proofs.Ytdlcmbnbfghdmaa
