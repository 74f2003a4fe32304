/- LeafSize: the walk. -/
import Derived.Test.YtdlcmbnbfghdmaaLfPuts
import Derived.Test.YtdlcmbnbfghdmaaLfPure6
import Derived.Test.YtdlcmbnbfghdmaaAllR
namespace Bw
def cut16 (s : ByteArray) : ByteArray := s.extract 0 (min (s.size : Int) 16).toNat
def cut32 (s : ByteArray) : ByteArray := s.extract 0 (min (s.size : Int) 32).toNat
theorem cut16_size (s : ByteArray) : (cut16 s).size ≤ 16 := by rw [cut16, ByteArray.size_extract]; omega
theorem cut32_size (s : ByteArray) : (cut32 s).size ≤ 32 := by rw [cut32, ByteArray.size_extract]; omega
theorem enc_small' {x : LfD} (hr : x.right = true) : 0 ≤ x.size ∧ x.size ≤ 252 := by
  have h1 := (right_row hr).2.2.2
  have h2 := (right_sm hr).2.1
  have h3 := wtL_nonneg x.l
  rw [LfD.size]
  omega
end Bw
namespace Go.Proofs.Ytdlcmbnbfghdmaa
open Go.RowKit Bw
set_option linter.unusedVariables false
set_option maxHeartbeats 4000000 in
set_option maxRecDepth 100000 in
theorem size_law (x : LfD) (qa : Option Addr) (ca : Nat) (W : World) (hX : LfIn W x qa) (kk vv : ByteArray) (hkk : kk.size ≤ maxLen) (hvv : vv.size ≤ maxLen) :
    Calls Try.prog 8 #[lfV x qa ca, .agg #[.string kk, .string vv]] W fun e w' => e = .returned (.bool true) ∧ Below W.heap.size W w' := by
  unfold maxLen at hkk hvv
  have CX := Lib.hid (fun w hP => leaf_Cut x qa ca w hP hX.len hX.each hX.2)
  have PX := Lib.hid hX.pairs
  clear hX
  have sa := lcutD_sm x
  generalize lcutD x = a at *
  obtain ⟨k, hk⟩ : ∃ k, k = kk.extract 0 (min (kk.size : Int) 16).toNat := ⟨_, rfl⟩
  obtain ⟨v, hv⟩ : ∃ v, v = vv.extract 0 (min (vv.size : Int) 32).toNat := ⟨_, rfl⟩
  have hk3 : k.size ≤ 16 := by rw [hk, ByteArray.size_extract]; omega
  have hv3 : v.size ≤ 32 := by rw [hv, ByteArray.size_extract]; omega
  have C1 := Lib.hid (fun q c w (h : SlAt w q c a.l) => leaf_Right a sa q c w h.1)
  have CG := Lib.hid (fun w => law10_fixed w)
  have CP := Lib.hid (fun q c w (h : SlAt w q c a.l) => lfpost_open (leaf_Put a sa k v (by omega) (by omega) q c w h))
  cases hr : a.right
  · have hE : pE a k v = 1 := by simp [pE, mayPut, hr]
    rw [hE] at CP
    rw [hr] at C1
    clear hE hr sa
    generalize pD a k v = P at *
    obtain ⟨PL, PH, PN⟩ := P
    obtain ⟨L, H, N⟩ := x
    obtain ⟨A, HA, NA⟩ := a
    simp only [lfV] at *
    go_enter Try.func8, Try.ntmps8
    go_upto_region 1 with fail
    have hD := ((Hold.start W).madeRow (.slice qa L.length ca) [.string H, .int .i64 N] 24).madeRow (.string kk) [.string vv] 44
    simp only [World.size_alloc, List.nil_append] at hD
    generalize (W.alloc _).alloc _ = w0 at *
    replace hD : Hold W w0 [rowR W.heap.size (.slice qa L.length ca) [.string H, .int .i64 N], rowR (W.heap.size + 1) (.string kk) [.string vv]] := hD
    obtain ⟨t0, t1, t2, f0, f1, f2⟩ := RowAt.c3 (hD.get 0 rfl)
    go_upto_region 2 with ((with_reducible refine (CX.out _ (PX.out.up hD.up)).mono ?_); rintro e wn ⟨ga, ka, rfl, hs, hn, hb⟩; replace hD := hold_addSl hD hb hs hn; clear hs hn hb t0 t1 t2 f0 f1 f2; obtain ⟨t0, t1, t2, f0, f1, f2⟩ := RowAt.c3 (hD.get 0 rfl))
    clear t0 t1 t2 f0 f1 f2
    replace hD := ((hD.putRow 0 (g := W.heap.size) rfl 0 (.slice (some ⟨ga, 0, none⟩) A.length ka) (.slice (some ⟨ga, 0, none⟩) A.length ka) [.string H, .int .i64 N] (by simp) rfl).putRow 0 (g := W.heap.size) rfl 1 (.string HA) (.slice (some ⟨ga, 0, none⟩) A.length ka) [.string HA, .int .i64 N] (by simp) rfl).putRow 0 (g := W.heap.size) rfl 2 (.int .i64 NA) (.slice (some ⟨ga, 0, none⟩) A.length ka) [.string HA, .int .i64 NA] (by simp) rfl
    generalize ((wn.setCell ⟨W.heap.size, 0, none⟩ (.slice (some ⟨ga, 0, none⟩) A.length ka)).setCell ⟨W.heap.size, 1, none⟩ (.string HA)).setCell ⟨W.heap.size, 2, none⟩ (.int .i64 NA) = wc at *
    refine wp_region_two Eq (AllS NoS) (allS_ok NoS) (by kernel_rfl) (by kernel_rfl) (by kernel_rfl) ?_
    replace hD := hD.next ((Below.refl _ wc).drew)
    generalize wc.drew = wb at *
    obtain ⟨t0, t1, -⟩ := RowAt.c2 (hD.get 1 rfl)
    refine wpAnyTS_quiet 0 16 0 116 (by rfl) (by kernel_rfl) (fun _ _ _ _ _ h => h) (by kernel_rfl) (by kernel_rfl) ?_
    apply Exists.intro
    refine ⟨fun w2 hw2 => ?_, ?_⟩
    · have hne := laterR_ne (R := Eq) eqOK w2
      obtain ⟨l0, l1⟩ := And.intro (laterS t0 id hw2) (laterS t1 id hw2)
      simp only [List.drop_succ_cons, List.drop_zero, List.take_succ_cons, List.take_zero]
      repeat (go_big_quiet_step (fail))
      exact wpQuiet_nil rfl
    refine wpAnyTS_done (by kernel_rfl) ?_
    rintro w2 rfl
    clear t0 t1
    rw [← hk, ← hv]
    clear hk hv
    have U0 := Lib.hid hD.up
    have SA := Lib.hid (show SlAt wb (some ⟨ga, 0, none⟩) ka A from slR_sl (hD.get 2 rfl))
    have RA := Lib.hid (show RowAt wb W.heap.size [.slice (some ⟨ga, 0, none⟩) A.length ka, .string HA, .int .i64 NA] from hD.get 0 rfl)
    generalize W.heap.size = g0 at RA ⊢
    clear hD CX PX
    have hD := Hold.start wb
    obtain ⟨a0, a1, a2, -⟩ := RowAt.c3 (RA.out.up hD.up)
    go_upto_region 5 with (first | ((with_reducible refine (C1.out _ _ _ (SA.out.up hD.up)).mono ?_); rintro e wn ⟨rfl, hb⟩; replace hD := hD.next hb; clear hb; clear a0 a1 a2; obtain ⟨a0, a1, a2, -⟩ := RowAt.c3 (RA.out.up hD.up)) | ((with_reducible refine (CP.out _ _ _ (SA.out.up hD.up)).mono ?_); rintro e wm ⟨qp, kp, rfl, hs, hn, hb⟩; replace hD := hold_addSl hD hb hs hn; clear hs hn hb))
    replace hD := hD.madeRow (.slice qp PL.length kp) [.string PH, .int .i64 PN] 24
    simp only [List.nil_append, List.cons_append] at hD
    generalize wm.heap.size = g7 at *
    generalize wm.alloc _ = w7 at *
    clear a0 a1 a2
    obtain ⟨a0, a1, a2, -⟩ := RowAt.c3 (RA.out.up hD.up)
    go_wp2_with ((with_reducible refine (CG.out _).mono ?_); rintro e wn ⟨rfl, hb⟩; replace hD := hD.next hb; clear hb; clear a0 a1 a2; obtain ⟨a0, a1, a2, -⟩ := RowAt.c3 (RA.out.up hD.up))
    go_ret
    exact ⟨rfl, U0.out.trans hD.up⟩
  · have hrr := right_doc.1 hr
    have hb := enc_small' hr
    have hw := (right_row hr).2.2.2
    have CT := Lib.hid (fun q c w (h : SlAt w q c a.l) => leaf_Get a sa q c k w h.1)
    have CS := Lib.hid (fun q c w (h : SlAt w q c a.l) => leaf_Size a sa q c w h.1)
    have C7 := Lib.hid (fun q c q2 c2 w (h : SlAt w q c a.l) (h2 : SlAt w q2 c2 a.l) => leaf_Same a a q q2 c c2 w h.1 h2.1 sa.len sa.len)
    rw [same_self] at C7
    rw [hr] at C1
    have hH16 : a.high.size ≤ 16 := (right_sm hr).2.1
    have z1 : a.size - 5 - (a.high.size : Int) ≤ 231 := by rw [LfD.size]; omega
    have z2 : 0 ≤ a.size := hb.1
    have z3 : a.size ≤ 252 := hb.2
    have z4 : (a.high.size : Int) ≤ 16 := by omega
    by_cases hg : pE a k v = 0 ∧ getE a k = 7
    · obtain ⟨g1, g2⟩ := hg
      have hB : findB a.l k = false := by
        cases h : findB a.l k
        · rfl
        · simp [getE, hr, h] at g2
      have hm : mayPut a k v = true ∧ wtL (putL a.l k v) ≤ 231 := by
        cases h : mayPut a k v
        · simp [pE, h] at g1
        · refine ⟨rfl, ?_⟩
          by_cases h2 : wtL (putL a.l k v) ≤ 231
          · exact h2
          · simp [pE, h, h2] at g1
      have hP : pD a k v = ⟨putL a.l k v, a.high, a.next⟩ := by rw [pD, if_pos g1]
      have hmr := put_right hm.1 hm.2
      have hms := LfD.sm hmr
      have CD := Lib.hid (fun q c w h => lfpost_open (leaf_Del ⟨putL a.l k v, a.high, a.next⟩ hms k q c w h))
      have CM := Lib.hid (fun q c w (h : SlAt w q c (putL a.l k v)) => leaf_Size ⟨putL a.l k v, a.high, a.next⟩ hms q c w h.1)
      have hd : dE ⟨putL a.l k v, a.high, a.next⟩ k = 0 := by simp [dE, hmr, put_find.2]
      rw [show dD ⟨putL a.l k v, a.high, a.next⟩ k = a by rw [dD, if_pos hd]; simp only; rw [put_del hB], hd] at CD
      rw [g1, hP] at CP
      rw [g2] at CT
      have y1 : ((LfD.size ⟨putL a.l k v, a.high, a.next⟩ : Int) == a.size + 2 + (k.size : Int) + (v.size : Int)) = true := by
        rw [beq_iff_eq, LfD.size, LfD.size, put_wt hB]; simp only; omega
      have y2 : LfD.size ⟨putL a.l k v, a.high, a.next⟩ - 5 - (a.high.size : Int) ≤ 231 := by have := hm.2; rw [LfD.size]; simp only; omega
      have y3 := (enc_small' hmr)
      have y4 : 0 ≤ LfD.size ⟨putL a.l k v, a.high, a.next⟩ := y3.1
      have y5 : LfD.size ⟨putL a.l k v, a.high, a.next⟩ ≤ 252 := y3.2
      generalize LfD.size ⟨putL a.l k v, a.high, a.next⟩ = ZM at *
      generalize getS a k = GS at *
      have hks : (k.size : Int) ≤ 16 := by omega
      have hvs : (v.size : Int) ≤ 32 := by omega
      clear hP hmr hms hd hm hB g1 g2 hr hrr hb hw sa y3 z1
      generalize a.size = ZA at *
      generalize putL a.l k v = M at *
      obtain ⟨L, H, N⟩ := x
      obtain ⟨A, HA, NA⟩ := a
      simp only [lfV] at *
      go_enter Try.func8, Try.ntmps8
      go_upto_region 1 with fail
      have hD := ((Hold.start W).madeRow (.slice qa L.length ca) [.string H, .int .i64 N] 24).madeRow (.string kk) [.string vv] 44
      simp only [World.size_alloc, List.nil_append] at hD
      generalize (W.alloc _).alloc _ = w0 at *
      replace hD : Hold W w0 [rowR W.heap.size (.slice qa L.length ca) [.string H, .int .i64 N], rowR (W.heap.size + 1) (.string kk) [.string vv]] := hD
      obtain ⟨t0, t1, t2, f0, f1, f2⟩ := RowAt.c3 (hD.get 0 rfl)
      go_upto_region 2 with ((with_reducible refine (CX.out _ (PX.out.up hD.up)).mono ?_); rintro e wn ⟨ga, ka, rfl, hs, hn, hb⟩; replace hD := hold_addSl hD hb hs hn; clear hs hn hb t0 t1 t2 f0 f1 f2; obtain ⟨t0, t1, t2, f0, f1, f2⟩ := RowAt.c3 (hD.get 0 rfl))
      clear t0 t1 t2 f0 f1 f2
      replace hD := ((hD.putRow 0 (g := W.heap.size) rfl 0 (.slice (some ⟨ga, 0, none⟩) A.length ka) (.slice (some ⟨ga, 0, none⟩) A.length ka) [.string H, .int .i64 N] (by simp) rfl).putRow 0 (g := W.heap.size) rfl 1 (.string HA) (.slice (some ⟨ga, 0, none⟩) A.length ka) [.string HA, .int .i64 N] (by simp) rfl).putRow 0 (g := W.heap.size) rfl 2 (.int .i64 NA) (.slice (some ⟨ga, 0, none⟩) A.length ka) [.string HA, .int .i64 NA] (by simp) rfl
      generalize ((wn.setCell ⟨W.heap.size, 0, none⟩ (.slice (some ⟨ga, 0, none⟩) A.length ka)).setCell ⟨W.heap.size, 1, none⟩ (.string HA)).setCell ⟨W.heap.size, 2, none⟩ (.int .i64 NA) = wc at *
      refine wp_region_two Eq (AllS NoS) (allS_ok NoS) (by kernel_rfl) (by kernel_rfl) (by kernel_rfl) ?_
      replace hD := hD.next ((Below.refl _ wc).drew)
      generalize wc.drew = wb at *
      obtain ⟨t0, t1, -⟩ := RowAt.c2 (hD.get 1 rfl)
      refine wpAnyTS_quiet 0 16 0 116 (by rfl) (by kernel_rfl) (fun _ _ _ _ _ h => h) (by kernel_rfl) (by kernel_rfl) ?_
      apply Exists.intro
      refine ⟨fun w2 hw2 => ?_, ?_⟩
      · have hne := laterR_ne (R := Eq) eqOK w2
        obtain ⟨l0, l1⟩ := And.intro (laterS t0 id hw2) (laterS t1 id hw2)
        simp only [List.drop_succ_cons, List.drop_zero, List.take_succ_cons, List.take_zero]
        repeat (go_big_quiet_step (fail))
        exact wpQuiet_nil rfl
      refine wpAnyTS_done (by kernel_rfl) ?_
      rintro w2 rfl
      clear t0 t1
      rw [← hk, ← hv]
      clear hk hv
      have U0 := Lib.hid hD.up
      have SA := Lib.hid (show SlAt wb (some ⟨ga, 0, none⟩) ka A from slR_sl (hD.get 2 rfl))
      have RA := Lib.hid (show RowAt wb W.heap.size [.slice (some ⟨ga, 0, none⟩) A.length ka, .string HA, .int .i64 NA] from hD.get 0 rfl)
      generalize W.heap.size = g0 at RA ⊢
      clear hD CX PX
      have hD := Hold.start wb
      obtain ⟨a0, a1, a2, -⟩ := RowAt.c3 (RA.out.up hD.up)
      go_upto_region 7 with (first | ((with_reducible refine (C1.out _ _ _ (SA.out.up hD.up)).mono ?_); rintro e wn ⟨rfl, hb⟩; replace hD := hD.next hb; clear hb; clear a0 a1 a2; obtain ⟨a0, a1, a2, -⟩ := RowAt.c3 (RA.out.up hD.up)) | ((with_reducible refine (CT.out _ _ _ (SA.out.up hD.up)).mono ?_); rintro e wn ⟨rfl, hb⟩; replace hD := hD.next hb; clear hb; clear a0 a1 a2; obtain ⟨a0, a1, a2, -⟩ := RowAt.c3 (RA.out.up hD.up)))
      go_upto_region 8 with ((with_reducible refine (CP.out _ _ _ (SA.out.up hD.up)).mono ?_); rintro e wm ⟨qm, km, rfl, hs, hn, hb⟩; replace hD := hold_addSl hD hb hs hn; clear hs hn hb)
      replace hD := hD.madeRow (.slice qm M.length km) [.string HA, .int .i64 NA] 24
      simp only [List.nil_append, List.cons_append] at hD
      generalize wm.heap.size = g11 at *
      generalize wm.alloc _ = w11 at *
      clear a0 a1 a2
      obtain ⟨a0, a1, a2, -⟩ := RowAt.c3 (RA.out.up hD.up)
      obtain ⟨m0, m1, m2, -⟩ := RowAt.c3 (hD.get 1 rfl)
      go_upto_region 11 with ((with_reducible refine (CD.out _ _ _ (slR_sl (hD.get 0 rfl))).mono ?_); rintro e wm ⟨qx, kx, rfl, hs, hn, hb⟩; replace hD := hold_addSl hD hb hs hn; clear hs hn hb m0 m1 m2)
      replace hD := hD.madeRow (.slice qx A.length kx) [.string HA, .int .i64 NA] 24
      simp only [List.nil_append, List.cons_append] at hD
      generalize wm.heap.size = g13 at *
      generalize wm.alloc _ = w13 at *
      clear a0 a1 a2
      obtain ⟨a0, a1, a2, -⟩ := RowAt.c3 (RA.out.up hD.up)
      obtain ⟨m0, m1, m2, -⟩ := RowAt.c3 (hD.get 1 rfl)
      obtain ⟨x0, x1, x2, -⟩ := RowAt.c3 (hD.get 3 rfl)
      have SA9 := Lib.hid (SA.out.up hD.up)
      have SM9 := Lib.hid (show SlAt w13 qm km M from slR_sl (hD.get 0 rfl))
      have SX9 := Lib.hid (show SlAt w13 qx kx A from slR_sl (hD.get 2 rfl))
      have l0 := Later.cell_of a0; have l1 := Later.cell_of a1; have l2 := Later.cell_of a2
      have lm0 := Later.cell_of m0; have lm1 := Later.cell_of m1; have lm2 := Later.cell_of m2
      have lx0 := Later.cell_of x0; have lx1 := Later.cell_of x1; have lx2 := Later.cell_of x2
      have hne := later_ne w13
      clear a0 a1 a2 m0 m1 m2 x0 x1 x2
      refine wp_region_later (by kernel_rfl) (by kernel_rfl) ?_
      repeat (go_big_quiet_step (first
        | (go_at_call 16; rename_i ul; with_reducible exact Calls.later (CM.out _ _ _ (SM9.out.up ul.up)))
        | (go_at_call 16; rename_i ul; with_reducible exact Calls.later (CS.out _ _ _ (SA9.out.up ul.up)))
        | (go_at_call 20; rename_i ul; with_reducible exact Calls.later (C7.out _ _ _ _ _ (SX9.out.up ul.up) (SA9.out.up ul.up)))
        | (go_at_call 22; with_reducible exact Calls.later (CG.out _))))
      refine wpQuiet_nil ?_
      intro w10 hw10
      obtain ⟨u10, rfl⟩ := hw10
      replace hD := hD.next u10.up
      go_wp2_with fail
      go_ret
      exact ⟨rfl, U0.out.trans hD.up⟩
    · have hcase : ¬ pE a k v = 0 ∨ (pE a k v = 0 ∧ ¬ getE a k = 7) := by
        by_cases h : pE a k v = 0
        · exact .inr ⟨h, fun h2 => hg ⟨h, h2⟩⟩
        · exact .inl h
      clear hg hr hrr hb hw sa
      generalize pE a k v = E at *
      generalize getE a k = G at *
      generalize getS a k = GS at *
      generalize pD a k v = P at *
      generalize a.size = ZA at *
      obtain ⟨PL, PH, PN⟩ := P
      rcases hcase with k1 | ⟨rfl, k1⟩
      all_goals
        obtain ⟨L, H, N⟩ := x
        obtain ⟨A, HA, NA⟩ := a
        simp only [lfV] at *
        go_enter Try.func8, Try.ntmps8
        go_upto_region 1 with fail
        have hD := ((Hold.start W).madeRow (.slice qa L.length ca) [.string H, .int .i64 N] 24).madeRow (.string kk) [.string vv] 44
        simp only [World.size_alloc, List.nil_append] at hD
        generalize (W.alloc _).alloc _ = w0 at *
        replace hD : Hold W w0 [rowR W.heap.size (.slice qa L.length ca) [.string H, .int .i64 N], rowR (W.heap.size + 1) (.string kk) [.string vv]] := hD
        obtain ⟨t0, t1, t2, f0, f1, f2⟩ := RowAt.c3 (hD.get 0 rfl)
        go_upto_region 2 with ((with_reducible refine (CX.out _ (PX.out.up hD.up)).mono ?_); rintro e wn ⟨ga, ka, rfl, hs, hn, hb⟩; replace hD := hold_addSl hD hb hs hn; clear hs hn hb t0 t1 t2 f0 f1 f2; obtain ⟨t0, t1, t2, f0, f1, f2⟩ := RowAt.c3 (hD.get 0 rfl))
        clear t0 t1 t2 f0 f1 f2
        replace hD := ((hD.putRow 0 (g := W.heap.size) rfl 0 (.slice (some ⟨ga, 0, none⟩) A.length ka) (.slice (some ⟨ga, 0, none⟩) A.length ka) [.string H, .int .i64 N] (by simp) rfl).putRow 0 (g := W.heap.size) rfl 1 (.string HA) (.slice (some ⟨ga, 0, none⟩) A.length ka) [.string HA, .int .i64 N] (by simp) rfl).putRow 0 (g := W.heap.size) rfl 2 (.int .i64 NA) (.slice (some ⟨ga, 0, none⟩) A.length ka) [.string HA, .int .i64 NA] (by simp) rfl
        generalize ((wn.setCell ⟨W.heap.size, 0, none⟩ (.slice (some ⟨ga, 0, none⟩) A.length ka)).setCell ⟨W.heap.size, 1, none⟩ (.string HA)).setCell ⟨W.heap.size, 2, none⟩ (.int .i64 NA) = wc at *
        refine wp_region_two Eq (AllS NoS) (allS_ok NoS) (by kernel_rfl) (by kernel_rfl) (by kernel_rfl) ?_
        replace hD := hD.next ((Below.refl _ wc).drew)
        generalize wc.drew = wb at *
        obtain ⟨t0, t1, -⟩ := RowAt.c2 (hD.get 1 rfl)
        refine wpAnyTS_quiet 0 16 0 116 (by rfl) (by kernel_rfl) (fun _ _ _ _ _ h => h) (by kernel_rfl) (by kernel_rfl) ?_
        apply Exists.intro
        refine ⟨fun w2 hw2 => ?_, ?_⟩
        · have hne := laterR_ne (R := Eq) eqOK w2
          obtain ⟨l0, l1⟩ := And.intro (laterS t0 id hw2) (laterS t1 id hw2)
          simp only [List.drop_succ_cons, List.drop_zero, List.take_succ_cons, List.take_zero]
          repeat (go_big_quiet_step (fail))
          exact wpQuiet_nil rfl
        refine wpAnyTS_done (by kernel_rfl) ?_
        rintro w2 rfl
        clear t0 t1
        rw [← hk, ← hv]
        clear hk hv
        have U0 := Lib.hid hD.up
        have SA := Lib.hid (show SlAt wb (some ⟨ga, 0, none⟩) ka A from slR_sl (hD.get 2 rfl))
        have RA := Lib.hid (show RowAt wb W.heap.size [.slice (some ⟨ga, 0, none⟩) A.length ka, .string HA, .int .i64 NA] from hD.get 0 rfl)
        generalize W.heap.size = g0 at RA ⊢
        clear hD CX PX
        have hD := Hold.start wb
        obtain ⟨a0, a1, a2, -⟩ := RowAt.c3 (RA.out.up hD.up)
        go_upto_region 7 with (first | ((with_reducible refine (C1.out _ _ _ (SA.out.up hD.up)).mono ?_); rintro e wn ⟨rfl, hb⟩; replace hD := hD.next hb; clear hb; clear a0 a1 a2; obtain ⟨a0, a1, a2, -⟩ := RowAt.c3 (RA.out.up hD.up)) | ((with_reducible refine (CT.out _ _ _ (SA.out.up hD.up)).mono ?_); rintro e wn ⟨rfl, hb⟩; replace hD := hD.next hb; clear hb; clear a0 a1 a2; obtain ⟨a0, a1, a2, -⟩ := RowAt.c3 (RA.out.up hD.up)))
        go_upto_region 8 with ((with_reducible refine (CP.out _ _ _ (SA.out.up hD.up)).mono ?_); rintro e wm ⟨qp, kp, rfl, hs, hn, hb⟩; replace hD := hold_addSl hD hb hs hn; clear hs hn hb)
        replace hD := hD.madeRow (.slice qp PL.length kp) [.string PH, .int .i64 PN] 24
        simp only [List.nil_append, List.cons_append] at hD
        generalize wm.heap.size = g7 at *
        generalize wm.alloc _ = w7 at *
        clear a0 a1 a2
        obtain ⟨a0, a1, a2, -⟩ := RowAt.c3 (RA.out.up hD.up)
        go_upto_region 9 with fail
        have SA9 := Lib.hid (SA.out.up hD.up)
        have l0 := Later.cell_of a0; have l1 := Later.cell_of a1; have l2 := Later.cell_of a2
        have hne := later_ne w7
        clear a0 a1 a2
        refine wp_region_later (by kernel_rfl) (by kernel_rfl) ?_
        repeat (go_big_quiet_step (first
          | (go_at_call 16; rename_i ul; with_reducible exact Calls.later (CS.out _ _ _ (SA9.out.up ul.up)))
          | (go_at_call 22; with_reducible exact Calls.later (CG.out _))))
        refine wpQuiet_nil ?_
        intro w10 hw10
        obtain ⟨u10, rfl⟩ := hw10
        replace hD := hD.next u10.up
        go_wp2_with fail
        go_ret
        exact ⟨rfl, U0.out.trans hD.up⟩
end Go.Proofs.Ytdlcmbnbfghdmaa
