/- LeafSplits: the walk. -/
import Derived.Test.YtdlcmbnbfghdmaaLfSize
import Derived.Test.YtdlcmbnbfghdmaaLfPure7
namespace Go.Proofs.Ytdlcmbnbfghdmaa
open Go.RowKit Bw
set_option linter.unusedVariables false
theorem and_1023 (x : Int) : 0 ≤ bits .and .i64 x 1023 ∧ bits .and .i64 x 1023 ≤ 1023 := by
  have h1 : (BitVec.ofInt 64 x &&& BitVec.ofInt 64 1023).toNat ≤ 1023 := by
    rw [BitVec.toNat_and]
    exact Nat.le_trans Nat.and_le_right (by decide)
  have h2 : bits .and .i64 x 1023 = IntKind.i64.wrap ((BitVec.ofInt 64 x &&& BitVec.ofInt 64 1023).toNat : Int) := rfl
  rw [h2]
  generalize (BitVec.ofInt 64 x &&& BitVec.ofInt 64 1023).toNat = m at *
  have h3 : IntKind.i64.wrap (m : Int) = (m : Int) := by
    simp [IntKind.wrap, IntKind.bits, IntKind.signed]
    omega
  rw [h3]
  omega
set_option maxHeartbeats 4000000 in
set_option maxRecDepth 100000 in
theorem splits_law (x : LfD) (qa : Option Addr) (ca : Nat) (W : World) (hX : LfIn W x qa) (pg : Int) (hpg : (Lit.int .i64 pg).wf = true) (kk vv : ByteArray) (hkk : kk.size ≤ maxLen) (hvv : vv.size ≤ maxLen) :
    Calls Try.prog 7 #[lfV x qa ca, .int .i64 pg, .agg #[.string kk, .string vv]] W fun e w' => e = .returned (.bool true) ∧ Below W.heap.size W w' := by
  unfold maxLen at hkk hvv
  have CX := Lib.hid (fun w hP => leaf_Cut x qa ca w hP hX.len hX.each hX.2)
  have PX := Lib.hid hX.pairs
  clear hX
  have sa := lcutD_sm x
  generalize lcutD x = a at *
  obtain ⟨k, hk⟩ : ∃ k, k = kk.extract 0 (min (kk.size : Int) 16).toNat := ⟨_, rfl⟩
  obtain ⟨v, hv⟩ : ∃ v, v = vv.extract 0 (min (vv.size : Int) 32).toNat := ⟨_, rfl⟩
  have hk3 : k.size ≤ 16 := by rw [hk, ByteArray.size_extract]; omega
  have hv3 : v.size ≤ 32 := by rw [hv, ByteArray.size_extract]; omega
  have C1 := Lib.hid (fun q c w (h : SlAt w q c a.l) => leaf_Right a sa q c w h.1)
  have CG := Lib.hid (fun w => law10_fixed w)
  have CP := Lib.hid (fun q c w (h : SlAt w q c a.l) => lfpost_open (leaf_Put a sa k v (by omega) (by omega) q c w h))
  obtain ⟨p0, p1⟩ := and_1023 pg
  obtain ⟨p, hp⟩ : ∃ p, bits .and .i64 pg 1023 = p := ⟨_, rfl⟩
  rw [hp] at p0 p1
  obtain ⟨L, H, N⟩ := x
  by_cases hgo : a.right = true ∧ 2 ≤ a.l.length
  · obtain ⟨hr, h2⟩ := hgo
    obtain ⟨M, hh⟩ := halves hr h2 p0 p1
    have hj := halves_join hr hh
    have hmm : maySplit a p = true := by simp [maySplit, hr, h2, p0, p1]
    have hE : sE a p = 0 := by rw [sE, if_pos hmm]
    have sX := LfD.sm hh.ra
    have sY := LfD.sm hh.rb
    have CS := Lib.hid (fun q c w h => lfpost2_open (leaf_Split a sa p q c w h))
    have CJ := Lib.hid (fun q c q2 c2 w h h2 => lfpost_open (leaf_Join (sA a p) (sB a p) sX sY q q2 c c2 w h h2))
    have C7 := Lib.hid (fun q c q2 c2 w (h : SlAt w q c a.l) (h2 : SlAt w q2 c2 a.l) => leaf_Same a a q q2 c c2 w h.1 h2.1 sa.len sa.len)
    have CX1 := Lib.hid (fun q c w (h : SlAt w q c (sA a p).l) => leaf_Right (sA a p) sX q c w h.1)
    have CY1 := Lib.hid (fun q c w (h : SlAt w q c (sB a p).l) => leaf_Right (sB a p) sY q c w h.1)
    have CPX := Lib.hid (fun q c w (h : SlAt w q c (sA a p).l) => lfpost_open (leaf_Put (sA a p) sX k v (by omega) (by omega) q c w h))
    have CPY := Lib.hid (fun q c w (h : SlAt w q c (sB a p).l) => lfpost_open (leaf_Put (sB a p) sY k v (by omega) (by omega) q c w h))
    have CL := Lib.hid (fun w => ref5_Less k (sA a p).high w (by omega) (by have := sX.high; omega))
    rw [same_self] at C7
    rw [hr] at C1
    rw [hE] at CS
    rw [hj.1, hj.2] at CJ
    rw [hh.ra] at CX1
    rw [hh.rb] at CY1
    have HX := Lib.hid (show pE a k v = 6 → ltS k (sA a p).high = true → pE (sA a p) k v = 0 from fun h1 h2 => half_put h1 hk3 hv3 hh.ra (by rw [hh.a]; exact hh.wa) (.inl h2))
    have HY := Lib.hid (show pE a k v = 6 → pE (sB a p) k v = 0 from fun h1 => half_put h1 hk3 hv3 hh.rb (by rw [hh.b]; exact hh.wb) (.inr (by rw [hh.b])))
    have hXn : (sA a p).next = p + 1 := by rw [hh.a]
    have hXl : 1 ≤ (sA a p).l.length := by rw [hh.a]; simp only [List.length_take]; have := hh.hi; have := hh.lo; omega
    have hYl : 1 ≤ (sB a p).l.length := by rw [hh.b]; simp only [List.length_drop]; have := hh.hi; omega
    have hXh : (sA a p).high.size ≤ 1000 := sX.high
    have hlen : a.l.length ≤ 1000 := sa.len
    clear hh hj hmm hE sX sY sa hr
    generalize sA a p = X at *
    generalize sB a p = Y at *
    generalize pE a k v = E at *
    generalize pD a k v = P at *
    generalize pE X k v = EX at *
    generalize pD X k v = PX' at *
    generalize pE Y k v = EY at *
    generalize pD Y k v = PY' at *
    obtain ⟨XL, XH, XN⟩ := X
    obtain ⟨YL, YH, YN⟩ := Y
    obtain ⟨PL, PH, PN⟩ := P
    obtain ⟨P1, P2, P3⟩ := PX'
    obtain ⟨Q1, Q2, Q3⟩ := PY'
    simp only at hXn
    subst hXn
    obtain ⟨A, HA, NA⟩ := a
    simp only [lfV] at *
    have j1 : ¬ (A.length : Int) < 2 := by omega
    have j2 : ((XL.length : Int) == 0) = false := beq_eq_false_iff_ne.2 (by omega)
    have j3 : ((YL.length : Int) == 0) = false := beq_eq_false_iff_ne.2 (by omega)
    have j4 : ¬ XL.length = 0 := by omega
    have j5 : ¬ YL.length = 0 := by omega
    have j6 : ¬ XL = [] := fun h => j4 (by rw [h]; rfl)
    have j7 : ¬ YL = [] := fun h => j5 (by rw [h]; rfl)
    clear h2 hXl hYl
    go_enter Try.func7, Try.ntmps7
    go_upto_region 1 with fail
    have hD := ((Hold.start W).madeRow (.slice qa L.length ca) [.string H, .int .i64 N] 24).madeRow (.string kk) [.string vv] 44
    simp only [World.size_alloc, List.nil_append] at hD
    generalize (W.alloc _).alloc _ = w0 at *
    replace hD : Hold W w0 [rowR W.heap.size (.slice qa L.length ca) [.string H, .int .i64 N], rowR (W.heap.size + 1) (.string kk) [.string vv]] := hD
    obtain ⟨t0, t1, t2, f0, f1, f2⟩ := RowAt.c3 (hD.get 0 rfl)
    go_upto_region 2 with ((with_reducible refine (CX.out _ (PX.out.up hD.up)).mono ?_); rintro e wn ⟨ga, ka, rfl, hs, hn, hb⟩; replace hD := hold_addSl hD hb hs hn; clear hs hn hb t0 t1 t2 f0 f1 f2; obtain ⟨t0, t1, t2, f0, f1, f2⟩ := RowAt.c3 (hD.get 0 rfl))
    clear t0 t1 t2 f0 f1 f2
    replace hD := ((hD.putRow 0 (g := W.heap.size) rfl 0 (.slice (some ⟨ga, 0, none⟩) A.length ka) (.slice (some ⟨ga, 0, none⟩) A.length ka) [.string H, .int .i64 N] (by simp) rfl).putRow 0 (g := W.heap.size) rfl 1 (.string HA) (.slice (some ⟨ga, 0, none⟩) A.length ka) [.string HA, .int .i64 N] (by simp) rfl).putRow 0 (g := W.heap.size) rfl 2 (.int .i64 NA) (.slice (some ⟨ga, 0, none⟩) A.length ka) [.string HA, .int .i64 NA] (by simp) rfl
    generalize ((wn.setCell ⟨W.heap.size, 0, none⟩ (.slice (some ⟨ga, 0, none⟩) A.length ka)).setCell ⟨W.heap.size, 1, none⟩ (.string HA)).setCell ⟨W.heap.size, 2, none⟩ (.int .i64 NA) = wb at *
    have U0 := Lib.hid hD.up
    have SA := Lib.hid (show SlAt wb (some ⟨ga, 0, none⟩) ka A from slR_sl (hD.get 2 rfl))
    have RA := Lib.hid (show RowAt wb W.heap.size [.slice (some ⟨ga, 0, none⟩) A.length ka, .string HA, .int .i64 NA] from hD.get 0 rfl)
    have RK := Lib.hid (show RowAt wb (W.heap.size + 1) [.string kk, .string vv] from hD.get 1 rfl)
    generalize W.heap.size = g0 at RA RK ⊢
    clear hD CX PX
    have hD := Hold.start wb
    obtain ⟨a0, a1, a2, -⟩ := RowAt.c3 (RA.out.up hD.up)
    go_upto_region 3 with fail
    go_upto_region 4 with ((with_reducible refine (CS.out _ _ _ (SA.out.up hD.up)).mono ?_); rintro e w2 ⟨q1, c1, q2, c2, rfl, hs1, hn1, hs2, hn2, hb⟩)
    have hb' : Up wb w2 := hb
    have U1 := Lib.hid (U0.out.trans hb')
    have SA2 := Lib.hid (SA.out.up hb')
    have RA2 := Lib.hid (RA.out.up hb')
    have RK2 := Lib.hid (RK.out.up hb')
    have SX := Lib.hid (slR_sl hs1)
    have SY := Lib.hid (slR_sl hs2)
    clear hs1 hs2 hn1 hn2 hb hb' hD a0 a1 a2 U0 SA RA RK
    have U0 := U1
    have SA := SA2
    have RA := RA2
    have RK := RK2
    clear U1 SA2 RA2 RK2
    have hD := ((Hold.start w2).madeRow (.slice q1 XL.length c1) [.string XH, .int .i64 (p + 1)] 24).madeRow (.slice q2 YL.length c2) [.string YH, .int .i64 YN] 24
    simp only [World.size_alloc, List.nil_append, List.cons_append] at hD
    generalize w2.heap.size = g8 at *
    generalize (w2.alloc _).alloc _ = w3 at *
    replace hD : Hold w2 w3 [rowR g8 (.slice q1 XL.length c1) [.string XH, .int .i64 (p + 1)], rowR (g8 + 1) (.slice q2 YL.length c2) [.string YH, .int .i64 YN]] := hD
    obtain ⟨a0, a1, a2, -⟩ := RowAt.c3 (RA.out.up hD.up)
    obtain ⟨x0, x1, x2, -⟩ := RowAt.c3 (hD.get 0 rfl)
    obtain ⟨y0, y1, y2, -⟩ := RowAt.c3 (hD.get 1 rfl)
    go_upto_region 7 with (first
      | ((with_reducible refine (C1.out _ _ _ (SA.out.up hD.up)).mono ?_); rintro e wn ⟨rfl, hb⟩; replace hD := hD.next hb; clear hb; clear a0 a1 a2 x0 x1 x2 y0 y1 y2; obtain ⟨a0, a1, a2, -⟩ := RowAt.c3 (RA.out.up hD.up); obtain ⟨x0, x1, x2, -⟩ := RowAt.c3 (hD.get 0 rfl); obtain ⟨y0, y1, y2, -⟩ := RowAt.c3 (hD.get 1 rfl))
      | ((with_reducible refine (CJ.out _ _ _ _ _ (SX.out.up hD.up) (SY.out.up hD.up)).mono ?_); rintro e wn ⟨q3, c3, rfl, hs, hn, hb⟩; replace hD := hold_addSl hD hb hs hn; clear hs hn hb))
    replace hD := hD.madeRow (.slice q3 A.length c3) [.string HA, .int .i64 NA] 24
    simp only [List.nil_append, List.cons_append] at hD
    generalize wn.heap.size = g11 at *
    generalize wn.alloc _ = w11 at *
    clear a0 a1 a2 x0 x1 x2 y0 y1 y2; obtain ⟨a0, a1, a2, -⟩ := RowAt.c3 (RA.out.up hD.up); obtain ⟨x0, x1, x2, -⟩ := RowAt.c3 (hD.get 0 rfl); obtain ⟨y0, y1, y2, -⟩ := RowAt.c3 (hD.get 1 rfl)
    obtain ⟨z0, z1, z2, -⟩ := RowAt.c3 (hD.get 3 rfl)
    go_upto_region 9 with (first
      | ((with_reducible refine (C7.out _ _ _ _ _ (slR_sl (hD.get 2 rfl)) (SA.out.up hD.up)).mono ?_); rintro e wn ⟨rfl, hb⟩; replace hD := hD.next hb; clear hb z0 z1 z2; clear a0 a1 a2 x0 x1 x2 y0 y1 y2; obtain ⟨a0, a1, a2, -⟩ := RowAt.c3 (RA.out.up hD.up); obtain ⟨x0, x1, x2, -⟩ := RowAt.c3 (hD.get 0 rfl); obtain ⟨y0, y1, y2, -⟩ := RowAt.c3 (hD.get 1 rfl))
      | ((with_reducible refine (CX1.out _ _ _ (SX.out.up hD.up)).mono ?_); rintro e wn ⟨rfl, hb⟩; replace hD := hD.next hb; clear hb; clear a0 a1 a2 x0 x1 x2 y0 y1 y2; obtain ⟨a0, a1, a2, -⟩ := RowAt.c3 (RA.out.up hD.up); obtain ⟨x0, x1, x2, -⟩ := RowAt.c3 (hD.get 0 rfl); obtain ⟨y0, y1, y2, -⟩ := RowAt.c3 (hD.get 1 rfl))
      | ((with_reducible refine (CY1.out _ _ _ (SY.out.up hD.up)).mono ?_); rintro e wn ⟨rfl, hb⟩; replace hD := hD.next hb; clear hb; clear a0 a1 a2 x0 x1 x2 y0 y1 y2; obtain ⟨a0, a1, a2, -⟩ := RowAt.c3 (RA.out.up hD.up); obtain ⟨x0, x1, x2, -⟩ := RowAt.c3 (hD.get 0 rfl); obtain ⟨y0, y1, y2, -⟩ := RowAt.c3 (hD.get 1 rfl)))
    clear CX1 CY1 C7 CJ C1
    refine wp_region_two Eq (AllS NoS) (allS_ok NoS) (by kernel_rfl) (by kernel_rfl) (by kernel_rfl) ?_
    replace hD := hD.next ((Below.refl _ wn).drew)
    clear a0 a1 a2 x0 x1 x2 y0 y1 y2
    generalize wn.drew = w9 at *
    obtain ⟨t0, t1, -⟩ := RowAt.c2 (RK.out.up hD.up)
    refine wpAnyTS_quiet 0 16 0 134 (by rfl) (by kernel_rfl) (fun _ _ _ _ _ h => h) (by kernel_rfl) (by kernel_rfl) ?_
    apply Exists.intro
    refine ⟨fun w2 hw2 => ?_, ?_⟩
    · have hne := laterR_ne (R := Eq) eqOK w2
      obtain ⟨l0, l1⟩ := And.intro (laterS t0 id hw2) (laterS t1 id hw2)
      simp only [List.drop_succ_cons, List.drop_zero, List.take_succ_cons, List.take_zero]
      repeat (go_big_quiet_step (fail))
      exact wpQuiet_nil rfl
    refine wpAnyTS_done (by kernel_rfl) ?_
    rintro w2' rfl
    clear t0 t1
    rw [← hk, ← hv]
    clear hk hv
    obtain ⟨a0, a1, a2, -⟩ := RowAt.c3 (RA.out.up hD.up)
    obtain ⟨x0, x1, x2, -⟩ := RowAt.c3 (hD.get 0 rfl)
    obtain ⟨y0, y1, y2, -⟩ := RowAt.c3 (hD.get 1 rfl)
    go_upto_region 11 with ((with_reducible refine (CP.out _ _ _ (SA.out.up hD.up)).mono ?_); rintro e wp ⟨qp, kp, rfl, hs, hn, hb⟩; replace hD := hold_addSl hD hb hs hn; clear hs hn hb)
    replace hD := hD.madeRow (.slice qp PL.length kp) [.string PH, .int .i64 PN] 24
    simp only [List.nil_append, List.cons_append] at hD
    generalize wp.heap.size = g15 at *
    generalize wp.alloc _ = w15 at *
    by_cases hE6 : E = 6
    · subst hE6
      clear a0 a1 a2 x0 x1 x2 y0 y1 y2; obtain ⟨a0, a1, a2, -⟩ := RowAt.c3 (RA.out.up hD.up); obtain ⟨x0, x1, x2, -⟩ := RowAt.c3 (hD.get 0 rfl); obtain ⟨y0, y1, y2, -⟩ := RowAt.c3 (hD.get 1 rfl)
      go_upto_region 14 with fail
      have hF := hD.madeRow (.slice q2 YL.length c2) [.string YH, .int .i64 YN] 24
      simp only [List.nil_append, List.cons_append] at hF
      clear hD
      have hD := hF
      clear hF
      generalize w15.heap.size = g17 at *
      generalize w15.alloc _ = w17 at *
      clear a0 a1 a2 x0 x1 x2 y0 y1 y2; obtain ⟨a0, a1, a2, -⟩ := RowAt.c3 (RA.out.up hD.up); obtain ⟨x0, x1, x2, -⟩ := RowAt.c3 (hD.get 0 rfl); obtain ⟨y0, y1, y2, -⟩ := RowAt.c3 (hD.get 1 rfl)
      obtain ⟨z0, z1, z2, f0, f1, f2⟩ := RowAt.c3 (hD.get 6 rfl)
      have hEY := HY.out rfl
      subst hEY
      cases hL : ltS k XH
      · rw [hL] at CL
        clear hL HX
        go_upto_region 16 with ((with_reducible refine (CL.out _).mono ?_); rintro e wn ⟨rfl, hb⟩; replace hD := hD.next hb; clear hb z0 z1 z2 f0 f1 f2; clear a0 a1 a2 x0 x1 x2 y0 y1 y2; obtain ⟨a0, a1, a2, -⟩ := RowAt.c3 (RA.out.up hD.up); obtain ⟨x0, x1, x2, -⟩ := RowAt.c3 (hD.get 0 rfl); obtain ⟨y0, y1, y2, -⟩ := RowAt.c3 (hD.get 1 rfl); obtain ⟨z0, z1, z2, f0, f1, f2⟩ := RowAt.c3 (hD.get 6 rfl))
        go_upto_region 17 with ((with_reducible refine (CPY.out _ _ _ (SY.out.up hD.up)).mono ?_); rintro e wr ⟨q7, c7, rfl, hs, hn, hb⟩; replace hD := hD.next hb; clear hs hn hb)
        replace hD := hD.next ((Up.refl wr).alloc (.cells #[.slice q7 Q1.length c7, .string Q2, .int .i64 Q3] 24))
        generalize wr.heap.size = g18 at *
        generalize wr.alloc _ = w18 at *
        go_wp2_with ((with_reducible refine (CG.out _).mono ?_); rintro e wn ⟨rfl, hb⟩; replace hD := hD.next hb; clear hb)
        go_ret
        exact ⟨rfl, U0.out.trans hD.up⟩
      · have hEX := HX.out rfl hL
        rw [hL] at CL
        clear hL HX
        subst hEX
        go_upto_region 16 with ((with_reducible refine (CL.out _).mono ?_); rintro e wn ⟨rfl, hb⟩; replace hD := hD.next hb; clear hb z0 z1 z2 f0 f1 f2; clear a0 a1 a2 x0 x1 x2 y0 y1 y2; obtain ⟨a0, a1, a2, -⟩ := RowAt.c3 (RA.out.up hD.up); obtain ⟨x0, x1, x2, -⟩ := RowAt.c3 (hD.get 0 rfl); obtain ⟨y0, y1, y2, -⟩ := RowAt.c3 (hD.get 1 rfl); obtain ⟨z0, z1, z2, f0, f1, f2⟩ := RowAt.c3 (hD.get 6 rfl))
        clear z0 z1 z2 f0 f1 f2 a0 a1 a2 x0 x1 x2 y0 y1 y2
        replace hD := ((hD.putRow 6 (g := g17) rfl 0 (.slice (q1) XL.length c1) (.slice (q1) XL.length c1) [.string YH, .int .i64 YN] (by simp) rfl).putRow 6 (g := g17) rfl 1 (.string XH) (.slice (q1) XL.length c1) [.string XH, .int .i64 YN] (by simp) rfl).putRow 6 (g := g17) rfl 2 (.int .i64 (p + 1)) (.slice (q1) XL.length c1) [.string XH, .int .i64 (p + 1)] (by simp) rfl
        generalize ((wn.setCell ⟨g17, 0, none⟩ (.slice (q1) XL.length c1)).setCell ⟨g17, 1, none⟩ (.string XH)).setCell ⟨g17, 2, none⟩ (.int .i64 (p + 1)) = w19 at *
        obtain ⟨z0, z1, z2, f0, f1, f2⟩ := RowAt.c3 (hD.get 6 rfl)
        go_upto_region 17 with ((with_reducible refine (CPX.out _ _ _ (SX.out.up hD.up)).mono ?_); rintro e wr ⟨q7, c7, rfl, hs, hn, hb⟩; replace hD := hD.next hb; clear hs hn hb)
        replace hD := hD.next ((Up.refl wr).alloc (.cells #[.slice q7 P1.length c7, .string P2, .int .i64 P3] 24))
        generalize wr.heap.size = g18 at *
        generalize wr.alloc _ = w18 at *
        go_wp2_with ((with_reducible refine (CG.out _).mono ?_); rintro e wn ⟨rfl, hb⟩; replace hD := hD.next hb; clear hb)
        go_ret
        exact ⟨rfl, U0.out.trans hD.up⟩
    · go_wp2_with ((with_reducible refine (CG.out _).mono ?_); rintro e wn ⟨rfl, hb⟩; replace hD := hD.next hb; clear hb)
      go_ret
      exact ⟨rfl, U0.out.trans hD.up⟩
  · have hE : sE a p = 1 := by
      have : maySplit a p = false := by
        cases h : maySplit a p
        · rfl
        · simp only [maySplit, Bool.and_eq_true, decide_eq_true_eq] at h
          exact absurd ⟨h.1.1.1, h.1.1.2⟩ hgo
      rw [sE, this]; rfl
    have CS := Lib.hid (fun q c w h => lfpost2_open (leaf_Split a sa p q c w h))
    rw [hE] at CS
    have hlen : a.l.length ≤ 1000 := sa.len
    have key : a.right = false ∨ (a.right = true ∧ (a.l.length : Int) < 2) := by
      cases h : a.right
      · exact .inl rfl
      · exact .inr ⟨rfl, by have : ¬ 2 ≤ a.l.length := fun h2 => hgo ⟨h, h2⟩; omega⟩
    generalize sA a p = X at *
    generalize sB a p = Y at *
    clear hE sa hgo
    obtain ⟨XL, XH, XN⟩ := X
    obtain ⟨YL, YH, YN⟩ := Y
    have hl2 : (a.l.length : Int) ≤ 1000 := by omega
    rcases key with h | ⟨h, k1⟩
    all_goals
      rw [h] at C1
      clear h
      obtain ⟨A, HA, NA⟩ := a
      simp only [lfV] at *
      go_enter Try.func7, Try.ntmps7
      go_upto_region 1 with fail
      have hD := ((Hold.start W).madeRow (.slice qa L.length ca) [.string H, .int .i64 N] 24).madeRow (.string kk) [.string vv] 44
      simp only [World.size_alloc, List.nil_append] at hD
      generalize (W.alloc _).alloc _ = w0 at *
      replace hD : Hold W w0 [rowR W.heap.size (.slice qa L.length ca) [.string H, .int .i64 N], rowR (W.heap.size + 1) (.string kk) [.string vv]] := hD
      obtain ⟨t0, t1, t2, f0, f1, f2⟩ := RowAt.c3 (hD.get 0 rfl)
      go_upto_region 2 with ((with_reducible refine (CX.out _ (PX.out.up hD.up)).mono ?_); rintro e wn ⟨ga, ka, rfl, hs, hn, hb⟩; replace hD := hold_addSl hD hb hs hn; clear hs hn hb t0 t1 t2 f0 f1 f2; obtain ⟨t0, t1, t2, f0, f1, f2⟩ := RowAt.c3 (hD.get 0 rfl))
      clear t0 t1 t2 f0 f1 f2
      replace hD := ((hD.putRow 0 (g := W.heap.size) rfl 0 (.slice (some ⟨ga, 0, none⟩) A.length ka) (.slice (some ⟨ga, 0, none⟩) A.length ka) [.string H, .int .i64 N] (by simp) rfl).putRow 0 (g := W.heap.size) rfl 1 (.string HA) (.slice (some ⟨ga, 0, none⟩) A.length ka) [.string HA, .int .i64 N] (by simp) rfl).putRow 0 (g := W.heap.size) rfl 2 (.int .i64 NA) (.slice (some ⟨ga, 0, none⟩) A.length ka) [.string HA, .int .i64 NA] (by simp) rfl
      generalize ((wn.setCell ⟨W.heap.size, 0, none⟩ (.slice (some ⟨ga, 0, none⟩) A.length ka)).setCell ⟨W.heap.size, 1, none⟩ (.string HA)).setCell ⟨W.heap.size, 2, none⟩ (.int .i64 NA) = wb at *
      have U0 := Lib.hid hD.up
      have SA := Lib.hid (show SlAt wb (some ⟨ga, 0, none⟩) ka A from slR_sl (hD.get 2 rfl))
      have RA := Lib.hid (show RowAt wb W.heap.size [.slice (some ⟨ga, 0, none⟩) A.length ka, .string HA, .int .i64 NA] from hD.get 0 rfl)
      have RK := Lib.hid (show RowAt wb (W.heap.size + 1) [.string kk, .string vv] from hD.get 1 rfl)
      generalize W.heap.size = g0 at RA RK ⊢
      clear hD CX PX
      have hD := Hold.start wb
      obtain ⟨a0, a1, a2, -⟩ := RowAt.c3 (RA.out.up hD.up)
      go_upto_region 3 with fail
      go_upto_region 4 with ((with_reducible refine (CS.out _ _ _ (SA.out.up hD.up)).mono ?_); rintro e w2 ⟨q1, k1', q2, k2', rfl, hs1, hn1, hs2, hn2, hb⟩; replace hD := hD.next hb; clear hs1 hn1 hs2 hn2 hb)
      replace hD := hD.next (((Up.refl w2).alloc (.cells #[.slice q1 XL.length k1', .string XH, .int .i64 XN] 24)).alloc (.cells #[.slice q2 YL.length k2', .string YH, .int .i64 YN] 24))
      generalize w2.heap.size = g8 at *
      generalize (w2.alloc _).alloc _ = w3 at *
      clear a0 a1 a2; obtain ⟨a0, a1, a2, -⟩ := RowAt.c3 (RA.out.up hD.up)
      go_wp2_with (first | ((with_reducible refine (C1.out _ _ _ (SA.out.up hD.up)).mono ?_); rintro e wn ⟨rfl, hb⟩; replace hD := hD.next hb; clear hb; clear a0 a1 a2; obtain ⟨a0, a1, a2, -⟩ := RowAt.c3 (RA.out.up hD.up)) | ((with_reducible refine (CG.out _).mono ?_); rintro e wn ⟨rfl, hb⟩; replace hD := hD.next hb; clear hb; clear a0 a1 a2; obtain ⟨a0, a1, a2, -⟩ := RowAt.c3 (RA.out.up hD.up)))
      go_ret
      exact ⟨rfl, U0.out.trans hD.up⟩
end Go.Proofs.Ytdlcmbnbfghdmaa
