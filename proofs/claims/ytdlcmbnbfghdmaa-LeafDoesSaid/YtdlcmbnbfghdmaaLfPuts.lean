/- LeafPuts: the walk. -/
import Derived.Test.YtdlcmbnbfghdmaaLfFixed
import Derived.Test.YtdlcmbnbfghdmaaLfOpen
import Derived.Test.YtdlcmbnbfghdmaaLfRef4
import Derived.Test.YtdlcmbnbfghdmaaLfRef10
namespace Go.Proofs.Ytdlcmbnbfghdmaa
open Go.RowKit Bw
set_option linter.unusedVariables false
def LfIn (w : World) (x : LfD) (q : Option Addr) : Prop := PairsIn w q x.l ∧ x.high.size ≤ maxLen
theorem same_self (x : LfD) : x.same x = true := by simp [LfD.same]
theorem LfIn.pairs {w : World} {x : LfD} {q : Option Addr} (h : LfIn w x q) : PairsAt w q x.l := h.1.2.2
theorem LfIn.len {w : World} {x : LfD} {q : Option Addr} (h : LfIn w x q) : x.l.length ≤ maxLen := h.1.1
theorem LfIn.each {w : World} {x : LfD} {q : Option Addr} (h : LfIn w x q) : ∀ p ∈ x.l, p.1.size ≤ maxLen ∧ p.2.size ≤ maxLen := h.1.2.1
theorem decLD_sm (s : ByteArray) : (decLD s).Sm := by
  unfold decLD
  cases h : decLO s with
  | none => exact ⟨by simp [noneL], by show (0 : Nat) ≤ 1000; omega, by simp [noneL]⟩
  | some x =>
    unfold decLO at h
    split at h
    · cases h
    · obtain ⟨y, hy, h2⟩ := Option.bind_eq_some_iff.1 h
      split at h2
      · injection h2 with h2
        subst h2
        exact rLf_sm (x := y.1) (t := y.2) hy
      · cases h2
theorem decLD_len (s : ByteArray) : (decLD s).l.length ≤ 1000 := (decLD_sm s).len
theorem lfpost_open {p : Program} {f : Nat} {args : Array Value} {w : World} {x : LfD} {E : Int} (h : Calls p f args w (LfPost w x E)) : Calls p f args w fun e w' => ∃ q c, e = .returned (.tuple #[.agg #[.slice q x.l.length c, .string x.high, .int .i64 x.next], .int .i64 E]) ∧ (slR q c x.l).holds w' ∧ NewQ w q ∧ Below w.heap.size w w' := h
theorem lfpost2_open {p : Program} {f : Nat} {args : Array Value} {w : World} {x y : LfD} {E : Int} (h : Calls p f args w (LfPost2 w x y E)) : Calls p f args w fun e w' => ∃ q c q2 c2, e = .returned (.tuple #[.agg #[.slice q x.l.length c, .string x.high, .int .i64 x.next], .agg #[.slice q2 y.l.length c2, .string y.high, .int .i64 y.next], .int .i64 E]) ∧ (slR q c x.l).holds w' ∧ NewQ w q ∧ (slR q2 c2 y.l).holds w' ∧ NewQ w q2 ∧ Below w.heap.size w w' := h
set_option maxHeartbeats 4000000 in
set_option maxRecDepth 100000 in
theorem puts_law (x y : LfD) (qa qb : Option Addr) (ca cb : Nat) (s : ByteArray) (W : World) (hX : LfIn W x qa) (hY : LfIn W y qb) (hs : s.size ≤ maxLen) :
    Calls Try.prog 3 #[lfV x qa ca, lfV y qb cb, .string s] W fun e w' => e = .returned (.bool true) ∧ Below W.heap.size W w' := by
  unfold maxLen at hs
  have CX := Lib.hid (fun w hP => leaf_Cut x qa ca w hP hX.len hX.each hX.2)
  have CY := Lib.hid (fun w hP => leaf_Cut y qb cb w hP hY.len hY.each hY.2)
  have PX := Lib.hid hX.pairs
  have PY := Lib.hid hY.pairs
  clear hX hY
  have sa := lcutD_sm x
  have sb := lcutD_sm y
  generalize lcutD x = a at *
  generalize lcutD y = b at *
  obtain ⟨S, hS⟩ : ∃ S, S = s.extract 0 (min (s.size : Int) 300).toNat := ⟨_, rfl⟩
  have hS3 : S.size ≤ 1000 := by rw [hS, ByteArray.size_extract]; omega
  have C1 := Lib.hid (fun q c w h => leaf_Right a sa q c w h)
  have C2 := Lib.hid (fun q c w h => ref10_Right a sa q c w h)
  have C3 := Lib.hid (fun q c w h => leaf_Size a sa q c w h)
  have C4 := Lib.hid (fun q c w h => ref10_Size a sa q c w h)
  have C5 := Lib.hid (fun q c w h => leaf_Encode a sa q c w h)
  have C6 := Lib.hid (fun q c w h => ref10_Encode a sa q c w h)
  have C7 := Lib.hid (fun q c q2 c2 w h h2 => leaf_Same a b q q2 c c2 w h h2 sa.len sb.len)
  have C8 := Lib.hid (fun q c q2 c2 w h h2 => ref10_Same a b q q2 c c2 w h h2 sa.len sb.len)
  have hDL : (decLD S).l.length ≤ 1000 := decLD_len S
  have C9 := Lib.hid (fun q c q2 c2 w h h2 => ref10_Same (decLD S) (decLD S) q q2 c c2 w h h2 hDL hDL)
  rw [same_self] at C9
  have CD := Lib.hid (fun w => lfpost_open (leaf_Decode S hS3 w))
  have CE := Lib.hid (fun w => lfpost_open (ref10_Decode S (by omega) w))
  have CF := Lib.hid (fun (L : List PairD) H N q c w => law10_ref ⟨L, H, N⟩ q c w)
  have CG := Lib.hid (fun w => law10_fixed w)
  generalize a.right = RA at *
  generalize a.size = ZA at *
  generalize a.enc = EA at *
  generalize a.same b = SAB at *
  generalize decLE S = DE at *
  generalize decLD S = D at *
  clear hDL sa sb
  obtain ⟨L, H, N⟩ := x
  obtain ⟨L2, H2, N2⟩ := y
  obtain ⟨A, HA, NA⟩ := a
  obtain ⟨B, HB, NB⟩ := b
  obtain ⟨DL, DH, DN⟩ := D
  simp only [lfV] at *
  go_enter Try.func3, Try.ntmps3
  go_upto_region 1 with fail
  have hD := ((Hold.start W).madeRow (.slice qa L.length ca) [.string H, .int .i64 N] 24).madeRow (.slice qb L2.length cb) [.string H2, .int .i64 N2] 24
  simp only [World.size_alloc, List.nil_append] at hD
  generalize (W.alloc _).alloc _ = w0 at *
  replace hD : Hold W w0 [rowR W.heap.size (.slice qa L.length ca) [.string H, .int .i64 N], rowR (W.heap.size + 1) (.slice qb L2.length cb) [.string H2, .int .i64 N2]] := hD
  obtain ⟨t0, t1, t2, f0, f1, f2⟩ := RowAt.c3 (hD.get 0 rfl)
  go_upto_region 2 with ((with_reducible refine (CX.out _ (PX.out.up hD.up)).mono ?_); rintro e wn ⟨ga, ka, rfl, hs, hn, hb⟩; replace hD := hold_addSl hD hb hs hn; clear hs hn hb t0 t1 t2 f0 f1 f2; obtain ⟨t0, t1, t2, f0, f1, f2⟩ := RowAt.c3 (hD.get 0 rfl))
  clear t0 t1 t2 f0 f1 f2
  replace hD := ((hD.putRow 0 (g := W.heap.size) rfl 0 (.slice (some ⟨ga, 0, none⟩) A.length ka) (.slice (some ⟨ga, 0, none⟩) A.length ka) [.string H, .int .i64 N] (by simp) rfl).putRow 0 (g := W.heap.size) rfl 1 (.string HA) (.slice (some ⟨ga, 0, none⟩) A.length ka) [.string HA, .int .i64 N] (by simp) rfl).putRow 0 (g := W.heap.size) rfl 2 (.int .i64 NA) (.slice (some ⟨ga, 0, none⟩) A.length ka) [.string HA, .int .i64 NA] (by simp) rfl
  generalize ((wn.setCell ⟨W.heap.size, 0, none⟩ (.slice (some ⟨ga, 0, none⟩) A.length ka)).setCell ⟨W.heap.size, 1, none⟩ (.string HA)).setCell ⟨W.heap.size, 2, none⟩ (.int .i64 NA) = w1 at *
  obtain ⟨t0, t1, t2, f0, f1, f2⟩ := RowAt.c3 (hD.get 1 rfl)
  go_upto_region 3 with ((with_reducible refine (CY.out _ (PY.out.up hD.up)).mono ?_); rintro e wn ⟨gb, kb, rfl, hs, hn, hb⟩; replace hD := hold_addSl hD hb hs hn; clear hs hn hb t0 t1 t2 f0 f1 f2; obtain ⟨t0, t1, t2, f0, f1, f2⟩ := RowAt.c3 (hD.get 1 rfl))
  clear t0 t1 t2 f0 f1 f2
  replace hD := ((hD.putRow 1 (g := W.heap.size + 1) rfl 0 (.slice (some ⟨gb, 0, none⟩) B.length kb) (.slice (some ⟨gb, 0, none⟩) B.length kb) [.string H2, .int .i64 N2] (by simp) rfl).putRow 1 (g := W.heap.size + 1) rfl 1 (.string HB) (.slice (some ⟨gb, 0, none⟩) B.length kb) [.string HB, .int .i64 N2] (by simp) rfl).putRow 1 (g := W.heap.size + 1) rfl 2 (.int .i64 NB) (.slice (some ⟨gb, 0, none⟩) B.length kb) [.string HB, .int .i64 NB] (by simp) rfl
  generalize ((wn.setCell ⟨W.heap.size + 1, 0, none⟩ (.slice (some ⟨gb, 0, none⟩) B.length kb)).setCell ⟨W.heap.size + 1, 1, none⟩ (.string HB)).setCell ⟨W.heap.size + 1, 2, none⟩ (.int .i64 NB) = wb at *
  have U0 := Lib.hid hD.up
  have SA := Lib.hid (show SlAt wb (some ⟨ga, 0, none⟩) ka A from slR_sl (hD.get 2 rfl))
  have SB := Lib.hid (show SlAt wb (some ⟨gb, 0, none⟩) kb B from slR_sl (hD.get 3 rfl))
  have RA := Lib.hid (show RowAt wb W.heap.size [.slice (some ⟨ga, 0, none⟩) A.length ka, .string HA, .int .i64 NA] from hD.get 0 rfl)
  have RB := Lib.hid (show RowAt wb (W.heap.size + 1) [.slice (some ⟨gb, 0, none⟩) B.length kb, .string HB, .int .i64 NB] from hD.get 1 rfl)
  generalize W.heap.size = g0 at RA RB ⊢
  clear hD CX CY PX PY
  have hD := Hold.start wb
  go_upto_region 4 with fail
  rw [← hS]
  clear hS hs
  go_upto_region 5 with ((with_reducible refine (CD.out _).mono ?_); rintro e wn ⟨qd, kd, rfl, hs, hn, hb⟩; replace hD := hold_addSl hD hb hs hn; clear hs hn hb)
  replace hD := hD.madeRow (.slice qd DL.length kd) [.string DH, .int .i64 DN] 24
  simp only [List.nil_append, List.cons_append] at hD
  generalize wn.heap.size = g7 at *
  generalize wn.alloc _ = w7 at *
  go_upto_region 6 with ((with_reducible refine (CE.out _).mono ?_); rintro e wn ⟨qe, ke, rfl, hs, hn, hb⟩; replace hD := hold_addSl hD hb hs hn; clear hs hn hb)
  replace hD := hD.madeRow (.slice qe DL.length ke) [.string DH, .int .i64 DN] 29
  simp only [List.nil_append, List.cons_append] at hD
  generalize wn.heap.size = g9 at *
  generalize wn.alloc _ = w9 at *
  replace hD : Hold wb w9 [slR qd kd DL, rowR g7 (.slice qd DL.length kd) [.string DH, .int .i64 DN], slR qe ke DL, rowR g9 (.slice qe DL.length ke) [.string DH, .int .i64 DN]] := hD
  have SA9 := Lib.hid (SA.out.up hD.up)
  have SB9 := Lib.hid (SB.out.up hD.up)
  have SD9 := Lib.hid (show SlAt w9 qd kd DL from slR_sl (hD.get 0 rfl))
  have SE9 := Lib.hid (show SlAt w9 qe ke DL from slR_sl (hD.get 2 rfl))
  obtain ⟨a0, a1, a2, -⟩ := RowAt.c3 (RA.out.up hD.up)
  obtain ⟨b0, b1, b2, -⟩ := RowAt.c3 (RB.out.up hD.up)
  obtain ⟨d0, d1, d2, -⟩ := RowAt.c3 (hD.get 1 rfl)
  obtain ⟨e0, e1, e2, -⟩ := RowAt.c3 (hD.get 3 rfl)
  have la0 := Later.cell_of a0; have la1 := Later.cell_of a1; have la2 := Later.cell_of a2
  have lb0 := Later.cell_of b0; have lb1 := Later.cell_of b1; have lb2 := Later.cell_of b2
  have ld0 := Later.cell_of d0; have ld1 := Later.cell_of d1; have ld2 := Later.cell_of d2
  have le0 := Later.cell_of e0; have le1 := Later.cell_of e1; have le2 := Later.cell_of e2
  have hne := later_ne w9
  clear a0 a1 a2 b0 b1 b2 d0 d1 d2 e0 e1 e2
  refine wp_region_later (by kernel_rfl) (by kernel_rfl) ?_
  repeat (go_big_quiet_step (first
    | (go_at_call 13; rename_i ul; with_reducible exact Calls.later (C1.out _ _ _ (SA9.out.up ul.up).pairs))
    | (go_at_call 14; rename_i ul; with_reducible exact Calls.later (C2.out _ _ _ (SA9.out.up ul.up).pairs))
    | (go_at_call 16; rename_i ul; with_reducible exact Calls.later (C3.out _ _ _ (SA9.out.up ul.up).pairs))
    | (go_at_call 17; rename_i ul; with_reducible exact Calls.later (C4.out _ _ _ (SA9.out.up ul.up).pairs))
    | (go_at_call 18; rename_i ul; with_reducible exact Calls.later (C5.out _ _ _ (SA9.out.up ul.up).pairs))
    | (go_at_call 19; rename_i ul; with_reducible exact Calls.later (C6.out _ _ _ (SA9.out.up ul.up).pairs))
    | (go_at_call 20; rename_i ul; with_reducible exact Calls.later (C7.out _ _ _ _ _ (SA9.out.up ul.up).pairs (SB9.out.up ul.up).pairs))
    | (go_at_call 21; rename_i ul; with_reducible exact Calls.later (C8.out _ _ _ _ _ (SA9.out.up ul.up).pairs (SB9.out.up ul.up).pairs))
    | (go_at_call 21; rename_i ul; with_reducible exact Calls.later (C9.out _ _ _ _ _ (SD9.out.up ul.up).pairs (SE9.out.up ul.up).pairs))
    | (go_at_call 15; with_reducible exact Calls.later (CF.out _ _ _ _ _ _))
    | (go_at_call 22; with_reducible exact Calls.later (CG.out _))))
  refine wpQuiet_nil ?_
  intro w10 hw10
  obtain ⟨u10, rfl⟩ := hw10
  replace hD := hD.next u10.up
  go_wp2_with fail
  go_ret
  exact ⟨rfl, U0.out.trans hD.up⟩
theorem puts_row (x : LfD) (q : Option Addr) (c : Nat) (W : World) (hx : LfIn W x q) (y : LfD) (q2 : Option Addr) (c2 : Nat) (W2 : World) (he : W2 = W) (hy : LfIn W2 y q2) (s : ByteArray) (hs : s.size ≤ maxLen) :
    Calls Try.prog 3 #[lfV x q c, lfV y q2 c2, .string s] W fun e w' => e = .returned (.bool true) ∧ Below W.heap.size W w' := by
  subst he
  exact puts_law x y q q2 c c2 s W2 hx hy hs
end Go.Proofs.Ytdlcmbnbfghdmaa
