/- LeafDoes: the walk. -/
import Derived.Test.YtdlcmbnbfghdmaaLfPuts
import Derived.Test.YtdlcmbnbfghdmaaLfRef6
import Derived.Test.YtdlcmbnbfghdmaaLfRef7
import Derived.Test.YtdlcmbnbfghdmaaLfRef8
import Derived.Test.YtdlcmbnbfghdmaaAllR
namespace Bw
set_option linter.unusedVariables false
open Go Go.RowKit
/-- All blocks below B stay, from a world that has them. -/
def RQ (B : Nat) (a b : World) : Prop := B ≤ a.heap.size → Below B a b
theorem rok_upQ : ROk Up := ⟨Up.refl, Up.trans⟩
theorem rok_rq (B : Nat) : ROk (RQ B) := ⟨fun w _ => Below.refl B w, fun {a b c} h1 h2 hB => (h1 hB).trans (h2 (Nat.le_trans hB (h1 hB).size))⟩
theorem up_rq (B : Nat) : TRok Up (RQ B) := ⟨rok_upQ, rok_rq B, fun {a b} h hB => Below.mono h hB⟩
theorem laterQ {B : Nat} {w w1 : World} {p : Addr} {v : Value} (h : w.cell? p = some v) (hp : p.block < B) (hB : B ≤ w.heap.size) (h1 : RQ B w w1) : ∀ u : LaterR Up w1, u.world.cell? p = some v := fun u => by
  have h2 : w1.cell? p = some v := (Below.cell (h1 hB) hp).trans h
  exact (Below.cell (p := p) u.up (World.block_lt_of_cell? w1 _ h2)).trans h2
theorem Calls.laterQ {P : Program} {f : FuncId} {args : Array Value} {W : World} {u : LaterR Up W} {v : Value} (h : Calls P f args u.world fun e w' => e = .returned v ∧ Below u.world.heap.size u.world w') :
    Calls P f args u.world fun e w' => e = .returned v ∧ ∃ u' : LaterR Up W, w' = u'.world :=
  h.mono fun _ w' ⟨he, hb⟩ => ⟨he, ⟨w', u.up.trans hb⟩, rfl⟩
end Bw
namespace Bw
theorem pD_len (x : LfD) (k v : ByteArray) : (pD x k v).l.length ≤ x.l.length + 1 := by
  unfold pD
  split
  · simp only [putL, List.length_append, List.length_take, List.length_cons, List.length_drop]
    have := findI_le x.l k
    split <;> omega
  · simp [noneL]
theorem dD_len (x : LfD) (k : ByteArray) : (dD x k).l.length ≤ x.l.length := by
  unfold dD
  split
  · simp only [delL, List.length_append, List.length_take, List.length_drop]
    have := findI_le x.l k
    omega
  · simp [noneL]
theorem sA_len (x : LfD) (p : Int) : (sA x p).l.length ≤ x.l.length := by
  unfold sA
  split
  · simp only [List.length_take]; omega
  · simp [noneL]
theorem sB_len (x : LfD) (p : Int) : (sB x p).l.length ≤ x.l.length := by
  unfold sB
  split
  · simp only [List.length_drop]; omega
  · simp [noneL]
theorem jD_len (x y : LfD) : (jD x y).l.length ≤ x.l.length + y.l.length := by
  unfold jD
  split
  · simp only [List.length_append]; omega
  · simp [noneL]
theorem lcutD_len (x : LfD) : (lcutD x).l.length ≤ 60 := by simp only [lcutD, lcutL, List.length_map, List.length_take]; omega
end Bw
namespace Go.Proofs.Ytdlcmbnbfghdmaa
open Go.RowKit Bw
set_option linter.unusedVariables false
set_option maxHeartbeats 4000000 in
set_option maxRecDepth 100000 in
theorem does_law (x y : LfD) (qa qb : Option Addr) (ca cb : Nat) (W : World) (hX : LfIn W x qa) (hY : LfIn W y qb) (kk vv : ByteArray) (hkk : kk.size ≤ maxLen) (hvv : vv.size ≤ maxLen) :
    Calls Try.prog 4 #[lfV x qa ca, lfV y qb cb, .agg #[.string kk, .string vv]] W fun e w' => e = .returned (.bool true) ∧ Below W.heap.size W w' := by
  unfold maxLen at hkk hvv
  have CX := Lib.hid (fun w hP => leaf_Cut x qa ca w hP hX.len hX.each hX.2)
  have CY := Lib.hid (fun w hP => leaf_Cut y qb cb w hP hY.len hY.each hY.2)
  have PX := Lib.hid hX.pairs
  have PY := Lib.hid hY.pairs
  clear hX hY
  have sa := lcutD_sm x
  have sb := lcutD_sm y
  have la := lcutD_len x
  have lb := lcutD_len y
  generalize lcutD x = a at *
  generalize lcutD y = b at *
  obtain ⟨k, hk⟩ : ∃ k, k = kk.extract 0 (min (kk.size : Int) 40).toNat := ⟨_, rfl⟩
  obtain ⟨v, hv⟩ : ∃ v, v = vv.extract 0 (min (vv.size : Int) 60).toNat := ⟨_, rfl⟩
  have hk3 : k.size ≤ 1000 := by rw [hk, ByteArray.size_extract]; omega
  have hv3 : v.size ≤ 1000 := by rw [hv, ByteArray.size_extract]; omega
  have CF := Lib.hid (fun (L : List PairD) H N q c w => law10_ref ⟨L, H, N⟩ q c w)
  have CG := Lib.hid (fun w => law10_fixed w)
  have C1 := Lib.hid (fun (g c : Nat) w (h : SlAt w (some ⟨g, 0, none⟩) c a.l) => leaf_Get a sa (some ⟨g, 0, none⟩) c k w h.1)
  have C2 := Lib.hid (fun (g c : Nat) w (h : SlAt w (some ⟨g, 0, none⟩) c a.l) => ref10_Get ref10_Right a sa (some ⟨g, 0, none⟩) c k hk3 w h.1)
  have C3 := Lib.hid (fun (g c : Nat) w (h : SlAt w (some ⟨g, 0, none⟩) c a.l) => lfpost_open (leaf_Put a sa k v hk3 hv3 (some ⟨g, 0, none⟩) c w h))
  have C4 := Lib.hid (fun (g c : Nat) w (h : SlAt w (some ⟨g, 0, none⟩) c a.l) => lfpost_open (ref10_Put a sa k v hk3 hv3 g 0 c none w h))
  have C5 := Lib.hid (fun (g c : Nat) w (h : SlAt w (some ⟨g, 0, none⟩) c a.l) => lfpost_open (leaf_Del a sa k (some ⟨g, 0, none⟩) c w h))
  have C6 := Lib.hid (fun (g c : Nat) w (h : SlAt w (some ⟨g, 0, none⟩) c a.l) => lfpost_open (ref10_Del a sa k hk3 g 0 c none w h))
  have C7 := Lib.hid (fun (g c : Nat) w (h : SlAt w (some ⟨g, 0, none⟩) c a.l) => lfpost2_open (leaf_Split a sa b.next (some ⟨g, 0, none⟩) c w h))
  have C8 := Lib.hid (fun (g c : Nat) w (h : SlAt w (some ⟨g, 0, none⟩) c a.l) => lfpost2_open (ref10_Split a sa b.next g 0 c none w h))
  have C9 := Lib.hid (fun (g g2 c c2 : Nat) w (h : SlAt w (some ⟨g, 0, none⟩) c a.l) (h2 : SlAt w (some ⟨g2, 0, none⟩) c2 b.l) => lfpost_open (leaf_Join a b sa sb _ _ c c2 w h h2))
  have C0 := Lib.hid (fun (g g2 c c2 : Nat) w (h : SlAt w (some ⟨g, 0, none⟩) c a.l) (h2 : SlAt w (some ⟨g2, 0, none⟩) c2 b.l) => lfpost_open (ref10_Join a b sa sb _ _ c c2 w h h2))
  have CS := Lib.hid (show ∀ (L : List PairD) H N, L.length ≤ 1000 → ∀ q c q2 c2 w, PairsAt w q L → PairsAt w q2 L → Calls Try.prog 21 #[.agg #[.slice q L.length c, .string H, .int .i64 N], .agg #[.slice q2 L.length c2, .string H, .int .i64 N]] w fun e w' => e = .returned (.bool true) ∧ Below w.heap.size w w' from fun L H N hl q c q2 c2 w h h2 => by
    have := ref10_Same ⟨L, H, N⟩ ⟨L, H, N⟩ q q2 c c2 w h h2 hl hl
    rw [same_self] at this
    exact this)
  have n1 := Lib.hid (show (pD a k v).l.length ≤ 1000 by have := pD_len a k v; omega)
  have n2 := Lib.hid (show (dD a k).l.length ≤ 1000 by have := dD_len a k; omega)
  have n3 := Lib.hid (show (sA a b.next).l.length ≤ 1000 by have := sA_len a b.next; omega)
  have n4 := Lib.hid (show (sB a b.next).l.length ≤ 1000 by have := sB_len a b.next; omega)
  have n5 := Lib.hid (show (jD a b).l.length ≤ 1000 by have := jD_len a b; omega)
  clear sa sb la lb hk3 hv3
  generalize pD a k v = D1 at *
  generalize pE a k v = E1 at *
  generalize dD a k = D2 at *
  generalize dE a k = E2 at *
  generalize sA a b.next = D3 at *
  generalize sB a b.next = D4 at *
  generalize sE a b.next = E3 at *
  generalize jD a b = D5 at *
  generalize jE a b = E5 at *
  generalize getS a k = GS at *
  generalize getE a k = GE at *
  obtain ⟨L, H, N⟩ := x
  obtain ⟨L2, H2, N2⟩ := y
  obtain ⟨A, HA, NA⟩ := a
  obtain ⟨B, HB, NB⟩ := b
  obtain ⟨L1, H1, M1⟩ := D1
  obtain ⟨L3, H3, M3⟩ := D2
  obtain ⟨L4, H4, M4⟩ := D3
  obtain ⟨L5, H5, M5⟩ := D4
  obtain ⟨L6, H6, M6⟩ := D5
  simp only [lfV] at *
  go_enter Try.func4, Try.ntmps4
  go_upto_region 1 with fail
  have hD := (((Hold.start W).madeRow (.slice qa L.length ca) [.string H, .int .i64 N] 24).madeRow (.slice qb L2.length cb) [.string H2, .int .i64 N2] 24).madeRow (.string kk) [.string vv] 44
  simp only [World.size_alloc, List.nil_append] at hD
  generalize ((W.alloc _).alloc _).alloc _ = w0 at *
  replace hD : Hold W w0 [rowR W.heap.size (.slice qa L.length ca) [.string H, .int .i64 N], rowR (W.heap.size + 1) (.slice qb L2.length cb) [.string H2, .int .i64 N2], rowR (W.heap.size + 1 + 1) (.string kk) [.string vv]] := hD
  obtain ⟨t0, t1, t2, f0, f1, f2⟩ := RowAt.c3 (hD.get 0 rfl)
  go_upto_region 2 with ((with_reducible refine (CX.out _ (PX.out.up hD.up)).mono ?_); rintro e wn ⟨ga, ka, rfl, hs, hn, hb⟩; replace hD := hold_addSl hD hb hs hn; clear hs hn hb t0 t1 t2 f0 f1 f2; obtain ⟨t0, t1, t2, f0, f1, f2⟩ := RowAt.c3 (hD.get 0 rfl))
  clear t0 t1 t2 f0 f1 f2
  replace hD := ((hD.putRow 0 (g := W.heap.size) rfl 0 (.slice (some ⟨ga, 0, none⟩) A.length ka) (.slice (some ⟨ga, 0, none⟩) A.length ka) [.string H, .int .i64 N] (by simp) rfl).putRow 0 (g := W.heap.size) rfl 1 (.string HA) (.slice (some ⟨ga, 0, none⟩) A.length ka) [.string HA, .int .i64 N] (by simp) rfl).putRow 0 (g := W.heap.size) rfl 2 (.int .i64 NA) (.slice (some ⟨ga, 0, none⟩) A.length ka) [.string HA, .int .i64 NA] (by simp) rfl
  generalize ((wn.setCell ⟨W.heap.size, 0, none⟩ (.slice (some ⟨ga, 0, none⟩) A.length ka)).setCell ⟨W.heap.size, 1, none⟩ (.string HA)).setCell ⟨W.heap.size, 2, none⟩ (.int .i64 NA) = w1 at *
  obtain ⟨t0, t1, t2, f0, f1, f2⟩ := RowAt.c3 (hD.get 1 rfl)
  go_upto_region 3 with ((with_reducible refine (CY.out _ (PY.out.up hD.up)).mono ?_); rintro e wn ⟨gb, kb, rfl, hs, hn, hb⟩; replace hD := hold_addSl hD hb hs hn; clear hs hn hb t0 t1 t2 f0 f1 f2; obtain ⟨t0, t1, t2, f0, f1, f2⟩ := RowAt.c3 (hD.get 1 rfl))
  clear t0 t1 t2 f0 f1 f2
  replace hD := ((hD.putRow 1 (g := W.heap.size + 1) rfl 0 (.slice (some ⟨gb, 0, none⟩) B.length kb) (.slice (some ⟨gb, 0, none⟩) B.length kb) [.string H2, .int .i64 N2] (by simp) rfl).putRow 1 (g := W.heap.size + 1) rfl 1 (.string HB) (.slice (some ⟨gb, 0, none⟩) B.length kb) [.string HB, .int .i64 N2] (by simp) rfl).putRow 1 (g := W.heap.size + 1) rfl 2 (.int .i64 NB) (.slice (some ⟨gb, 0, none⟩) B.length kb) [.string HB, .int .i64 NB] (by simp) rfl
  generalize ((wn.setCell ⟨W.heap.size + 1, 0, none⟩ (.slice (some ⟨gb, 0, none⟩) B.length kb)).setCell ⟨W.heap.size + 1, 1, none⟩ (.string HB)).setCell ⟨W.heap.size + 1, 2, none⟩ (.int .i64 NB) = w2 at *
  refine wp_region_two Eq (AllS NoS) (allS_ok NoS) (by kernel_rfl) (by kernel_rfl) (by kernel_rfl) ?_
  replace hD := hD.next ((Below.refl _ w2).drew)
  generalize w2.drew = wb at *
  obtain ⟨t0, t1, -⟩ := RowAt.c2 (hD.get 2 rfl)
  refine wpAnyTS_quiet 0 16 0 182 (by rfl) (by kernel_rfl) (fun _ _ _ _ _ h => h) (by kernel_rfl) (by kernel_rfl) ?_
  apply Exists.intro
  refine ⟨fun w2 hw2 => ?_, ?_⟩
  · have hne := laterR_ne (R := Eq) eqOK w2
    obtain ⟨l0, l1⟩ := And.intro (laterS t0 id hw2) (laterS t1 id hw2)
    simp only [List.drop_zero, List.take_succ_cons, List.take_zero]
    repeat (go_big_quiet_step (fail))
    exact wpQuiet_nil rfl
  refine wpAnyTS_done (by kernel_rfl) ?_
  rintro w2' rfl
  clear t0 t1
  rw [← hk, ← hv]
  clear hk hv
  have U0 := Lib.hid hD.up
  have SA := Lib.hid (show SlAt wb (some ⟨ga, 0, none⟩) ka A from slR_sl (hD.get 3 rfl))
  have SB := Lib.hid (show SlAt wb (some ⟨gb, 0, none⟩) kb B from slR_sl (hD.get 4 rfl))
  have RA := Lib.hid (show RowAt wb W.heap.size [.slice (some ⟨ga, 0, none⟩) A.length ka, .string HA, .int .i64 NA] from hD.get 0 rfl)
  have RB := Lib.hid (show RowAt wb (W.heap.size + 1) [.slice (some ⟨gb, 0, none⟩) B.length kb, .string HB, .int .i64 NB] from hD.get 1 rfl)
  generalize W.heap.size = g0 at RA RB ⊢
  clear hD CX CY PX PY
  have hD := Hold.start wb
  obtain ⟨a0, a1, a2, -⟩ := RowAt.c3 (RA.out.up hD.up)
  go_upto_region 5 with ((with_reducible refine (C1.out _ _ _ (SA.out.up hD.up)).mono ?_); rintro e wn ⟨rfl, hb⟩; replace hD := hD.next hb; clear hb; clear a0 a1 a2; obtain ⟨a0, a1, a2, -⟩ := RowAt.c3 (RA.out.up hD.up))
  go_upto_region 6 with (first | ((with_reducible refine (C2.out _ _ _ (SA.out.up hD.up)).mono ?_); rintro e wn ⟨rfl, hb⟩; replace hD := hD.next hb; clear hb; clear a0 a1 a2; obtain ⟨a0, a1, a2, -⟩ := RowAt.c3 (RA.out.up hD.up)) | ((with_reducible refine (CF.out _ _ _ _ _ _).mono ?_); rintro e wn ⟨rfl, hb⟩; replace hD := hD.next hb; clear hb; clear a0 a1 a2; obtain ⟨a0, a1, a2, -⟩ := RowAt.c3 (RA.out.up hD.up)))
  go_upto_region 7 with ((with_reducible refine (C3.out _ _ _ (SA.out.up hD.up)).mono ?_); rintro e wp ⟨q1, k1, rfl, hs, hn, hb⟩; replace hD := hold_addSl hD hb hs hn; clear hs hn hb)
  replace hD := hD.madeRow (.slice q1 L1.length k1) [.string H1, .int .i64 M1] 24
  simp only [List.nil_append, List.cons_append] at hD
  generalize wp.heap.size = g13 at *
  generalize wp.alloc _ = w13 at *
  clear a0 a1 a2; obtain ⟨a0, a1, a2, -⟩ := RowAt.c3 (RA.out.up hD.up)
  go_upto_region 8 with (first | ((with_reducible refine (C4.out _ _ _ (SA.out.up hD.up)).mono ?_); rintro e wp ⟨q2, k2, rfl, hs, hn, hb⟩; replace hD := hold_addSl hD hb hs hn; clear hs hn hb) | ((with_reducible refine (CF.out _ _ _ _ _ _).mono ?_); rintro e wn ⟨rfl, hb⟩; replace hD := hD.next hb; clear hb; clear a0 a1 a2; obtain ⟨a0, a1, a2, -⟩ := RowAt.c3 (RA.out.up hD.up)))
  replace hD := hD.madeRow (.slice q2 L1.length k2) [.string H1, .int .i64 M1] 29
  simp only [List.nil_append, List.cons_append] at hD
  generalize wp.heap.size = g15 at *
  generalize wp.alloc _ = w15 at *
  clear a0 a1 a2; obtain ⟨a0, a1, a2, -⟩ := RowAt.c3 (RA.out.up hD.up)
  go_upto_region 9 with ((with_reducible refine (C5.out _ _ _ (SA.out.up hD.up)).mono ?_); rintro e wp ⟨q3, k3, rfl, hs, hn, hb⟩; replace hD := hold_addSl hD hb hs hn; clear hs hn hb)
  replace hD := hD.madeRow (.slice q3 L3.length k3) [.string H3, .int .i64 M3] 24
  simp only [List.nil_append, List.cons_append] at hD
  generalize wp.heap.size = g17 at *
  generalize wp.alloc _ = w17 at *
  clear a0 a1 a2; obtain ⟨a0, a1, a2, -⟩ := RowAt.c3 (RA.out.up hD.up)
  go_upto_region 10 with (first | ((with_reducible refine (C6.out _ _ _ (SA.out.up hD.up)).mono ?_); rintro e wp ⟨q4, k4, rfl, hs, hn, hb⟩; replace hD := hold_addSl hD hb hs hn; clear hs hn hb) | ((with_reducible refine (CF.out _ _ _ _ _ _).mono ?_); rintro e wn ⟨rfl, hb⟩; replace hD := hD.next hb; clear hb; clear a0 a1 a2; obtain ⟨a0, a1, a2, -⟩ := RowAt.c3 (RA.out.up hD.up)))
  replace hD := hD.madeRow (.slice q4 L3.length k4) [.string H3, .int .i64 M3] 29
  simp only [List.nil_append, List.cons_append] at hD
  generalize wp.heap.size = g19 at *
  generalize wp.alloc _ = w19 at *
  clear a0 a1 a2; obtain ⟨a0, a1, a2, -⟩ := RowAt.c3 (RA.out.up hD.up)
  obtain ⟨b0, b1, b2, -⟩ := RowAt.c3 (RB.out.up hD.up)
  go_upto_region 11 with ((with_reducible refine (C7.out _ _ _ (SA.out.up hD.up)).mono ?_); rintro e wB ⟨q5, k5, q6, k6, rfl, hs1, hn1, hs2, hn2, hb⟩; replace hD := hD.next hb; clear a0 a1 a2 b0 b1 b2)
  have T1 := Lib.hid (show SlAt wB q1 k1 L1 from slR_sl (hD.get 0 rfl))
  have T2 := Lib.hid (show SlAt wB q2 k2 L1 from slR_sl (hD.get 2 rfl))
  have T3 := Lib.hid (show SlAt wB q3 k3 L3 from slR_sl (hD.get 4 rfl))
  have T4 := Lib.hid (show SlAt wB q4 k4 L3 from slR_sl (hD.get 6 rfl))
  have T5 := Lib.hid (slR_sl hs1)
  have T6 := Lib.hid (slR_sl hs2)
  have R1 := Lib.hid (show RowAt wB g13 [.slice q1 L1.length k1, .string H1, .int .i64 M1] from hD.get 1 rfl)
  have R2 := Lib.hid (show RowAt wB g15 [.slice q2 L1.length k2, .string H1, .int .i64 M1] from hD.get 3 rfl)
  have R3 := Lib.hid (show RowAt wB g17 [.slice q3 L3.length k3, .string H3, .int .i64 M3] from hD.get 5 rfl)
  have R4 := Lib.hid (show RowAt wB g19 [.slice q4 L3.length k4, .string H3, .int .i64 M3] from hD.get 7 rfl)
  have U1 := Lib.hid (U0.out.trans hD.up)
  have SA1 := Lib.hid (SA.out.up hD.up)
  have SB1 := Lib.hid (SB.out.up hD.up)
  have RA1 := Lib.hid (RA.out.up hD.up)
  have RB1 := Lib.hid (RB.out.up hD.up)
  clear U0 SA SB RA RB hs1 hs2 hn1 hn2 hb hD C1 C2 C3 C4 C5 C6 C7
  have U0 := U1
  have SA := SA1
  have SB := SB1
  have RA := RA1
  have RB := RB1
  clear U1 SA1 SB1 RA1 RB1
  have hD := ((Hold.start wB).madeRow (.slice q5 L4.length k5) [.string H4, .int .i64 M4] 24).madeRow (.slice q6 L5.length k6) [.string H5, .int .i64 M5] 24
  simp only [World.size_alloc, List.nil_append, List.cons_append] at hD
  generalize wB.heap.size = g21 at *
  generalize (wB.alloc _).alloc _ = w21 at *
  replace hD : Hold wB w21 [rowR g21 (.slice q5 L4.length k5) [.string H4, .int .i64 M4], rowR (g21 + 1) (.slice q6 L5.length k6) [.string H5, .int .i64 M5]] := hD
  have T5' := Lib.hid (T5.out.up hD.up)
  obtain ⟨a0, a1, a2, -⟩ := RowAt.c3 (RA.out.up hD.up)
  obtain ⟨b0, b1, b2, -⟩ := RowAt.c3 (RB.out.up hD.up)
  go_cut [24, 25, 26] (fun v24 v25 v26 wx => ∃ (g24 g25 : Nat) (q7 q8 : Option Addr) (k7 k8 : Nat), v24 = .pointer (some ⟨g24, 0, none⟩) ∧ v25 = .pointer (some ⟨g25, 0, none⟩) ∧ v26 = .int .i64 E3 ∧ Hold wB wx [rowR g21 (.slice q5 L4.length k5) [.string H4, .int .i64 M4], rowR (g21 + 1) (.slice q6 L5.length k6) [.string H5, .int .i64 M5], slR q7 k7 L4, rowR g24 (.slice q7 L4.length k7) [.string H4, .int .i64 M4], rowR g25 (.slice q8 L5.length k8) [.string H5, .int .i64 M5]] ∧ SlAt wx q8 k8 L5)
  case first =>
    refine wp_region_two Up (RQ w21.drew.heap.size) (up_rq _) (by kernel_rfl) (by kernel_rfl) (by kernel_rfl) ?_
    replace hD := hD.next ((Below.refl _ w21).drew)
    clear a0 a1 a2 b0 b1 b2
    generalize w21.drew = wa at *
    have ra := RA.out.up hD.up
    have rb := RB.out.up hD.up
    obtain ⟨a0, a1, a2, -⟩ := RowAt.c3 ra
    obtain ⟨b0, b1, b2, -⟩ := RowAt.c3 rb
    refine wpAnyTS_quiet 0 4 10 182 (by rfl) (by kernel_rfl) (fun _ _ _ _ _ h => h) (by kernel_rfl) (by kernel_rfl) ?_
    apply Exists.intro
    refine ⟨fun w2 hw2 => ?_, ?_⟩
    · have hne := laterR_ne rok_upQ w2
      obtain ⟨l0, l1, l2, l3⟩ := And.intro (laterQ a0 ra.lt (Nat.le_refl _) hw2) (And.intro (laterQ a1 ra.lt (Nat.le_refl _) hw2) (And.intro (laterQ a2 ra.lt (Nat.le_refl _) hw2) (laterQ b2 rb.lt (Nat.le_refl _) hw2)))
      simp only [List.drop_zero, List.take_succ_cons, List.take_zero]
      repeat (go_big_quiet_step ((go_at_call 15; with_reducible exact Calls.laterQ (CF.out _ _ _ _ _ _))))
      exact wpQuiet_nil rfl
    clear a0 a1 a2 b0 b1 b2
    have hE := hD
    have hU := Up.refl wa
    refine wpAnyTS_some 4 [9, 10] 9 (by rfl) (by kernel_rfl) (by kernel_rfl) ?_
    intro w3 h3
    replace hD := hD.next h3
    replace hE := hE.next h3
    replace hU := Up.trans hU h3
    clear h3
    refine ⟨?_, ?_, ?_, trivial⟩
    · simp only [List.drop_succ_cons, List.drop_zero, List.take_succ_cons, List.take_zero]
      go_wp2_with ((with_reducible refine (C8.out _ _ _ (SA.out.up hD.up)).mono ?_); rintro e wS ⟨q7, k7, q8, k8, rfl, hs1, hn1, hs2, hn2, hb⟩)
      refine ⟨.inr ((up_rq _).sub hb), ?_⟩
      replace hD := hold_addSl hD hb hs1 hn1
      replace hE := hold_addSl hE hb hs2 hn2
      replace hU := Up.trans hU hb
      clear hs1 hs2 hn1 hn2 hb
      refine wpAnyTS_quiet 5 4 5 182 (by rfl) (by kernel_rfl) (fun _ _ _ _ _ h => h) (by kernel_rfl) (by kernel_rfl) ?_
      apply Exists.intro
      refine ⟨fun w2 hw2 => ?_, ?_⟩
      · have hne := laterR_ne rok_upQ w2
        skip
        simp only [List.drop_succ_cons, List.drop_zero, List.take_succ_cons, List.take_zero]
        repeat (go_big_quiet_step ((go_at_call 15; with_reducible exact Calls.laterQ (CF.out _ _ _ _ _ _))))
        exact wpQuiet_nil rfl
      refine wpAnyTS_some 9 [10] 4 (by rfl) (by kernel_rfl) (by kernel_rfl) ?_
      intro w4 h3
      replace hD := hD.next h3
      replace hE := hE.next h3
      replace hU := Up.trans hU h3
      clear h3
      refine ⟨?_, ?_, trivial⟩
      · simp only [List.drop_succ_cons, List.drop_zero, List.take_succ_cons, List.take_zero]
        go_wp2_with fail
        refine ⟨.inr ((up_rq _).sub ((Up.refl _).alloc _)), ?_⟩
        have hg4 : wa.heap.size ≤ w4.heap.size := Below.size hU
        replace hD := hD.madeRow (.slice none 0 0) [.string ⟨#[]⟩, .int .i64 0] 29
        replace hE := hE.madeRow (.slice none 0 0) [.string ⟨#[]⟩, .int .i64 0] 29
        simp only [List.nil_append, List.cons_append] at hD hE
        replace hU := Up.trans hU ((Up.refl w4).alloc (.cells #[.slice none 0 0, .string ⟨#[]⟩, .int .i64 0] 29))
        generalize w4.heap.size = g24 at *
        generalize w4.alloc _ = w5 at *
        refine wpAnyTS_some 10 [] 3 (by rfl) (by kernel_rfl) (by kernel_rfl) ?_
        intro w6 h3
        replace hD := hD.next h3
        replace hE := hE.next h3
        replace hU := Up.trans hU h3
        clear h3
        refine ⟨?_, trivial⟩
        simp only [List.drop_succ_cons, List.drop_zero, List.take_succ_cons, List.take_zero]
        go_wp2_with fail
        refine ⟨.inr ((up_rq _).sub ((Up.refl _).alloc _)), ?_⟩
        have hg5 : wa.heap.size ≤ w6.heap.size := Below.size hU
        replace hD := hD.madeRow (.slice none 0 0) [.string ⟨#[]⟩, .int .i64 0] 29
        replace hE := hE.madeRow (.slice none 0 0) [.string ⟨#[]⟩, .int .i64 0] 29
        simp only [List.nil_append, List.cons_append] at hD hE
        replace hU := Up.trans hU ((Up.refl w6).alloc (.cells #[.slice none 0 0, .string ⟨#[]⟩, .int .i64 0] 29))
        generalize w6.heap.size = g25 at *
        generalize w6.alloc _ = w7 at *
        refine wpAnyTS_some 11 [] 2 (by rfl) (by kernel_rfl) (by kernel_rfl) ?_
        intro w8 h3
        replace hD := hD.next h3
        replace hE := hE.next h3
        replace hU := Up.trans hU h3
        clear h3
        refine ⟨?_, trivial⟩
        obtain ⟨x0, x1, x2, y0, y1, y2⟩ := RowAt.c3 (hD.get 3 rfl)
        simp only [List.drop_succ_cons, List.drop_zero, List.take_succ_cons, List.take_zero]
        go_wp2_with fail
        refine ⟨.inr (fun _ => (((Below.refl _ w8).setCell (p := ⟨g24, 0, none⟩) hg4 _).setCell (p := ⟨g24, 1, none⟩) hg4 _).setCell (p := ⟨g24, 2, none⟩) hg4 _), ?_⟩
        clear x0 x1 x2 y0 y1 y2
        replace hD := ((hD.putRow 3 (g := g24) rfl 0 (.slice q7 L4.length k7) (.slice q7 L4.length k7) [.string ⟨#[]⟩, .int .i64 0] (by simp) rfl).putRow 3 (g := g24) rfl 1 (.string H4) (.slice q7 L4.length k7) [.string H4, .int .i64 0] (by simp) rfl).putRow 3 (g := g24) rfl 2 (.int .i64 M4) (.slice q7 L4.length k7) [.string H4, .int .i64 M4] (by simp) rfl
        replace hE := ((hE.putRow 3 (g := g24) rfl 0 (.slice q7 L4.length k7) (.slice q7 L4.length k7) [.string ⟨#[]⟩, .int .i64 0] (by simp) rfl).putRow 3 (g := g24) rfl 1 (.string H4) (.slice q7 L4.length k7) [.string H4, .int .i64 0] (by simp) rfl).putRow 3 (g := g24) rfl 2 (.int .i64 M4) (.slice q7 L4.length k7) [.string H4, .int .i64 M4] (by simp) rfl
        replace hU := Up.setCell (Up.setCell (Up.setCell hU g24 0 (.slice q7 L4.length k7) hg4) g24 1 (.string H4) hg4) g24 2 (.int .i64 M4) hg4
        generalize ((w8.setCell ⟨g24, 0, none⟩ (.slice q7 L4.length k7)).setCell ⟨g24, 1, none⟩ (.string H4)).setCell ⟨g24, 2, none⟩ (.int .i64 M4) = w9 at *
        refine wpAnyTS_some 12 [] 1 (by rfl) (by kernel_rfl) (by kernel_rfl) ?_
        intro w10 h3
        replace hD := hD.next h3
        replace hE := hE.next h3
        replace hU := Up.trans hU h3
        clear h3
        refine ⟨?_, trivial⟩
        obtain ⟨x0, x1, x2, y0, y1, y2⟩ := RowAt.c3 (hD.get 4 rfl)
        simp only [List.drop_succ_cons, List.drop_zero, List.take_succ_cons, List.take_zero]
        go_wp2_with fail
        refine ⟨.inr (fun _ => (((Below.refl _ w10).setCell (p := ⟨g25, 0, none⟩) hg5 _).setCell (p := ⟨g25, 1, none⟩) hg5 _).setCell (p := ⟨g25, 2, none⟩) hg5 _), ?_⟩
        clear x0 x1 x2 y0 y1 y2
        replace hD := ((hD.putRow 4 (g := g25) rfl 0 (.slice q8 L5.length k8) (.slice q8 L5.length k8) [.string ⟨#[]⟩, .int .i64 0] (by simp) rfl).putRow 4 (g := g25) rfl 1 (.string H5) (.slice q8 L5.length k8) [.string H5, .int .i64 0] (by simp) rfl).putRow 4 (g := g25) rfl 2 (.int .i64 M5) (.slice q8 L5.length k8) [.string H5, .int .i64 M5] (by simp) rfl
        replace hE := ((hE.putRow 4 (g := g25) rfl 0 (.slice q8 L5.length k8) (.slice q8 L5.length k8) [.string ⟨#[]⟩, .int .i64 0] (by simp) rfl).putRow 4 (g := g25) rfl 1 (.string H5) (.slice q8 L5.length k8) [.string H5, .int .i64 0] (by simp) rfl).putRow 4 (g := g25) rfl 2 (.int .i64 M5) (.slice q8 L5.length k8) [.string H5, .int .i64 M5] (by simp) rfl
        replace hU := Up.setCell (Up.setCell (Up.setCell hU g25 0 (.slice q8 L5.length k8) hg5) g25 1 (.string H5) hg5) g25 2 (.int .i64 M5) hg5
        generalize ((w10.setCell ⟨g25, 0, none⟩ (.slice q8 L5.length k8)).setCell ⟨g25, 1, none⟩ (.string H5)).setCell ⟨g25, 2, none⟩ (.int .i64 M5) = w11 at *
        refine wpAnyTS_quiet 13 1 0 182 (by rfl) (by kernel_rfl) (fun _ _ _ _ _ h => h) (by kernel_rfl) (by kernel_rfl) ?_
        apply Exists.intro
        refine ⟨fun w2 hw2 => ?_, ?_⟩
        · have hne := laterR_ne rok_upQ w2
          skip
          simp only [List.drop_succ_cons, List.drop_zero, List.take_succ_cons, List.take_zero]
          repeat (go_big_quiet_step ((go_at_call 15; with_reducible exact Calls.laterQ (CF.out _ _ _ _ _ _))))
          exact wpQuiet_nil rfl
        refine wpAnyTS_done (by kernel_rfl) ?_
        intro w12 h12
        replace hD := hD.next h12
        replace hE := hE.next h12
        go_wp2_with fail
        go_meet
        exact ⟨g24, g25, q7, q8, k7, k8, rfl, rfl, rfl, hD, slR_sl (hE.get 2 rfl)⟩
      · simp only [List.drop_succ_cons, List.drop_zero, List.take_succ_cons, List.take_zero]
        go_wp2_with fail
        refine ⟨.inr ((up_rq _).sub ((Up.refl _).alloc _)), ?_⟩
        have hg5 : wa.heap.size ≤ w4.heap.size := Below.size hU
        replace hD := hD.madeRow (.slice none 0 0) [.string ⟨#[]⟩, .int .i64 0] 29
        replace hE := hE.madeRow (.slice none 0 0) [.string ⟨#[]⟩, .int .i64 0] 29
        simp only [List.nil_append, List.cons_append] at hD hE
        replace hU := Up.trans hU ((Up.refl w4).alloc (.cells #[.slice none 0 0, .string ⟨#[]⟩, .int .i64 0] 29))
        generalize w4.heap.size = g25 at *
        generalize w4.alloc _ = w5 at *
        refine wpAnyTS_some 9 [] 3 (by rfl) (by kernel_rfl) (by kernel_rfl) ?_
        intro w6 h3
        replace hD := hD.next h3
        replace hE := hE.next h3
        replace hU := Up.trans hU h3
        clear h3
        refine ⟨?_, trivial⟩
        simp only [List.drop_succ_cons, List.drop_zero, List.take_succ_cons, List.take_zero]
        go_wp2_with fail
        refine ⟨.inr ((up_rq _).sub ((Up.refl _).alloc _)), ?_⟩
        have hg4 : wa.heap.size ≤ w6.heap.size := Below.size hU
        replace hD := hD.madeRow (.slice none 0 0) [.string ⟨#[]⟩, .int .i64 0] 29
        replace hE := hE.madeRow (.slice none 0 0) [.string ⟨#[]⟩, .int .i64 0] 29
        simp only [List.nil_append, List.cons_append] at hD hE
        replace hU := Up.trans hU ((Up.refl w6).alloc (.cells #[.slice none 0 0, .string ⟨#[]⟩, .int .i64 0] 29))
        generalize w6.heap.size = g24 at *
        generalize w6.alloc _ = w7 at *
        refine wpAnyTS_some 11 [] 2 (by rfl) (by kernel_rfl) (by kernel_rfl) ?_
        intro w8 h3
        replace hD := hD.next h3
        replace hE := hE.next h3
        replace hU := Up.trans hU h3
        clear h3
        refine ⟨?_, trivial⟩
        obtain ⟨x0, x1, x2, y0, y1, y2⟩ := RowAt.c3 (hD.get 4 rfl)
        simp only [List.drop_succ_cons, List.drop_zero, List.take_succ_cons, List.take_zero]
        go_wp2_with fail
        refine ⟨.inr (fun _ => (((Below.refl _ w8).setCell (p := ⟨g24, 0, none⟩) hg4 _).setCell (p := ⟨g24, 1, none⟩) hg4 _).setCell (p := ⟨g24, 2, none⟩) hg4 _), ?_⟩
        clear x0 x1 x2 y0 y1 y2
        replace hD := ((hD.putRow 4 (g := g24) rfl 0 (.slice q7 L4.length k7) (.slice q7 L4.length k7) [.string ⟨#[]⟩, .int .i64 0] (by simp) rfl).putRow 4 (g := g24) rfl 1 (.string H4) (.slice q7 L4.length k7) [.string H4, .int .i64 0] (by simp) rfl).putRow 4 (g := g24) rfl 2 (.int .i64 M4) (.slice q7 L4.length k7) [.string H4, .int .i64 M4] (by simp) rfl
        replace hE := ((hE.putRow 4 (g := g24) rfl 0 (.slice q7 L4.length k7) (.slice q7 L4.length k7) [.string ⟨#[]⟩, .int .i64 0] (by simp) rfl).putRow 4 (g := g24) rfl 1 (.string H4) (.slice q7 L4.length k7) [.string H4, .int .i64 0] (by simp) rfl).putRow 4 (g := g24) rfl 2 (.int .i64 M4) (.slice q7 L4.length k7) [.string H4, .int .i64 M4] (by simp) rfl
        replace hU := Up.setCell (Up.setCell (Up.setCell hU g24 0 (.slice q7 L4.length k7) hg4) g24 1 (.string H4) hg4) g24 2 (.int .i64 M4) hg4
        generalize ((w8.setCell ⟨g24, 0, none⟩ (.slice q7 L4.length k7)).setCell ⟨g24, 1, none⟩ (.string H4)).setCell ⟨g24, 2, none⟩ (.int .i64 M4) = w9 at *
        refine wpAnyTS_some 12 [] 1 (by rfl) (by kernel_rfl) (by kernel_rfl) ?_
        intro w10 h3
        replace hD := hD.next h3
        replace hE := hE.next h3
        replace hU := Up.trans hU h3
        clear h3
        refine ⟨?_, trivial⟩
        obtain ⟨x0, x1, x2, y0, y1, y2⟩ := RowAt.c3 (hD.get 3 rfl)
        simp only [List.drop_succ_cons, List.drop_zero, List.take_succ_cons, List.take_zero]
        go_wp2_with fail
        refine ⟨.inr (fun _ => (((Below.refl _ w10).setCell (p := ⟨g25, 0, none⟩) hg5 _).setCell (p := ⟨g25, 1, none⟩) hg5 _).setCell (p := ⟨g25, 2, none⟩) hg5 _), ?_⟩
        clear x0 x1 x2 y0 y1 y2
        replace hD := ((hD.putRow 3 (g := g25) rfl 0 (.slice q8 L5.length k8) (.slice q8 L5.length k8) [.string ⟨#[]⟩, .int .i64 0] (by simp) rfl).putRow 3 (g := g25) rfl 1 (.string H5) (.slice q8 L5.length k8) [.string H5, .int .i64 0] (by simp) rfl).putRow 3 (g := g25) rfl 2 (.int .i64 M5) (.slice q8 L5.length k8) [.string H5, .int .i64 M5] (by simp) rfl
        replace hE := ((hE.putRow 3 (g := g25) rfl 0 (.slice q8 L5.length k8) (.slice q8 L5.length k8) [.string ⟨#[]⟩, .int .i64 0] (by simp) rfl).putRow 3 (g := g25) rfl 1 (.string H5) (.slice q8 L5.length k8) [.string H5, .int .i64 0] (by simp) rfl).putRow 3 (g := g25) rfl 2 (.int .i64 M5) (.slice q8 L5.length k8) [.string H5, .int .i64 M5] (by simp) rfl
        replace hU := Up.setCell (Up.setCell (Up.setCell hU g25 0 (.slice q8 L5.length k8) hg5) g25 1 (.string H5) hg5) g25 2 (.int .i64 M5) hg5
        generalize ((w10.setCell ⟨g25, 0, none⟩ (.slice q8 L5.length k8)).setCell ⟨g25, 1, none⟩ (.string H5)).setCell ⟨g25, 2, none⟩ (.int .i64 M5) = w11 at *
        refine wpAnyTS_quiet 13 1 0 182 (by rfl) (by kernel_rfl) (fun _ _ _ _ _ h => h) (by kernel_rfl) (by kernel_rfl) ?_
        apply Exists.intro
        refine ⟨fun w2 hw2 => ?_, ?_⟩
        · have hne := laterR_ne rok_upQ w2
          skip
          simp only [List.drop_succ_cons, List.drop_zero, List.take_succ_cons, List.take_zero]
          repeat (go_big_quiet_step ((go_at_call 15; with_reducible exact Calls.laterQ (CF.out _ _ _ _ _ _))))
          exact wpQuiet_nil rfl
        refine wpAnyTS_done (by kernel_rfl) ?_
        intro w12 h12
        replace hD := hD.next h12
        replace hE := hE.next h12
        go_wp2_with fail
        go_meet
        exact ⟨g24, g25, q7, q8, k7, k8, rfl, rfl, rfl, hD.perm (List.Perm.append_left [rowR g21 (.slice q5 L4.length k5) [.string H4, .int .i64 M4], rowR (g21 + 1) (.slice q6 L5.length k6) [.string H5, .int .i64 M5], slR q7 k7 L4] (List.Perm.swap _ _ [])), slR_sl (hE.get 2 rfl)⟩
    · simp only [List.drop_succ_cons, List.drop_zero, List.take_succ_cons, List.take_zero]
      go_wp2_with fail
      refine ⟨.inr ((up_rq _).sub ((Up.refl _).alloc _)), ?_⟩
      have hg4 : wa.heap.size ≤ w3.heap.size := Below.size hU
      replace hD := hD.madeRow (.slice none 0 0) [.string ⟨#[]⟩, .int .i64 0] 29
      replace hE := hE.madeRow (.slice none 0 0) [.string ⟨#[]⟩, .int .i64 0] 29
      simp only [List.nil_append, List.cons_append] at hD hE
      replace hU := Up.trans hU ((Up.refl w3).alloc (.cells #[.slice none 0 0, .string ⟨#[]⟩, .int .i64 0] 29))
      generalize w3.heap.size = g24 at *
      generalize w3.alloc _ = w4 at *
      refine wpAnyTS_some 4 [10] 8 (by rfl) (by kernel_rfl) (by kernel_rfl) ?_
      intro w5 h3
      replace hD := hD.next h3
      replace hE := hE.next h3
      replace hU := Up.trans hU h3
      clear h3
      refine ⟨?_, ?_, trivial⟩
      · simp only [List.drop_succ_cons, List.drop_zero, List.take_succ_cons, List.take_zero]
        go_wp2_with ((with_reducible refine (C8.out _ _ _ (SA.out.up hD.up)).mono ?_); rintro e wS ⟨q7, k7, q8, k8, rfl, hs1, hn1, hs2, hn2, hb⟩)
        refine ⟨.inr ((up_rq _).sub hb), ?_⟩
        replace hD := hold_addSl hD hb hs1 hn1
        replace hE := hold_addSl hE hb hs2 hn2
        replace hU := Up.trans hU hb
        clear hs1 hs2 hn1 hn2 hb
        refine wpAnyTS_quiet 5 4 4 182 (by rfl) (by kernel_rfl) (fun _ _ _ _ _ h => h) (by kernel_rfl) (by kernel_rfl) ?_
        apply Exists.intro
        refine ⟨fun w2 hw2 => ?_, ?_⟩
        · have hne := laterR_ne rok_upQ w2
          skip
          simp only [List.drop_succ_cons, List.drop_zero, List.take_succ_cons, List.take_zero]
          repeat (go_big_quiet_step ((go_at_call 15; with_reducible exact Calls.laterQ (CF.out _ _ _ _ _ _))))
          exact wpQuiet_nil rfl
        refine wpAnyTS_some 10 [] 3 (by rfl) (by kernel_rfl) (by kernel_rfl) ?_
        intro w6 h3
        replace hD := hD.next h3
        replace hE := hE.next h3
        replace hU := Up.trans hU h3
        clear h3
        refine ⟨?_, trivial⟩
        simp only [List.drop_succ_cons, List.drop_zero, List.take_succ_cons, List.take_zero]
        go_wp2_with fail
        refine ⟨.inr ((up_rq _).sub ((Up.refl _).alloc _)), ?_⟩
        have hg5 : wa.heap.size ≤ w6.heap.size := Below.size hU
        replace hD := hD.madeRow (.slice none 0 0) [.string ⟨#[]⟩, .int .i64 0] 29
        replace hE := hE.madeRow (.slice none 0 0) [.string ⟨#[]⟩, .int .i64 0] 29
        simp only [List.nil_append, List.cons_append] at hD hE
        replace hU := Up.trans hU ((Up.refl w6).alloc (.cells #[.slice none 0 0, .string ⟨#[]⟩, .int .i64 0] 29))
        generalize w6.heap.size = g25 at *
        generalize w6.alloc _ = w7 at *
        refine wpAnyTS_some 11 [] 2 (by rfl) (by kernel_rfl) (by kernel_rfl) ?_
        intro w8 h3
        replace hD := hD.next h3
        replace hE := hE.next h3
        replace hU := Up.trans hU h3
        clear h3
        refine ⟨?_, trivial⟩
        obtain ⟨x0, x1, x2, y0, y1, y2⟩ := RowAt.c3 (hD.get 2 rfl)
        simp only [List.drop_succ_cons, List.drop_zero, List.take_succ_cons, List.take_zero]
        go_wp2_with fail
        refine ⟨.inr (fun _ => (((Below.refl _ w8).setCell (p := ⟨g24, 0, none⟩) hg4 _).setCell (p := ⟨g24, 1, none⟩) hg4 _).setCell (p := ⟨g24, 2, none⟩) hg4 _), ?_⟩
        clear x0 x1 x2 y0 y1 y2
        replace hD := ((hD.putRow 2 (g := g24) rfl 0 (.slice q7 L4.length k7) (.slice q7 L4.length k7) [.string ⟨#[]⟩, .int .i64 0] (by simp) rfl).putRow 2 (g := g24) rfl 1 (.string H4) (.slice q7 L4.length k7) [.string H4, .int .i64 0] (by simp) rfl).putRow 2 (g := g24) rfl 2 (.int .i64 M4) (.slice q7 L4.length k7) [.string H4, .int .i64 M4] (by simp) rfl
        replace hE := ((hE.putRow 2 (g := g24) rfl 0 (.slice q7 L4.length k7) (.slice q7 L4.length k7) [.string ⟨#[]⟩, .int .i64 0] (by simp) rfl).putRow 2 (g := g24) rfl 1 (.string H4) (.slice q7 L4.length k7) [.string H4, .int .i64 0] (by simp) rfl).putRow 2 (g := g24) rfl 2 (.int .i64 M4) (.slice q7 L4.length k7) [.string H4, .int .i64 M4] (by simp) rfl
        replace hU := Up.setCell (Up.setCell (Up.setCell hU g24 0 (.slice q7 L4.length k7) hg4) g24 1 (.string H4) hg4) g24 2 (.int .i64 M4) hg4
        generalize ((w8.setCell ⟨g24, 0, none⟩ (.slice q7 L4.length k7)).setCell ⟨g24, 1, none⟩ (.string H4)).setCell ⟨g24, 2, none⟩ (.int .i64 M4) = w9 at *
        refine wpAnyTS_some 12 [] 1 (by rfl) (by kernel_rfl) (by kernel_rfl) ?_
        intro w10 h3
        replace hD := hD.next h3
        replace hE := hE.next h3
        replace hU := Up.trans hU h3
        clear h3
        refine ⟨?_, trivial⟩
        obtain ⟨x0, x1, x2, y0, y1, y2⟩ := RowAt.c3 (hD.get 4 rfl)
        simp only [List.drop_succ_cons, List.drop_zero, List.take_succ_cons, List.take_zero]
        go_wp2_with fail
        refine ⟨.inr (fun _ => (((Below.refl _ w10).setCell (p := ⟨g25, 0, none⟩) hg5 _).setCell (p := ⟨g25, 1, none⟩) hg5 _).setCell (p := ⟨g25, 2, none⟩) hg5 _), ?_⟩
        clear x0 x1 x2 y0 y1 y2
        replace hD := ((hD.putRow 4 (g := g25) rfl 0 (.slice q8 L5.length k8) (.slice q8 L5.length k8) [.string ⟨#[]⟩, .int .i64 0] (by simp) rfl).putRow 4 (g := g25) rfl 1 (.string H5) (.slice q8 L5.length k8) [.string H5, .int .i64 0] (by simp) rfl).putRow 4 (g := g25) rfl 2 (.int .i64 M5) (.slice q8 L5.length k8) [.string H5, .int .i64 M5] (by simp) rfl
        replace hE := ((hE.putRow 4 (g := g25) rfl 0 (.slice q8 L5.length k8) (.slice q8 L5.length k8) [.string ⟨#[]⟩, .int .i64 0] (by simp) rfl).putRow 4 (g := g25) rfl 1 (.string H5) (.slice q8 L5.length k8) [.string H5, .int .i64 0] (by simp) rfl).putRow 4 (g := g25) rfl 2 (.int .i64 M5) (.slice q8 L5.length k8) [.string H5, .int .i64 M5] (by simp) rfl
        replace hU := Up.setCell (Up.setCell (Up.setCell hU g25 0 (.slice q8 L5.length k8) hg5) g25 1 (.string H5) hg5) g25 2 (.int .i64 M5) hg5
        generalize ((w10.setCell ⟨g25, 0, none⟩ (.slice q8 L5.length k8)).setCell ⟨g25, 1, none⟩ (.string H5)).setCell ⟨g25, 2, none⟩ (.int .i64 M5) = w11 at *
        refine wpAnyTS_quiet 13 1 0 182 (by rfl) (by kernel_rfl) (fun _ _ _ _ _ h => h) (by kernel_rfl) (by kernel_rfl) ?_
        apply Exists.intro
        refine ⟨fun w2 hw2 => ?_, ?_⟩
        · have hne := laterR_ne rok_upQ w2
          skip
          simp only [List.drop_succ_cons, List.drop_zero, List.take_succ_cons, List.take_zero]
          repeat (go_big_quiet_step ((go_at_call 15; with_reducible exact Calls.laterQ (CF.out _ _ _ _ _ _))))
          exact wpQuiet_nil rfl
        refine wpAnyTS_done (by kernel_rfl) ?_
        intro w12 h12
        replace hD := hD.next h12
        replace hE := hE.next h12
        go_wp2_with fail
        go_meet
        exact ⟨g24, g25, q7, q8, k7, k8, rfl, rfl, rfl, hD.perm (List.Perm.append_left [rowR g21 (.slice q5 L4.length k5) [.string H4, .int .i64 M4], rowR (g21 + 1) (.slice q6 L5.length k6) [.string H5, .int .i64 M5]] (List.Perm.swap _ _ [_])), slR_sl (hE.get 3 rfl)⟩
      · simp only [List.drop_succ_cons, List.drop_zero, List.take_succ_cons, List.take_zero]
        go_wp2_with fail
        refine ⟨.inr ((up_rq _).sub ((Up.refl _).alloc _)), ?_⟩
        have hg5 : wa.heap.size ≤ w5.heap.size := Below.size hU
        replace hD := hD.madeRow (.slice none 0 0) [.string ⟨#[]⟩, .int .i64 0] 29
        replace hE := hE.madeRow (.slice none 0 0) [.string ⟨#[]⟩, .int .i64 0] 29
        simp only [List.nil_append, List.cons_append] at hD hE
        replace hU := Up.trans hU ((Up.refl w5).alloc (.cells #[.slice none 0 0, .string ⟨#[]⟩, .int .i64 0] 29))
        generalize w5.heap.size = g25 at *
        generalize w5.alloc _ = w6 at *
        refine wpAnyTS_some 4 [] 7 (by rfl) (by kernel_rfl) (by kernel_rfl) ?_
        intro w7 h3
        replace hD := hD.next h3
        replace hE := hE.next h3
        replace hU := Up.trans hU h3
        clear h3
        refine ⟨?_, trivial⟩
        simp only [List.drop_succ_cons, List.drop_zero, List.take_succ_cons, List.take_zero]
        go_wp2_with ((with_reducible refine (C8.out _ _ _ (SA.out.up hD.up)).mono ?_); rintro e wS ⟨q7, k7, q8, k8, rfl, hs1, hn1, hs2, hn2, hb⟩)
        refine ⟨.inr ((up_rq _).sub hb), ?_⟩
        replace hD := hold_addSl hD hb hs1 hn1
        replace hE := hold_addSl hE hb hs2 hn2
        replace hU := Up.trans hU hb
        clear hs1 hs2 hn1 hn2 hb
        refine wpAnyTS_quiet 5 4 3 182 (by rfl) (by kernel_rfl) (fun _ _ _ _ _ h => h) (by kernel_rfl) (by kernel_rfl) ?_
        apply Exists.intro
        refine ⟨fun w2 hw2 => ?_, ?_⟩
        · have hne := laterR_ne rok_upQ w2
          skip
          simp only [List.drop_succ_cons, List.drop_zero, List.take_succ_cons, List.take_zero]
          repeat (go_big_quiet_step ((go_at_call 15; with_reducible exact Calls.laterQ (CF.out _ _ _ _ _ _))))
          exact wpQuiet_nil rfl
        refine wpAnyTS_some 11 [] 2 (by rfl) (by kernel_rfl) (by kernel_rfl) ?_
        intro w8 h3
        replace hD := hD.next h3
        replace hE := hE.next h3
        replace hU := Up.trans hU h3
        clear h3
        refine ⟨?_, trivial⟩
        obtain ⟨x0, x1, x2, y0, y1, y2⟩ := RowAt.c3 (hD.get 2 rfl)
        simp only [List.drop_succ_cons, List.drop_zero, List.take_succ_cons, List.take_zero]
        go_wp2_with fail
        refine ⟨.inr (fun _ => (((Below.refl _ w8).setCell (p := ⟨g24, 0, none⟩) hg4 _).setCell (p := ⟨g24, 1, none⟩) hg4 _).setCell (p := ⟨g24, 2, none⟩) hg4 _), ?_⟩
        clear x0 x1 x2 y0 y1 y2
        replace hD := ((hD.putRow 2 (g := g24) rfl 0 (.slice q7 L4.length k7) (.slice q7 L4.length k7) [.string ⟨#[]⟩, .int .i64 0] (by simp) rfl).putRow 2 (g := g24) rfl 1 (.string H4) (.slice q7 L4.length k7) [.string H4, .int .i64 0] (by simp) rfl).putRow 2 (g := g24) rfl 2 (.int .i64 M4) (.slice q7 L4.length k7) [.string H4, .int .i64 M4] (by simp) rfl
        replace hE := ((hE.putRow 2 (g := g24) rfl 0 (.slice q7 L4.length k7) (.slice q7 L4.length k7) [.string ⟨#[]⟩, .int .i64 0] (by simp) rfl).putRow 2 (g := g24) rfl 1 (.string H4) (.slice q7 L4.length k7) [.string H4, .int .i64 0] (by simp) rfl).putRow 2 (g := g24) rfl 2 (.int .i64 M4) (.slice q7 L4.length k7) [.string H4, .int .i64 M4] (by simp) rfl
        replace hU := Up.setCell (Up.setCell (Up.setCell hU g24 0 (.slice q7 L4.length k7) hg4) g24 1 (.string H4) hg4) g24 2 (.int .i64 M4) hg4
        generalize ((w8.setCell ⟨g24, 0, none⟩ (.slice q7 L4.length k7)).setCell ⟨g24, 1, none⟩ (.string H4)).setCell ⟨g24, 2, none⟩ (.int .i64 M4) = w9 at *
        refine wpAnyTS_some 12 [] 1 (by rfl) (by kernel_rfl) (by kernel_rfl) ?_
        intro w10 h3
        replace hD := hD.next h3
        replace hE := hE.next h3
        replace hU := Up.trans hU h3
        clear h3
        refine ⟨?_, trivial⟩
        obtain ⟨x0, x1, x2, y0, y1, y2⟩ := RowAt.c3 (hD.get 3 rfl)
        simp only [List.drop_succ_cons, List.drop_zero, List.take_succ_cons, List.take_zero]
        go_wp2_with fail
        refine ⟨.inr (fun _ => (((Below.refl _ w10).setCell (p := ⟨g25, 0, none⟩) hg5 _).setCell (p := ⟨g25, 1, none⟩) hg5 _).setCell (p := ⟨g25, 2, none⟩) hg5 _), ?_⟩
        clear x0 x1 x2 y0 y1 y2
        replace hD := ((hD.putRow 3 (g := g25) rfl 0 (.slice q8 L5.length k8) (.slice q8 L5.length k8) [.string ⟨#[]⟩, .int .i64 0] (by simp) rfl).putRow 3 (g := g25) rfl 1 (.string H5) (.slice q8 L5.length k8) [.string H5, .int .i64 0] (by simp) rfl).putRow 3 (g := g25) rfl 2 (.int .i64 M5) (.slice q8 L5.length k8) [.string H5, .int .i64 M5] (by simp) rfl
        replace hE := ((hE.putRow 3 (g := g25) rfl 0 (.slice q8 L5.length k8) (.slice q8 L5.length k8) [.string ⟨#[]⟩, .int .i64 0] (by simp) rfl).putRow 3 (g := g25) rfl 1 (.string H5) (.slice q8 L5.length k8) [.string H5, .int .i64 0] (by simp) rfl).putRow 3 (g := g25) rfl 2 (.int .i64 M5) (.slice q8 L5.length k8) [.string H5, .int .i64 M5] (by simp) rfl
        replace hU := Up.setCell (Up.setCell (Up.setCell hU g25 0 (.slice q8 L5.length k8) hg5) g25 1 (.string H5) hg5) g25 2 (.int .i64 M5) hg5
        generalize ((w10.setCell ⟨g25, 0, none⟩ (.slice q8 L5.length k8)).setCell ⟨g25, 1, none⟩ (.string H5)).setCell ⟨g25, 2, none⟩ (.int .i64 M5) = w11 at *
        refine wpAnyTS_quiet 13 1 0 182 (by rfl) (by kernel_rfl) (fun _ _ _ _ _ h => h) (by kernel_rfl) (by kernel_rfl) ?_
        apply Exists.intro
        refine ⟨fun w2 hw2 => ?_, ?_⟩
        · have hne := laterR_ne rok_upQ w2
          skip
          simp only [List.drop_succ_cons, List.drop_zero, List.take_succ_cons, List.take_zero]
          repeat (go_big_quiet_step ((go_at_call 15; with_reducible exact Calls.laterQ (CF.out _ _ _ _ _ _))))
          exact wpQuiet_nil rfl
        refine wpAnyTS_done (by kernel_rfl) ?_
        intro w12 h12
        replace hD := hD.next h12
        replace hE := hE.next h12
        go_wp2_with fail
        go_meet
        exact ⟨g24, g25, q7, q8, k7, k8, rfl, rfl, rfl, hD.perm (List.Perm.append_left [rowR g21 (.slice q5 L4.length k5) [.string H4, .int .i64 M4], rowR (g21 + 1) (.slice q6 L5.length k6) [.string H5, .int .i64 M5]] (List.perm_middle (l₁ := [_, _]) (l₂ := []))), slR_sl (hE.get 4 rfl)⟩
    · simp only [List.drop_succ_cons, List.drop_zero, List.take_succ_cons, List.take_zero]
      go_wp2_with fail
      refine ⟨.inr ((up_rq _).sub ((Up.refl _).alloc _)), ?_⟩
      have hg5 : wa.heap.size ≤ w3.heap.size := Below.size hU
      replace hD := hD.madeRow (.slice none 0 0) [.string ⟨#[]⟩, .int .i64 0] 29
      replace hE := hE.madeRow (.slice none 0 0) [.string ⟨#[]⟩, .int .i64 0] 29
      simp only [List.nil_append, List.cons_append] at hD hE
      replace hU := Up.trans hU ((Up.refl w3).alloc (.cells #[.slice none 0 0, .string ⟨#[]⟩, .int .i64 0] 29))
      generalize w3.heap.size = g25 at *
      generalize w3.alloc _ = w4 at *
      refine wpAnyTS_some 4 [9] 8 (by rfl) (by kernel_rfl) (by kernel_rfl) ?_
      intro w5 h3
      replace hD := hD.next h3
      replace hE := hE.next h3
      replace hU := Up.trans hU h3
      clear h3
      refine ⟨?_, ?_, trivial⟩
      · simp only [List.drop_succ_cons, List.drop_zero, List.take_succ_cons, List.take_zero]
        go_wp2_with ((with_reducible refine (C8.out _ _ _ (SA.out.up hD.up)).mono ?_); rintro e wS ⟨q7, k7, q8, k8, rfl, hs1, hn1, hs2, hn2, hb⟩)
        refine ⟨.inr ((up_rq _).sub hb), ?_⟩
        replace hD := hold_addSl hD hb hs1 hn1
        replace hE := hold_addSl hE hb hs2 hn2
        replace hU := Up.trans hU hb
        clear hs1 hs2 hn1 hn2 hb
        refine wpAnyTS_quiet 5 4 4 182 (by rfl) (by kernel_rfl) (fun _ _ _ _ _ h => h) (by kernel_rfl) (by kernel_rfl) ?_
        apply Exists.intro
        refine ⟨fun w2 hw2 => ?_, ?_⟩
        · have hne := laterR_ne rok_upQ w2
          skip
          simp only [List.drop_succ_cons, List.drop_zero, List.take_succ_cons, List.take_zero]
          repeat (go_big_quiet_step ((go_at_call 15; with_reducible exact Calls.laterQ (CF.out _ _ _ _ _ _))))
          exact wpQuiet_nil rfl
        refine wpAnyTS_some 9 [] 3 (by rfl) (by kernel_rfl) (by kernel_rfl) ?_
        intro w6 h3
        replace hD := hD.next h3
        replace hE := hE.next h3
        replace hU := Up.trans hU h3
        clear h3
        refine ⟨?_, trivial⟩
        simp only [List.drop_succ_cons, List.drop_zero, List.take_succ_cons, List.take_zero]
        go_wp2_with fail
        refine ⟨.inr ((up_rq _).sub ((Up.refl _).alloc _)), ?_⟩
        have hg4 : wa.heap.size ≤ w6.heap.size := Below.size hU
        replace hD := hD.madeRow (.slice none 0 0) [.string ⟨#[]⟩, .int .i64 0] 29
        replace hE := hE.madeRow (.slice none 0 0) [.string ⟨#[]⟩, .int .i64 0] 29
        simp only [List.nil_append, List.cons_append] at hD hE
        replace hU := Up.trans hU ((Up.refl w6).alloc (.cells #[.slice none 0 0, .string ⟨#[]⟩, .int .i64 0] 29))
        generalize w6.heap.size = g24 at *
        generalize w6.alloc _ = w7 at *
        refine wpAnyTS_some 11 [] 2 (by rfl) (by kernel_rfl) (by kernel_rfl) ?_
        intro w8 h3
        replace hD := hD.next h3
        replace hE := hE.next h3
        replace hU := Up.trans hU h3
        clear h3
        refine ⟨?_, trivial⟩
        obtain ⟨x0, x1, x2, y0, y1, y2⟩ := RowAt.c3 (hD.get 4 rfl)
        simp only [List.drop_succ_cons, List.drop_zero, List.take_succ_cons, List.take_zero]
        go_wp2_with fail
        refine ⟨.inr (fun _ => (((Below.refl _ w8).setCell (p := ⟨g24, 0, none⟩) hg4 _).setCell (p := ⟨g24, 1, none⟩) hg4 _).setCell (p := ⟨g24, 2, none⟩) hg4 _), ?_⟩
        clear x0 x1 x2 y0 y1 y2
        replace hD := ((hD.putRow 4 (g := g24) rfl 0 (.slice q7 L4.length k7) (.slice q7 L4.length k7) [.string ⟨#[]⟩, .int .i64 0] (by simp) rfl).putRow 4 (g := g24) rfl 1 (.string H4) (.slice q7 L4.length k7) [.string H4, .int .i64 0] (by simp) rfl).putRow 4 (g := g24) rfl 2 (.int .i64 M4) (.slice q7 L4.length k7) [.string H4, .int .i64 M4] (by simp) rfl
        replace hE := ((hE.putRow 4 (g := g24) rfl 0 (.slice q7 L4.length k7) (.slice q7 L4.length k7) [.string ⟨#[]⟩, .int .i64 0] (by simp) rfl).putRow 4 (g := g24) rfl 1 (.string H4) (.slice q7 L4.length k7) [.string H4, .int .i64 0] (by simp) rfl).putRow 4 (g := g24) rfl 2 (.int .i64 M4) (.slice q7 L4.length k7) [.string H4, .int .i64 M4] (by simp) rfl
        replace hU := Up.setCell (Up.setCell (Up.setCell hU g24 0 (.slice q7 L4.length k7) hg4) g24 1 (.string H4) hg4) g24 2 (.int .i64 M4) hg4
        generalize ((w8.setCell ⟨g24, 0, none⟩ (.slice q7 L4.length k7)).setCell ⟨g24, 1, none⟩ (.string H4)).setCell ⟨g24, 2, none⟩ (.int .i64 M4) = w9 at *
        refine wpAnyTS_some 12 [] 1 (by rfl) (by kernel_rfl) (by kernel_rfl) ?_
        intro w10 h3
        replace hD := hD.next h3
        replace hE := hE.next h3
        replace hU := Up.trans hU h3
        clear h3
        refine ⟨?_, trivial⟩
        obtain ⟨x0, x1, x2, y0, y1, y2⟩ := RowAt.c3 (hD.get 2 rfl)
        simp only [List.drop_succ_cons, List.drop_zero, List.take_succ_cons, List.take_zero]
        go_wp2_with fail
        refine ⟨.inr (fun _ => (((Below.refl _ w10).setCell (p := ⟨g25, 0, none⟩) hg5 _).setCell (p := ⟨g25, 1, none⟩) hg5 _).setCell (p := ⟨g25, 2, none⟩) hg5 _), ?_⟩
        clear x0 x1 x2 y0 y1 y2
        replace hD := ((hD.putRow 2 (g := g25) rfl 0 (.slice q8 L5.length k8) (.slice q8 L5.length k8) [.string ⟨#[]⟩, .int .i64 0] (by simp) rfl).putRow 2 (g := g25) rfl 1 (.string H5) (.slice q8 L5.length k8) [.string H5, .int .i64 0] (by simp) rfl).putRow 2 (g := g25) rfl 2 (.int .i64 M5) (.slice q8 L5.length k8) [.string H5, .int .i64 M5] (by simp) rfl
        replace hE := ((hE.putRow 2 (g := g25) rfl 0 (.slice q8 L5.length k8) (.slice q8 L5.length k8) [.string ⟨#[]⟩, .int .i64 0] (by simp) rfl).putRow 2 (g := g25) rfl 1 (.string H5) (.slice q8 L5.length k8) [.string H5, .int .i64 0] (by simp) rfl).putRow 2 (g := g25) rfl 2 (.int .i64 M5) (.slice q8 L5.length k8) [.string H5, .int .i64 M5] (by simp) rfl
        replace hU := Up.setCell (Up.setCell (Up.setCell hU g25 0 (.slice q8 L5.length k8) hg5) g25 1 (.string H5) hg5) g25 2 (.int .i64 M5) hg5
        generalize ((w10.setCell ⟨g25, 0, none⟩ (.slice q8 L5.length k8)).setCell ⟨g25, 1, none⟩ (.string H5)).setCell ⟨g25, 2, none⟩ (.int .i64 M5) = w11 at *
        refine wpAnyTS_quiet 13 1 0 182 (by rfl) (by kernel_rfl) (fun _ _ _ _ _ h => h) (by kernel_rfl) (by kernel_rfl) ?_
        apply Exists.intro
        refine ⟨fun w2 hw2 => ?_, ?_⟩
        · have hne := laterR_ne rok_upQ w2
          skip
          simp only [List.drop_succ_cons, List.drop_zero, List.take_succ_cons, List.take_zero]
          repeat (go_big_quiet_step ((go_at_call 15; with_reducible exact Calls.laterQ (CF.out _ _ _ _ _ _))))
          exact wpQuiet_nil rfl
        refine wpAnyTS_done (by kernel_rfl) ?_
        intro w12 h12
        replace hD := hD.next h12
        replace hE := hE.next h12
        go_wp2_with fail
        go_meet
        exact ⟨g24, g25, q7, q8, k7, k8, rfl, rfl, rfl, hD.perm (List.Perm.append_left [rowR g21 (.slice q5 L4.length k5) [.string H4, .int .i64 M4], rowR (g21 + 1) (.slice q6 L5.length k6) [.string H5, .int .i64 M5]] (List.perm_append_comm (l₁ := [_]) (l₂ := [_, _]))), slR_sl (hE.get 3 rfl)⟩
      · simp only [List.drop_succ_cons, List.drop_zero, List.take_succ_cons, List.take_zero]
        go_wp2_with fail
        refine ⟨.inr ((up_rq _).sub ((Up.refl _).alloc _)), ?_⟩
        have hg4 : wa.heap.size ≤ w5.heap.size := Below.size hU
        replace hD := hD.madeRow (.slice none 0 0) [.string ⟨#[]⟩, .int .i64 0] 29
        replace hE := hE.madeRow (.slice none 0 0) [.string ⟨#[]⟩, .int .i64 0] 29
        simp only [List.nil_append, List.cons_append] at hD hE
        replace hU := Up.trans hU ((Up.refl w5).alloc (.cells #[.slice none 0 0, .string ⟨#[]⟩, .int .i64 0] 29))
        generalize w5.heap.size = g24 at *
        generalize w5.alloc _ = w6 at *
        refine wpAnyTS_some 4 [] 7 (by rfl) (by kernel_rfl) (by kernel_rfl) ?_
        intro w7 h3
        replace hD := hD.next h3
        replace hE := hE.next h3
        replace hU := Up.trans hU h3
        clear h3
        refine ⟨?_, trivial⟩
        simp only [List.drop_succ_cons, List.drop_zero, List.take_succ_cons, List.take_zero]
        go_wp2_with ((with_reducible refine (C8.out _ _ _ (SA.out.up hD.up)).mono ?_); rintro e wS ⟨q7, k7, q8, k8, rfl, hs1, hn1, hs2, hn2, hb⟩)
        refine ⟨.inr ((up_rq _).sub hb), ?_⟩
        replace hD := hold_addSl hD hb hs1 hn1
        replace hE := hold_addSl hE hb hs2 hn2
        replace hU := Up.trans hU hb
        clear hs1 hs2 hn1 hn2 hb
        refine wpAnyTS_quiet 5 4 3 182 (by rfl) (by kernel_rfl) (fun _ _ _ _ _ h => h) (by kernel_rfl) (by kernel_rfl) ?_
        apply Exists.intro
        refine ⟨fun w2 hw2 => ?_, ?_⟩
        · have hne := laterR_ne rok_upQ w2
          skip
          simp only [List.drop_succ_cons, List.drop_zero, List.take_succ_cons, List.take_zero]
          repeat (go_big_quiet_step ((go_at_call 15; with_reducible exact Calls.laterQ (CF.out _ _ _ _ _ _))))
          exact wpQuiet_nil rfl
        refine wpAnyTS_some 11 [] 2 (by rfl) (by kernel_rfl) (by kernel_rfl) ?_
        intro w8 h3
        replace hD := hD.next h3
        replace hE := hE.next h3
        replace hU := Up.trans hU h3
        clear h3
        refine ⟨?_, trivial⟩
        obtain ⟨x0, x1, x2, y0, y1, y2⟩ := RowAt.c3 (hD.get 3 rfl)
        simp only [List.drop_succ_cons, List.drop_zero, List.take_succ_cons, List.take_zero]
        go_wp2_with fail
        refine ⟨.inr (fun _ => (((Below.refl _ w8).setCell (p := ⟨g24, 0, none⟩) hg4 _).setCell (p := ⟨g24, 1, none⟩) hg4 _).setCell (p := ⟨g24, 2, none⟩) hg4 _), ?_⟩
        clear x0 x1 x2 y0 y1 y2
        replace hD := ((hD.putRow 3 (g := g24) rfl 0 (.slice q7 L4.length k7) (.slice q7 L4.length k7) [.string ⟨#[]⟩, .int .i64 0] (by simp) rfl).putRow 3 (g := g24) rfl 1 (.string H4) (.slice q7 L4.length k7) [.string H4, .int .i64 0] (by simp) rfl).putRow 3 (g := g24) rfl 2 (.int .i64 M4) (.slice q7 L4.length k7) [.string H4, .int .i64 M4] (by simp) rfl
        replace hE := ((hE.putRow 3 (g := g24) rfl 0 (.slice q7 L4.length k7) (.slice q7 L4.length k7) [.string ⟨#[]⟩, .int .i64 0] (by simp) rfl).putRow 3 (g := g24) rfl 1 (.string H4) (.slice q7 L4.length k7) [.string H4, .int .i64 0] (by simp) rfl).putRow 3 (g := g24) rfl 2 (.int .i64 M4) (.slice q7 L4.length k7) [.string H4, .int .i64 M4] (by simp) rfl
        replace hU := Up.setCell (Up.setCell (Up.setCell hU g24 0 (.slice q7 L4.length k7) hg4) g24 1 (.string H4) hg4) g24 2 (.int .i64 M4) hg4
        generalize ((w8.setCell ⟨g24, 0, none⟩ (.slice q7 L4.length k7)).setCell ⟨g24, 1, none⟩ (.string H4)).setCell ⟨g24, 2, none⟩ (.int .i64 M4) = w9 at *
        refine wpAnyTS_some 12 [] 1 (by rfl) (by kernel_rfl) (by kernel_rfl) ?_
        intro w10 h3
        replace hD := hD.next h3
        replace hE := hE.next h3
        replace hU := Up.trans hU h3
        clear h3
        refine ⟨?_, trivial⟩
        obtain ⟨x0, x1, x2, y0, y1, y2⟩ := RowAt.c3 (hD.get 2 rfl)
        simp only [List.drop_succ_cons, List.drop_zero, List.take_succ_cons, List.take_zero]
        go_wp2_with fail
        refine ⟨.inr (fun _ => (((Below.refl _ w10).setCell (p := ⟨g25, 0, none⟩) hg5 _).setCell (p := ⟨g25, 1, none⟩) hg5 _).setCell (p := ⟨g25, 2, none⟩) hg5 _), ?_⟩
        clear x0 x1 x2 y0 y1 y2
        replace hD := ((hD.putRow 2 (g := g25) rfl 0 (.slice q8 L5.length k8) (.slice q8 L5.length k8) [.string ⟨#[]⟩, .int .i64 0] (by simp) rfl).putRow 2 (g := g25) rfl 1 (.string H5) (.slice q8 L5.length k8) [.string H5, .int .i64 0] (by simp) rfl).putRow 2 (g := g25) rfl 2 (.int .i64 M5) (.slice q8 L5.length k8) [.string H5, .int .i64 M5] (by simp) rfl
        replace hE := ((hE.putRow 2 (g := g25) rfl 0 (.slice q8 L5.length k8) (.slice q8 L5.length k8) [.string ⟨#[]⟩, .int .i64 0] (by simp) rfl).putRow 2 (g := g25) rfl 1 (.string H5) (.slice q8 L5.length k8) [.string H5, .int .i64 0] (by simp) rfl).putRow 2 (g := g25) rfl 2 (.int .i64 M5) (.slice q8 L5.length k8) [.string H5, .int .i64 M5] (by simp) rfl
        replace hU := Up.setCell (Up.setCell (Up.setCell hU g25 0 (.slice q8 L5.length k8) hg5) g25 1 (.string H5) hg5) g25 2 (.int .i64 M5) hg5
        generalize ((w10.setCell ⟨g25, 0, none⟩ (.slice q8 L5.length k8)).setCell ⟨g25, 1, none⟩ (.string H5)).setCell ⟨g25, 2, none⟩ (.int .i64 M5) = w11 at *
        refine wpAnyTS_quiet 13 1 0 182 (by rfl) (by kernel_rfl) (fun _ _ _ _ _ h => h) (by kernel_rfl) (by kernel_rfl) ?_
        apply Exists.intro
        refine ⟨fun w2 hw2 => ?_, ?_⟩
        · have hne := laterR_ne rok_upQ w2
          skip
          simp only [List.drop_succ_cons, List.drop_zero, List.take_succ_cons, List.take_zero]
          repeat (go_big_quiet_step ((go_at_call 15; with_reducible exact Calls.laterQ (CF.out _ _ _ _ _ _))))
          exact wpQuiet_nil rfl
        refine wpAnyTS_done (by kernel_rfl) ?_
        intro w12 h12
        replace hD := hD.next h12
        replace hE := hE.next h12
        go_wp2_with fail
        go_meet
        exact ⟨g24, g25, q7, q8, k7, k8, rfl, rfl, rfl, hD.perm (List.Perm.append_left [rowR g21 (.slice q5 L4.length k5) [.string H4, .int .i64 M4], rowR (g21 + 1) (.slice q6 L5.length k6) [.string H5, .int .i64 M5]] (List.reverse_perm [_, _, _]).symm), slR_sl (hE.get 4 rfl)⟩
  case rest =>
  clear hD a0 a1 a2 b0 b1 b2 T5' C8
  obtain ⟨g24, g25, q7, q8, k7, k8, rfl, rfl, rfl, hD, S8⟩ := hcut
  have T7 := Lib.hid (slR_sl (hD.get 2 rfl))
  have T8 := Lib.hid S8
  have R5 := Lib.hid (show RowAt _ g21 [.slice q5 L4.length k5, .string H4, .int .i64 M4] from hD.get 0 rfl)
  have R6 := Lib.hid (show RowAt _ (g21 + 1) [.slice q6 L5.length k6, .string H5, .int .i64 M5] from hD.get 1 rfl)
  have R7 := Lib.hid (show RowAt _ g24 [.slice q7 L4.length k7, .string H4, .int .i64 M4] from hD.get 3 rfl)
  have R8 := Lib.hid (show RowAt _ g25 [.slice q8 L5.length k8, .string H5, .int .i64 M5] from hD.get 4 rfl)
  replace U0 := Lib.hid (U0.out.trans hD.up)
  replace T1 := Lib.hid (T1.out.up hD.up)
  replace T2 := Lib.hid (T2.out.up hD.up)
  replace T3 := Lib.hid (T3.out.up hD.up)
  replace T4 := Lib.hid (T4.out.up hD.up)
  replace T5 := Lib.hid (T5.out.up hD.up)
  replace T6 := Lib.hid (T6.out.up hD.up)
  replace R1 := Lib.hid (R1.out.up hD.up)
  replace R2 := Lib.hid (R2.out.up hD.up)
  replace R3 := Lib.hid (R3.out.up hD.up)
  replace R4 := Lib.hid (R4.out.up hD.up)
  replace SA := Lib.hid (SA.out.up hD.up)
  replace SB := Lib.hid (SB.out.up hD.up)
  replace RA := Lib.hid (RA.out.up hD.up)
  replace RB := Lib.hid (RB.out.up hD.up)
  clear S8 hD
  have hD := Hold.start wc
  obtain ⟨a0, a1, a2, -⟩ := RowAt.c3 (RA.out.up hD.up)
  obtain ⟨b0, b1, b2, -⟩ := RowAt.c3 (RB.out.up hD.up)
  go_upto_region 13 with ((with_reducible refine (C9.out _ _ _ _ _ (SA.out.up hD.up) (SB.out.up hD.up)).mono ?_); rintro e wp ⟨q9, k9, rfl, hs, hn, hb⟩; replace hD := hold_addSl hD hb hs hn; clear hs hn hb b0 b1 b2)
  replace hD := hD.madeRow (.slice q9 L6.length k9) [.string H6, .int .i64 M6] 24
  simp only [List.nil_append, List.cons_append] at hD
  generalize wp.heap.size = g27 at *
  generalize wp.alloc _ = w27 at *
  clear a0 a1 a2; obtain ⟨a0, a1, a2, -⟩ := RowAt.c3 (RA.out.up hD.up)
  replace hD : Hold wc w27 [slR q9 k9 L6, rowR g27 (.slice q9 L6.length k9) [.string H6, .int .i64 M6]] := hD
  go_cut [29, 30] (fun v29 v30 wx => ∃ (g29 : Nat) (q0 : Option Addr) (k0 : Nat), v29 = .pointer (some ⟨g29, 0, none⟩) ∧ v30 = .int .i64 E5 ∧ Hold wc wx [slR q9 k9 L6, rowR g27 (.slice q9 L6.length k9) [.string H6, .int .i64 M6], slR q0 k0 L6, rowR g29 (.slice q0 L6.length k0) [.string H6, .int .i64 M6]])
  case first =>
    refine wp_region_two Up (RQ w27.drew.heap.size) (up_rq _) (by kernel_rfl) (by kernel_rfl) (by kernel_rfl) ?_
    replace hD := hD.next ((Below.refl _ w27).drew)
    clear a0 a1 a2
    generalize w27.drew = wa at *
    have ra := RA.out.up hD.up
    have rb := RB.out.up hD.up
    obtain ⟨a0, a1, a2, -⟩ := RowAt.c3 ra
    obtain ⟨b0, b1, b2, -⟩ := RowAt.c3 rb
    refine wpAnyTS_quiet 0 4 7 182 (by rfl) (by kernel_rfl) (fun _ _ _ _ _ h => h) (by kernel_rfl) (by kernel_rfl) ?_
    apply Exists.intro
    refine ⟨fun w2 hw2 => ?_, ?_⟩
    · have hne := laterR_ne rok_upQ w2
      obtain ⟨l0, l1, l2, l3, l4, l5⟩ := And.intro (laterQ a0 ra.lt (Nat.le_refl _) hw2) (And.intro (laterQ a1 ra.lt (Nat.le_refl _) hw2) (And.intro (laterQ a2 ra.lt (Nat.le_refl _) hw2) (And.intro (laterQ b0 rb.lt (Nat.le_refl _) hw2) (And.intro (laterQ b1 rb.lt (Nat.le_refl _) hw2) (laterQ b2 rb.lt (Nat.le_refl _) hw2)))))
      simp only [List.drop_zero, List.take_succ_cons, List.take_zero]
      repeat (go_big_quiet_step ((go_at_call 15; with_reducible exact Calls.laterQ (CF.out _ _ _ _ _ _))))
      exact wpQuiet_nil rfl
    clear a0 a1 a2 b0 b1 b2
    have hE := hD
    have hU := Up.refl wa
    refine wpAnyTS_some 4 [8] 6 (by rfl) (by kernel_rfl) (by kernel_rfl) ?_
    intro w3 h3
    replace hD := hD.next h3
    replace hE := hE.next h3
    replace hU := Up.trans hU h3
    clear h3
    refine ⟨?_, ?_, trivial⟩
    · simp only [List.drop_succ_cons, List.drop_zero, List.take_succ_cons, List.take_zero]
      go_wp2_with ((with_reducible refine (C0.out _ _ _ _ _ (SA.out.up hD.up) (SB.out.up hD.up)).mono ?_); rintro e wS ⟨q0, k0, rfl, hs1, hn1, hb⟩)
      refine ⟨.inr ((up_rq _).sub hb), ?_⟩
      replace hD := hold_addSl hD hb hs1 hn1
      replace hE := hold_addSl hE hb hs1 hn1
      replace hU := Up.trans hU hb
      clear hs1 hn1 hb
      refine wpAnyTS_quiet 5 3 3 182 (by rfl) (by kernel_rfl) (fun _ _ _ _ _ h => h) (by kernel_rfl) (by kernel_rfl) ?_
      apply Exists.intro
      refine ⟨fun w2 hw2 => ?_, ?_⟩
      · have hne := laterR_ne rok_upQ w2
        skip
        simp only [List.drop_succ_cons, List.drop_zero, List.take_succ_cons, List.take_zero]
        repeat (go_big_quiet_step ((go_at_call 15; with_reducible exact Calls.laterQ (CF.out _ _ _ _ _ _))))
        exact wpQuiet_nil rfl
      refine wpAnyTS_some 8 [] 2 (by rfl) (by kernel_rfl) (by kernel_rfl) ?_
      intro w4 h3
      replace hD := hD.next h3
      replace hE := hE.next h3
      replace hU := Up.trans hU h3
      clear h3
      refine ⟨?_, trivial⟩
      simp only [List.drop_succ_cons, List.drop_zero, List.take_succ_cons, List.take_zero]
      go_wp2_with fail
      refine ⟨.inr ((up_rq _).sub ((Up.refl _).alloc _)), ?_⟩
      have hg9 : wa.heap.size ≤ w4.heap.size := Below.size hU
      replace hD := hD.madeRow (.slice none 0 0) [.string ⟨#[]⟩, .int .i64 0] 29
      replace hE := hE.madeRow (.slice none 0 0) [.string ⟨#[]⟩, .int .i64 0] 29
      simp only [List.nil_append, List.cons_append] at hD hE
      replace hU := Up.trans hU ((Up.refl w4).alloc (.cells #[.slice none 0 0, .string ⟨#[]⟩, .int .i64 0] 29))
      generalize w4.heap.size = g29 at *
      generalize w4.alloc _ = w5 at *
      refine wpAnyTS_some 9 [] 1 (by rfl) (by kernel_rfl) (by kernel_rfl) ?_
      intro w8 h3
      replace hD := hD.next h3
      replace hE := hE.next h3
      replace hU := Up.trans hU h3
      clear h3
      refine ⟨?_, trivial⟩
      obtain ⟨x0, x1, x2, y0, y1, y2⟩ := RowAt.c3 (hD.get 3 rfl)
      simp only [List.drop_succ_cons, List.drop_zero, List.take_succ_cons, List.take_zero]
      go_wp2_with fail
      refine ⟨.inr (fun _ => (((Below.refl _ w8).setCell (p := ⟨g29, 0, none⟩) hg9 _).setCell (p := ⟨g29, 1, none⟩) hg9 _).setCell (p := ⟨g29, 2, none⟩) hg9 _), ?_⟩
      clear x0 x1 x2 y0 y1 y2
      replace hD := ((hD.putRow 3 (g := g29) rfl 0 (.slice q0 L6.length k0) (.slice q0 L6.length k0) [.string ⟨#[]⟩, .int .i64 0] (by simp) rfl).putRow 3 (g := g29) rfl 1 (.string H6) (.slice q0 L6.length k0) [.string H6, .int .i64 0] (by simp) rfl).putRow 3 (g := g29) rfl 2 (.int .i64 M6) (.slice q0 L6.length k0) [.string H6, .int .i64 M6] (by simp) rfl
      replace hE := ((hE.putRow 3 (g := g29) rfl 0 (.slice q0 L6.length k0) (.slice q0 L6.length k0) [.string ⟨#[]⟩, .int .i64 0] (by simp) rfl).putRow 3 (g := g29) rfl 1 (.string H6) (.slice q0 L6.length k0) [.string H6, .int .i64 0] (by simp) rfl).putRow 3 (g := g29) rfl 2 (.int .i64 M6) (.slice q0 L6.length k0) [.string H6, .int .i64 M6] (by simp) rfl
      replace hU := Up.setCell (Up.setCell (Up.setCell hU g29 0 (.slice q0 L6.length k0) hg9) g29 1 (.string H6) hg9) g29 2 (.int .i64 M6) hg9
      generalize ((w8.setCell ⟨g29, 0, none⟩ (.slice q0 L6.length k0)).setCell ⟨g29, 1, none⟩ (.string H6)).setCell ⟨g29, 2, none⟩ (.int .i64 M6) = w9 at *
      refine wpAnyTS_quiet 10 1 0 182 (by rfl) (by kernel_rfl) (fun _ _ _ _ _ h => h) (by kernel_rfl) (by kernel_rfl) ?_
      apply Exists.intro
      refine ⟨fun w2 hw2 => ?_, ?_⟩
      · have hne := laterR_ne rok_upQ w2
        skip
        simp only [List.drop_succ_cons, List.drop_zero, List.take_succ_cons, List.take_zero]
        repeat (go_big_quiet_step ((go_at_call 15; with_reducible exact Calls.laterQ (CF.out _ _ _ _ _ _))))
        exact wpQuiet_nil rfl
      refine wpAnyTS_done (by kernel_rfl) ?_
      intro w12 h12
      replace hD := hD.next h12
      go_wp2_with fail
      go_meet
      exact ⟨g29, q0, k0, rfl, rfl, hD⟩
    · simp only [List.drop_succ_cons, List.drop_zero, List.take_succ_cons, List.take_zero]
      go_wp2_with fail
      refine ⟨.inr ((up_rq _).sub ((Up.refl _).alloc _)), ?_⟩
      have hg9 : wa.heap.size ≤ w3.heap.size := Below.size hU
      replace hD := hD.madeRow (.slice none 0 0) [.string ⟨#[]⟩, .int .i64 0] 29
      replace hE := hE.madeRow (.slice none 0 0) [.string ⟨#[]⟩, .int .i64 0] 29
      simp only [List.nil_append, List.cons_append] at hD hE
      replace hU := Up.trans hU ((Up.refl w3).alloc (.cells #[.slice none 0 0, .string ⟨#[]⟩, .int .i64 0] 29))
      generalize w3.heap.size = g29 at *
      generalize w3.alloc _ = w4 at *
      refine wpAnyTS_some 4 [] 5 (by rfl) (by kernel_rfl) (by kernel_rfl) ?_
      intro w5 h3
      replace hD := hD.next h3
      replace hE := hE.next h3
      replace hU := Up.trans hU h3
      clear h3
      refine ⟨?_, trivial⟩
      simp only [List.drop_succ_cons, List.drop_zero, List.take_succ_cons, List.take_zero]
      go_wp2_with ((with_reducible refine (C0.out _ _ _ _ _ (SA.out.up hD.up) (SB.out.up hD.up)).mono ?_); rintro e wS ⟨q0, k0, rfl, hs1, hn1, hb⟩)
      refine ⟨.inr ((up_rq _).sub hb), ?_⟩
      replace hD := hold_addSl hD hb hs1 hn1
      replace hE := hold_addSl hE hb hs1 hn1
      replace hU := Up.trans hU hb
      clear hs1 hn1 hb
      refine wpAnyTS_quiet 5 3 2 182 (by rfl) (by kernel_rfl) (fun _ _ _ _ _ h => h) (by kernel_rfl) (by kernel_rfl) ?_
      apply Exists.intro
      refine ⟨fun w2 hw2 => ?_, ?_⟩
      · have hne := laterR_ne rok_upQ w2
        skip
        simp only [List.drop_succ_cons, List.drop_zero, List.take_succ_cons, List.take_zero]
        repeat (go_big_quiet_step ((go_at_call 15; with_reducible exact Calls.laterQ (CF.out _ _ _ _ _ _))))
        exact wpQuiet_nil rfl
      refine wpAnyTS_some 9 [] 1 (by rfl) (by kernel_rfl) (by kernel_rfl) ?_
      intro w8 h3
      replace hD := hD.next h3
      replace hE := hE.next h3
      replace hU := Up.trans hU h3
      clear h3
      refine ⟨?_, trivial⟩
      obtain ⟨x0, x1, x2, y0, y1, y2⟩ := RowAt.c3 (hD.get 2 rfl)
      simp only [List.drop_succ_cons, List.drop_zero, List.take_succ_cons, List.take_zero]
      go_wp2_with fail
      refine ⟨.inr (fun _ => (((Below.refl _ w8).setCell (p := ⟨g29, 0, none⟩) hg9 _).setCell (p := ⟨g29, 1, none⟩) hg9 _).setCell (p := ⟨g29, 2, none⟩) hg9 _), ?_⟩
      clear x0 x1 x2 y0 y1 y2
      replace hD := ((hD.putRow 2 (g := g29) rfl 0 (.slice q0 L6.length k0) (.slice q0 L6.length k0) [.string ⟨#[]⟩, .int .i64 0] (by simp) rfl).putRow 2 (g := g29) rfl 1 (.string H6) (.slice q0 L6.length k0) [.string H6, .int .i64 0] (by simp) rfl).putRow 2 (g := g29) rfl 2 (.int .i64 M6) (.slice q0 L6.length k0) [.string H6, .int .i64 M6] (by simp) rfl
      replace hE := ((hE.putRow 2 (g := g29) rfl 0 (.slice q0 L6.length k0) (.slice q0 L6.length k0) [.string ⟨#[]⟩, .int .i64 0] (by simp) rfl).putRow 2 (g := g29) rfl 1 (.string H6) (.slice q0 L6.length k0) [.string H6, .int .i64 0] (by simp) rfl).putRow 2 (g := g29) rfl 2 (.int .i64 M6) (.slice q0 L6.length k0) [.string H6, .int .i64 M6] (by simp) rfl
      replace hU := Up.setCell (Up.setCell (Up.setCell hU g29 0 (.slice q0 L6.length k0) hg9) g29 1 (.string H6) hg9) g29 2 (.int .i64 M6) hg9
      generalize ((w8.setCell ⟨g29, 0, none⟩ (.slice q0 L6.length k0)).setCell ⟨g29, 1, none⟩ (.string H6)).setCell ⟨g29, 2, none⟩ (.int .i64 M6) = w9 at *
      refine wpAnyTS_quiet 10 1 0 182 (by rfl) (by kernel_rfl) (fun _ _ _ _ _ h => h) (by kernel_rfl) (by kernel_rfl) ?_
      apply Exists.intro
      refine ⟨fun w2 hw2 => ?_, ?_⟩
      · have hne := laterR_ne rok_upQ w2
        skip
        simp only [List.drop_succ_cons, List.drop_zero, List.take_succ_cons, List.take_zero]
        repeat (go_big_quiet_step ((go_at_call 15; with_reducible exact Calls.laterQ (CF.out _ _ _ _ _ _))))
        exact wpQuiet_nil rfl
      refine wpAnyTS_done (by kernel_rfl) ?_
      intro w12 h12
      replace hD := hD.next h12
      go_wp2_with fail
      go_meet
      exact ⟨g29, q0, k0, rfl, rfl, hD.perm (List.Perm.append_left [slR q9 k9 L6, rowR g27 (.slice q9 L6.length k9) [.string H6, .int .i64 M6]] (List.Perm.swap _ _ []))⟩
  case rest =>
  clear hD a0 a1 a2 C0 C9
  obtain ⟨g29, q0, k0, rfl, rfl, hD⟩ := hcut
  go_upto_region 14 with fail
  have TA := Lib.hid (slR_sl (hD.get 0 rfl))
  have TB := Lib.hid (slR_sl (hD.get 2 rfl))
  obtain ⟨z0, z1, z2, -⟩ := RowAt.c3 (hD.get 1 rfl)
  have lz0 := Later.cell_of z0; have lz1 := Later.cell_of z1; have lz2 := Later.cell_of z2
  clear z0 z1 z2
  obtain ⟨z0, z1, z2, -⟩ := RowAt.c3 (hD.get 3 rfl)
  have ly0 := Later.cell_of z0; have ly1 := Later.cell_of z1; have ly2 := Later.cell_of z2
  clear z0 z1 z2
  obtain ⟨z0, z1, z2, -⟩ := RowAt.c3 (R1.out.up hD.up)
  have la0 := Later.cell_of z0; have la1 := Later.cell_of z1; have la2 := Later.cell_of z2
  clear z0 z1 z2
  obtain ⟨z0, z1, z2, -⟩ := RowAt.c3 (R2.out.up hD.up)
  have lb0 := Later.cell_of z0; have lb1 := Later.cell_of z1; have lb2 := Later.cell_of z2
  clear z0 z1 z2
  obtain ⟨z0, z1, z2, -⟩ := RowAt.c3 (R3.out.up hD.up)
  have lc0 := Later.cell_of z0; have lc1 := Later.cell_of z1; have lc2 := Later.cell_of z2
  clear z0 z1 z2
  obtain ⟨z0, z1, z2, -⟩ := RowAt.c3 (R4.out.up hD.up)
  have ld0 := Later.cell_of z0; have ld1 := Later.cell_of z1; have ld2 := Later.cell_of z2
  clear z0 z1 z2
  obtain ⟨z0, z1, z2, -⟩ := RowAt.c3 (R5.out.up hD.up)
  have le0 := Later.cell_of z0; have le1 := Later.cell_of z1; have le2 := Later.cell_of z2
  clear z0 z1 z2
  obtain ⟨z0, z1, z2, -⟩ := RowAt.c3 (R6.out.up hD.up)
  have lf0 := Later.cell_of z0; have lf1 := Later.cell_of z1; have lf2 := Later.cell_of z2
  clear z0 z1 z2
  obtain ⟨z0, z1, z2, -⟩ := RowAt.c3 (R7.out.up hD.up)
  have lg0 := Later.cell_of z0; have lg1 := Later.cell_of z1; have lg2 := Later.cell_of z2
  clear z0 z1 z2
  obtain ⟨z0, z1, z2, -⟩ := RowAt.c3 (R8.out.up hD.up)
  have lh0 := Later.cell_of z0; have lh1 := Later.cell_of z1; have lh2 := Later.cell_of z2
  clear z0 z1 z2
  replace T1 := Lib.hid (T1.out.up hD.up)
  replace T2 := Lib.hid (T2.out.up hD.up)
  replace T3 := Lib.hid (T3.out.up hD.up)
  replace T4 := Lib.hid (T4.out.up hD.up)
  replace T5 := Lib.hid (T5.out.up hD.up)
  replace T6 := Lib.hid (T6.out.up hD.up)
  replace T7 := Lib.hid (T7.out.up hD.up)
  replace T8 := Lib.hid (T8.out.up hD.up)
  replace U0 := Lib.hid (U0.out.trans hD.up)
  clear hD SA SB RA RB R1 R2 R3 R4 R5 R6 R7 R8
  have hne := later_ne wc
  refine wp_region_later (by kernel_rfl) (by kernel_rfl) ?_
  repeat (go_big_quiet_step (first
    | (go_at_call 21; rename_i ul; with_reducible exact Calls.later (CS.out _ _ _ n1.out _ _ _ _ _ (T1.out.up ul.up).pairs (T2.out.up ul.up).pairs))
    | (go_at_call 21; rename_i ul; with_reducible exact Calls.later (CS.out _ _ _ n2.out _ _ _ _ _ (T3.out.up ul.up).pairs (T4.out.up ul.up).pairs))
    | (go_at_call 21; rename_i ul; with_reducible exact Calls.later (CS.out _ _ _ n3.out _ _ _ _ _ (T5.out.up ul.up).pairs (T7.out.up ul.up).pairs))
    | (go_at_call 21; rename_i ul; with_reducible exact Calls.later (CS.out _ _ _ n4.out _ _ _ _ _ (T6.out.up ul.up).pairs (T8.out.up ul.up).pairs))
    | (go_at_call 21; rename_i ul; with_reducible exact Calls.later (CS.out _ _ _ n5.out _ _ _ _ _ (TA.out.up ul.up).pairs (TB.out.up ul.up).pairs))
    | (go_at_call 15; with_reducible exact Calls.later (CF.out _ _ _ _ _ _))
    | (go_at_call 22; with_reducible exact Calls.later (CG.out _))))
  refine wpQuiet_nil ?_
  intro w10 hw10
  obtain ⟨u10, rfl⟩ := hw10
  go_wp2_with fail
  go_ret
  exact ⟨rfl, U0.out.trans u10.up⟩
theorem does_row (x : LfD) (q : Option Addr) (c : Nat) (W : World) (hx : LfIn W x q) (y : LfD) (q2 : Option Addr) (c2 : Nat) (W2 : World) (he : W2 = W) (hy : LfIn W2 y q2) (k v : ByteArray) (hk : k.size ≤ maxLen) (hv : v.size ≤ maxLen) :
    Calls Try.prog 4 #[lfV x q c, lfV y q2 c2, .agg #[.string k, .string v]] W fun e w' => e = .returned (.bool true) ∧ Below W.heap.size W w' := by
  subst he
  exact does_law x y q q2 c c2 W2 hx hy k v hk hv
end Go.Proofs.Ytdlcmbnbfghdmaa
