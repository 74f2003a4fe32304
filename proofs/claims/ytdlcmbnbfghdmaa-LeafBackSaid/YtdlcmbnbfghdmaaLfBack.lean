/- LeafBack: the walk. -/
import Derived.Test.YtdlcmbnbfghdmaaLfPuts
namespace Bw
theorem decLO_of {s : ByteArray} {x : LfD} {k : Nat} (hs : s.size ≤ 252) (hr : x.right = true) (h : lst s = x.encL ++ zL k) : decLO s = some x := by
  rw [decLO, if_neg (by omega), h, rLf_encL hr, Option.bind_some, if_pos ⟨hr, bare_zL.2 ⟨k, rfl⟩⟩]
theorem enc_small {x : LfD} (hr : x.right = true) : (x.enc.size : Int) = x.size ∧ x.enc.size ≤ 252 := by
  have h1 := (right_row hr).2.2.2
  have h2 := (right_sm hr).2.1
  have h3 := encL_length x
  have h4 : x.enc.size = x.encL.length := by rw [LfD.enc, if_pos hr, size_str]
  rw [LfD.size] at h3 ⊢
  omega
theorem dec_enc {x : LfD} (hr : x.right = true) : decLO x.enc = some x := by
  refine decLO_of (k := 0) (enc_small hr).2 hr ?_
  rw [LfD.enc, if_pos hr, lst_str]
  simp [zL]
theorem dec_pad {x : LfD} (hr : x.right = true) : decLO (padS x.enc 252) = some x ∧ (padS x.enc 252).size ≤ 252 := by
  have h := enc_small hr
  have hE : padE x.enc 252 = 0 := by
    unfold padE
    rw [if_neg (by omega), if_neg (by omega)]
  have hl : lst (padS x.enc 252) = x.encL ++ zL (252 - x.enc.size) := by
    unfold padS
    rw [if_pos hE, lst_str]
    congr 1
    · rw [LfD.enc, if_pos hr, lst_str]
  have hsz : (padS x.enc 252).size ≤ 252 := by
    have h5 := congrArg List.length hl
    have h6 : x.enc.size = x.encL.length := by rw [LfD.enc, if_pos hr, size_str]
    rw [lst_length, List.length_append, zL_length] at h5
    omega
  exact ⟨decLO_of hsz hr hl, hsz⟩
theorem dec_back {s : ByteArray} {x : LfD} (hs : s.size ≤ 252) (h : decLO s = some x) : x.right = true ∧ padS x.enc s.size = s := by
  unfold decLO at h
  rw [if_neg (by omega)] at h
  obtain ⟨y, hy, h2⟩ := Option.bind_eq_some_iff.1 h
  split at h2
  · rename_i h3
    injection h2 with h2
    subst h2
    have h4 := rLf_inv (x := y.1) (t := y.2) hy h3.1
    obtain ⟨k, hk⟩ := bare_zL.1 h3.2
    rw [hk] at h4
    exact ⟨h3.1, ((fin_iff h3.1 hs).2 ⟨k, h4⟩).2⟩
  · cases h2
end Bw
namespace Go.Proofs.Ytdlcmbnbfghdmaa
open Go.RowKit Bw
set_option linter.unusedVariables false
set_option maxHeartbeats 4000000 in
set_option maxRecDepth 100000 in
theorem back_law (x : LfD) (qa : Option Addr) (ca : Nat) (W : World) (hX : LfIn W x qa) (s : ByteArray) (hs : s.size ≤ maxLen) :
    Calls Try.prog 5 #[lfV x qa ca, .string s] W fun e w' => e = .returned (.bool true) ∧ Below W.heap.size W w' := by
  unfold maxLen at hs
  have CX := Lib.hid (fun w hP => leaf_Cut x qa ca w hP hX.len hX.each hX.2)
  have PX := Lib.hid hX.pairs
  clear hX
  have sa := lcutD_sm x
  generalize lcutD x = a at *
  obtain ⟨S, hS⟩ : ∃ S, S = s.extract 0 (min (s.size : Int) 252).toNat := ⟨_, rfl⟩
  have hS3 : S.size ≤ 252 := by rw [hS, ByteArray.size_extract]; omega
  have C1 := Lib.hid (fun q c w h => leaf_Right a sa q c w h)
  have C3 := Lib.hid (fun q c w h => leaf_Size a sa q c w h)
  have C5 := Lib.hid (fun q c w h => leaf_Encode a sa q c w h)
  have C7 := Lib.hid (fun q c q2 c2 w h h2 => leaf_Same a a q q2 c c2 w h h2 sa.len sa.len)
  rw [same_self] at C7
  have sd := decLD_sm S
  have CD := Lib.hid (fun w => lfpost_open (leaf_Decode S (by omega) w))
  have CG := Lib.hid (fun w => law10_fixed w)
  have D1 := Lib.hid (fun q c w h => leaf_Right (decLD S) sd q c w h)
  have D5 := Lib.hid (fun q c w h => leaf_Encode (decLD S) sd q c w h)
  have DP := Lib.hid (fun w => ref1_Pad (decLD S).enc (S.size : Int) w (enc_size_le _))
  have HB := Lib.hid (show decLE S = 0 → (decLD S).right = true ∧ padS (decLD S).enc S.size = S from fun h => by
    cases ho : decLO S with
    | none => rw [decLE, ho] at h; cases h
    | some y =>
      have h1 := dec_back hS3 ho
      have h2 : decLD S = y := by rw [decLD, ho]; rfl
      rw [h2]; exact h1)
  have hPD : (decLD S).enc.size ≤ 1099511627776 := enc_size_le _
  cases hr : a.right
  · have he : a.enc = ⟨#[]⟩ := by rw [LfD.enc, hr]; rfl
    rw [hr] at C1
    rw [he] at C5
    clear he hr
    generalize hDN : (decLD S).enc = DEN at *
    clear hDN
    generalize decLE S = DE at *
    generalize decLD S = D at *
    clear hPD sa sd
    obtain ⟨L, H, N⟩ := x
    obtain ⟨A, HA, NA⟩ := a
    obtain ⟨DL, DH, DN⟩ := D
    simp only [lfV] at *
    go_enter Try.func5, Try.ntmps5
    go_upto_region 1 with fail
    have hD : Hold W (W.alloc (.cells #[.slice qa L.length ca, .string H, .int .i64 N] 24)) [rowR W.heap.size (.slice qa L.length ca) [.string H, .int .i64 N]] := (Hold.start W).madeRow (.slice qa L.length ca) [.string H, .int .i64 N] 24
    generalize W.alloc _ = w0 at *
    obtain ⟨t0, t1, t2, f0, f1, f2⟩ := RowAt.c3 (hD.get 0 rfl)
    go_upto_region 2 with ((with_reducible refine (CX.out _ (PX.out.up hD.up)).mono ?_); rintro e wn ⟨ga, ka, rfl, hs, hn, hb⟩; replace hD := hold_addSl hD hb hs hn; clear hs hn hb t0 t1 t2 f0 f1 f2; obtain ⟨t0, t1, t2, f0, f1, f2⟩ := RowAt.c3 (hD.get 0 rfl))
    clear t0 t1 t2 f0 f1 f2
    replace hD := ((hD.putRow 0 (g := W.heap.size) rfl 0 (.slice (some ⟨ga, 0, none⟩) A.length ka) (.slice (some ⟨ga, 0, none⟩) A.length ka) [.string H, .int .i64 N] (by simp) rfl).putRow 0 (g := W.heap.size) rfl 1 (.string HA) (.slice (some ⟨ga, 0, none⟩) A.length ka) [.string HA, .int .i64 N] (by simp) rfl).putRow 0 (g := W.heap.size) rfl 2 (.int .i64 NA) (.slice (some ⟨ga, 0, none⟩) A.length ka) [.string HA, .int .i64 NA] (by simp) rfl
    generalize ((wn.setCell ⟨W.heap.size, 0, none⟩ (.slice (some ⟨ga, 0, none⟩) A.length ka)).setCell ⟨W.heap.size, 1, none⟩ (.string HA)).setCell ⟨W.heap.size, 2, none⟩ (.int .i64 NA) = wb at *
    have U0 := Lib.hid hD.up
    have SA := Lib.hid (show SlAt wb (some ⟨ga, 0, none⟩) ka A from slR_sl (hD.get 1 rfl))
    have RA := Lib.hid (show RowAt wb W.heap.size [.slice (some ⟨ga, 0, none⟩) A.length ka, .string HA, .int .i64 NA] from hD.get 0 rfl)
    generalize W.heap.size = g0 at RA ⊢
    clear hD CX PX
    have hD := Hold.start wb
    go_upto_region 3 with fail
    rw [← hS]
    clear hS hs
    obtain ⟨a0, a1, a2, -⟩ := RowAt.c3 (RA.out.up hD.up)
    go_upto_region 4 with ((with_reducible refine (C5.out _ _ _ (SA.out.up hD.up).pairs).mono ?_); rintro e wn ⟨rfl, hb⟩; replace hD := hD.next hb; clear hb; clear a0 a1 a2; obtain ⟨a0, a1, a2, -⟩ := RowAt.c3 (RA.out.up hD.up))
    go_upto_region 13 with (first
      | ((with_reducible refine (C1.out _ _ _ (SA.out.up hD.up).pairs).mono ?_); rintro e wn ⟨rfl, hb⟩; replace hD := hD.next hb; clear hb; clear a0 a1 a2; obtain ⟨a0, a1, a2, -⟩ := RowAt.c3 (RA.out.up hD.up))
      | ((with_reducible refine (CD.out _).mono ?_); rintro e wd ⟨qd, kd, rfl, hs, hn, hb⟩; replace hD := hold_addSl hD hb hs hn; clear hs hn hb))
    replace hD := hD.madeRow (.slice qd DL.length kd) [.string DH, .int .i64 DN] 24
    simp only [List.nil_append, List.cons_append] at hD
    generalize wd.heap.size = g12 at *
    generalize wd.alloc _ = w12 at *
    clear a0 a1 a2
    obtain ⟨a0, a1, a2, -⟩ := RowAt.c3 (RA.out.up hD.up)
    obtain ⟨x0, x1, x2, -⟩ := RowAt.c3 (hD.get 1 rfl)
    by_cases hDE : DE = 0
    · obtain ⟨h1, h2⟩ := HB.out hDE
      subst hDE
      rw [h1] at D1
      rw [h2] at DP
      clear h1 h2 HB
      generalize padE _ _ = PE at *
      go_wp2_with (first
        | ((with_reducible refine (D5.out _ _ _ (slR_pairs (hD.get 0 rfl))).mono ?_); rintro e wn ⟨rfl, hb⟩; replace hD := hD.next hb; clear hb; clear a0 a1 a2 x0 x1 x2; obtain ⟨a0, a1, a2, -⟩ := RowAt.c3 (RA.out.up hD.up); obtain ⟨x0, x1, x2, -⟩ := RowAt.c3 (hD.get 1 rfl))
        | ((with_reducible refine (DP.out _).mono ?_); rintro e wn ⟨rfl, hb⟩; replace hD := hD.next hb; clear hb; clear a0 a1 a2 x0 x1 x2; obtain ⟨a0, a1, a2, -⟩ := RowAt.c3 (RA.out.up hD.up); obtain ⟨x0, x1, x2, -⟩ := RowAt.c3 (hD.get 1 rfl))
        | ((with_reducible refine (D1.out _ _ _ (slR_pairs (hD.get 0 rfl))).mono ?_); rintro e wn ⟨rfl, hb⟩; replace hD := hD.next hb; clear hb; clear a0 a1 a2 x0 x1 x2; obtain ⟨a0, a1, a2, -⟩ := RowAt.c3 (RA.out.up hD.up); obtain ⟨x0, x1, x2, -⟩ := RowAt.c3 (hD.get 1 rfl))
        | ((with_reducible refine (C1.out _ _ _ (SA.out.up hD.up).pairs).mono ?_); rintro e wn ⟨rfl, hb⟩; replace hD := hD.next hb; clear hb; clear a0 a1 a2 x0 x1 x2; obtain ⟨a0, a1, a2, -⟩ := RowAt.c3 (RA.out.up hD.up); obtain ⟨x0, x1, x2, -⟩ := RowAt.c3 (hD.get 1 rfl))
        | ((with_reducible refine (CG.out _).mono ?_); rintro e wn ⟨rfl, hb⟩; replace hD := hD.next hb; clear hb; clear a0 a1 a2 x0 x1 x2; obtain ⟨a0, a1, a2, -⟩ := RowAt.c3 (RA.out.up hD.up); obtain ⟨x0, x1, x2, -⟩ := RowAt.c3 (hD.get 1 rfl)))
      go_ret
      exact ⟨rfl, U0.out.trans hD.up⟩
    · go_wp2_with (first
        | ((with_reducible refine (C1.out _ _ _ (SA.out.up hD.up).pairs).mono ?_); rintro e wn ⟨rfl, hb⟩; replace hD := hD.next hb; clear hb; clear a0 a1 a2 x0 x1 x2; obtain ⟨a0, a1, a2, -⟩ := RowAt.c3 (RA.out.up hD.up); obtain ⟨x0, x1, x2, -⟩ := RowAt.c3 (hD.get 1 rfl))
        | ((with_reducible refine (CG.out _).mono ?_); rintro e wn ⟨rfl, hb⟩; replace hD := hD.next hb; clear hb; clear a0 a1 a2 x0 x1 x2; obtain ⟨a0, a1, a2, -⟩ := RowAt.c3 (RA.out.up hD.up); obtain ⟨x0, x1, x2, -⟩ := RowAt.c3 (hD.get 1 rfl)))
      go_ret
      exact ⟨rfl, U0.out.trans hD.up⟩
  · have hen := enc_small hr
    have hdp := dec_pad hr
    have CDP := Lib.hid (fun w => lfpost_open (leaf_Decode a.enc (by omega) w))
    have CDQ := Lib.hid (fun w => lfpost_open (leaf_Decode (padS a.enc 252) (by omega) w))
    have PA := Lib.hid (fun w => ref1_Pad a.enc 252 w (enc_size_le _))
    rw [show decLD a.enc = a by rw [decLD, dec_enc hr]; rfl, show decLE a.enc = 0 by rw [decLE, dec_enc hr]; rfl] at CDP
    rw [show decLD (padS a.enc 252) = a by rw [decLD, hdp.1]; rfl, show decLE (padS a.enc 252) = 0 by rw [decLE, hdp.1]; rfl] at CDQ
    rw [hr] at C1
    rw [← hen.1] at C3
    have b1 : ¬ (252 : Int) < (a.enc.size : Int) := by omega
    clear hdp hr
    generalize padS a.enc 252 = QA at *
    generalize padE a.enc 252 = QE at *
    generalize a.enc = EA at *
    generalize hDN : (decLD S).enc = DEN at *
    clear hDN
    generalize decLE S = DE at *
    generalize decLD S = D at *
    clear hPD sa sd hen
    obtain ⟨L, H, N⟩ := x
    obtain ⟨A, HA, NA⟩ := a
    obtain ⟨DL, DH, DN⟩ := D
    simp only [lfV] at *
    go_enter Try.func5, Try.ntmps5
    go_upto_region 1 with fail
    have hD : Hold W (W.alloc (.cells #[.slice qa L.length ca, .string H, .int .i64 N] 24)) [rowR W.heap.size (.slice qa L.length ca) [.string H, .int .i64 N]] := (Hold.start W).madeRow (.slice qa L.length ca) [.string H, .int .i64 N] 24
    generalize W.alloc _ = w0 at *
    obtain ⟨t0, t1, t2, f0, f1, f2⟩ := RowAt.c3 (hD.get 0 rfl)
    go_upto_region 2 with ((with_reducible refine (CX.out _ (PX.out.up hD.up)).mono ?_); rintro e wn ⟨ga, ka, rfl, hs, hn, hb⟩; replace hD := hold_addSl hD hb hs hn; clear hs hn hb t0 t1 t2 f0 f1 f2; obtain ⟨t0, t1, t2, f0, f1, f2⟩ := RowAt.c3 (hD.get 0 rfl))
    clear t0 t1 t2 f0 f1 f2
    replace hD := ((hD.putRow 0 (g := W.heap.size) rfl 0 (.slice (some ⟨ga, 0, none⟩) A.length ka) (.slice (some ⟨ga, 0, none⟩) A.length ka) [.string H, .int .i64 N] (by simp) rfl).putRow 0 (g := W.heap.size) rfl 1 (.string HA) (.slice (some ⟨ga, 0, none⟩) A.length ka) [.string HA, .int .i64 N] (by simp) rfl).putRow 0 (g := W.heap.size) rfl 2 (.int .i64 NA) (.slice (some ⟨ga, 0, none⟩) A.length ka) [.string HA, .int .i64 NA] (by simp) rfl
    generalize ((wn.setCell ⟨W.heap.size, 0, none⟩ (.slice (some ⟨ga, 0, none⟩) A.length ka)).setCell ⟨W.heap.size, 1, none⟩ (.string HA)).setCell ⟨W.heap.size, 2, none⟩ (.int .i64 NA) = wb at *
    have U0 := Lib.hid hD.up
    have SA := Lib.hid (show SlAt wb (some ⟨ga, 0, none⟩) ka A from slR_sl (hD.get 1 rfl))
    have RA := Lib.hid (show RowAt wb W.heap.size [.slice (some ⟨ga, 0, none⟩) A.length ka, .string HA, .int .i64 NA] from hD.get 0 rfl)
    generalize W.heap.size = g0 at RA ⊢
    clear hD CX PX
    have hD := Hold.start wb
    go_upto_region 3 with fail
    rw [← hS]
    clear hS hs
    obtain ⟨a0, a1, a2, -⟩ := RowAt.c3 (RA.out.up hD.up)
    go_upto_region 4 with ((with_reducible refine (C5.out _ _ _ (SA.out.up hD.up).pairs).mono ?_); rintro e wn ⟨rfl, hb⟩; replace hD := hD.next hb; clear hb; clear a0 a1 a2; obtain ⟨a0, a1, a2, -⟩ := RowAt.c3 (RA.out.up hD.up))
    go_upto_region 8 with (first
      | ((with_reducible refine (C1.out _ _ _ (SA.out.up hD.up).pairs).mono ?_); rintro e wn ⟨rfl, hb⟩; replace hD := hD.next hb; clear hb; clear a0 a1 a2; obtain ⟨a0, a1, a2, -⟩ := RowAt.c3 (RA.out.up hD.up))
      | ((with_reducible refine (C3.out _ _ _ (SA.out.up hD.up).pairs).mono ?_); rintro e wn ⟨rfl, hb⟩; replace hD := hD.next hb; clear hb; clear a0 a1 a2; obtain ⟨a0, a1, a2, -⟩ := RowAt.c3 (RA.out.up hD.up))
      | ((with_reducible refine (PA.out _).mono ?_); rintro e wn ⟨rfl, hb⟩; replace hD := hD.next hb; clear hb; clear a0 a1 a2; obtain ⟨a0, a1, a2, -⟩ := RowAt.c3 (RA.out.up hD.up)))
    go_upto_region 9 with ((with_reducible refine (CDP.out _).mono ?_); rintro e wn ⟨qp, kp, rfl, hs, hn, hb⟩; replace hD := hold_addSl hD hb hs hn; clear hs hn hb)
    replace hD := hD.madeRow (.slice qp A.length kp) [.string HA, .int .i64 NA] 24
    simp only [List.nil_append, List.cons_append] at hD
    generalize wn.heap.size = g8 at *
    generalize wn.alloc _ = w8 at *
    go_upto_region 10 with ((with_reducible refine (CDQ.out _).mono ?_); rintro e wn ⟨qq, kq, rfl, hs, hn, hb⟩; replace hD := hold_addSl hD hb hs hn; clear hs hn hb)
    replace hD := hD.madeRow (.slice qq A.length kq) [.string HA, .int .i64 NA] 24
    simp only [List.nil_append, List.cons_append] at hD
    generalize wn.heap.size = g10 at *
    generalize wn.alloc _ = w10 at *
    clear a0 a1 a2
    obtain ⟨a0, a1, a2, -⟩ := RowAt.c3 (RA.out.up hD.up)
    obtain ⟨p0, p1, p2, -⟩ := RowAt.c3 (hD.get 1 rfl)
    obtain ⟨q0, q1, q2, -⟩ := RowAt.c3 (hD.get 3 rfl)
    go_upto_region 13 with (first
      | ((with_reducible refine (C7.out _ _ _ _ _ (slR_pairs (hD.get 0 rfl)) (SA.out.up hD.up).pairs).mono ?_); rintro e wn ⟨rfl, hb⟩; replace hD := hD.next hb; clear hb; clear a0 a1 a2; obtain ⟨a0, a1, a2, -⟩ := RowAt.c3 (RA.out.up hD.up); clear p0 p1 p2 q0 q1 q2; obtain ⟨q0, q1, q2, -⟩ := RowAt.c3 (hD.get 3 rfl); have p0 := q0; have p1 := q1; have p2 := q2)
      | ((with_reducible refine (C7.out _ _ _ _ _ (slR_pairs (hD.get 2 rfl)) (SA.out.up hD.up).pairs).mono ?_); rintro e wn ⟨rfl, hb⟩; replace hD := hD.next hb; clear hb; clear p0 p1 p2 q0 q1 q2; clear a0 a1 a2; obtain ⟨a0, a1, a2, -⟩ := RowAt.c3 (RA.out.up hD.up))
      | ((with_reducible refine (CD.out _).mono ?_); rintro e wd ⟨qd, kd, rfl, hs, hn, hb⟩; replace hD := hold_addSl hD hb hs hn; clear hs hn hb))
    replace hD := hD.madeRow (.slice qd DL.length kd) [.string DH, .int .i64 DN] 24
    simp only [List.nil_append, List.cons_append] at hD
    generalize wd.heap.size = g12 at *
    generalize wd.alloc _ = w12 at *
    clear a0 a1 a2
    obtain ⟨a0, a1, a2, -⟩ := RowAt.c3 (RA.out.up hD.up)
    obtain ⟨x0, x1, x2, -⟩ := RowAt.c3 (hD.get 5 rfl)
    by_cases hDE : DE = 0
    · obtain ⟨h1, h2⟩ := HB.out hDE
      subst hDE
      rw [h1] at D1
      rw [h2] at DP
      clear h1 h2 HB
      generalize padE _ _ = PE at *
      go_wp2_with (first
        | ((with_reducible refine (D5.out _ _ _ (slR_pairs (hD.get 4 rfl))).mono ?_); rintro e wn ⟨rfl, hb⟩; replace hD := hD.next hb; clear hb; clear a0 a1 a2 x0 x1 x2; obtain ⟨a0, a1, a2, -⟩ := RowAt.c3 (RA.out.up hD.up); obtain ⟨x0, x1, x2, -⟩ := RowAt.c3 (hD.get 5 rfl))
        | ((with_reducible refine (DP.out _).mono ?_); rintro e wn ⟨rfl, hb⟩; replace hD := hD.next hb; clear hb; clear a0 a1 a2 x0 x1 x2; obtain ⟨a0, a1, a2, -⟩ := RowAt.c3 (RA.out.up hD.up); obtain ⟨x0, x1, x2, -⟩ := RowAt.c3 (hD.get 5 rfl))
        | ((with_reducible refine (D1.out _ _ _ (slR_pairs (hD.get 4 rfl))).mono ?_); rintro e wn ⟨rfl, hb⟩; replace hD := hD.next hb; clear hb; clear a0 a1 a2 x0 x1 x2; obtain ⟨a0, a1, a2, -⟩ := RowAt.c3 (RA.out.up hD.up); obtain ⟨x0, x1, x2, -⟩ := RowAt.c3 (hD.get 5 rfl))
        | ((with_reducible refine (C1.out _ _ _ (SA.out.up hD.up).pairs).mono ?_); rintro e wn ⟨rfl, hb⟩; replace hD := hD.next hb; clear hb; clear a0 a1 a2 x0 x1 x2; obtain ⟨a0, a1, a2, -⟩ := RowAt.c3 (RA.out.up hD.up); obtain ⟨x0, x1, x2, -⟩ := RowAt.c3 (hD.get 5 rfl))
        | ((with_reducible refine (CG.out _).mono ?_); rintro e wn ⟨rfl, hb⟩; replace hD := hD.next hb; clear hb; clear a0 a1 a2 x0 x1 x2; obtain ⟨a0, a1, a2, -⟩ := RowAt.c3 (RA.out.up hD.up); obtain ⟨x0, x1, x2, -⟩ := RowAt.c3 (hD.get 5 rfl)))
      go_ret
      exact ⟨rfl, U0.out.trans hD.up⟩
    · go_wp2_with (first
        | ((with_reducible refine (C1.out _ _ _ (SA.out.up hD.up).pairs).mono ?_); rintro e wn ⟨rfl, hb⟩; replace hD := hD.next hb; clear hb; clear a0 a1 a2 x0 x1 x2; obtain ⟨a0, a1, a2, -⟩ := RowAt.c3 (RA.out.up hD.up); obtain ⟨x0, x1, x2, -⟩ := RowAt.c3 (hD.get 5 rfl))
        | ((with_reducible refine (CG.out _).mono ?_); rintro e wn ⟨rfl, hb⟩; replace hD := hD.next hb; clear hb; clear a0 a1 a2 x0 x1 x2; obtain ⟨a0, a1, a2, -⟩ := RowAt.c3 (RA.out.up hD.up); obtain ⟨x0, x1, x2, -⟩ := RowAt.c3 (hD.get 5 rfl)))
      go_ret
      exact ⟨rfl, U0.out.trans hD.up⟩
end Go.Proofs.Ytdlcmbnbfghdmaa
