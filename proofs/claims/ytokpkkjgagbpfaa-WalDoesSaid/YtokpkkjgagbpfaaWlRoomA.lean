/- WalRoom: a round, in plain Lean. No program in sight. -/
import Derived.Test.YtokpkkjgagbpfaaWlPlainA
import Derived.Test.YtokpkkjgagbpfaaWlLawA
import Derived.Test.YtokpkkjgagbpfaaWlFixedA
namespace Bw
set_option linter.unusedVariables false
theorem need3 (z : Nat) : ((z : Int) + 3 + 233) / 234 = ((needW (3 + z) : Nat) : Int) := by unfold needW; omega
/-- What stands between two rounds. -/
structure RoomI (L : LogD) (d : DiskD) (n k : Nat) : Prop where
  inv : InvA L d 0
  age : L.age = 1
  wr : L.written = L.recs.length
  len : L.recs.length ≤ k
  n : d.n = n
theorem room_new {n : Nat} (h4 : 4 ≤ n) (hn : n ≤ 1024) : RoomI newL (initD n) n 0 := ⟨(open_new h4 hn).2.2, rfl, rfl, Nat.le_refl _, rfl⟩
theorem RoomI.room {L : LogD} {d : DiskD} {n k : Nat} (h : RoomI L d n k) : ∃ R : Nat, L.room d = (R : Int) ∧ R = d.halfN - L.pages := by
  have := h.inv.pH
  exact ⟨d.halfN - L.pages, by unfold LogD.room; omega, rfl⟩
theorem RoomI.write0 {L : LogD} {d : DiskD} {n k : Nat} (h : RoomI L d n k) : L.writeE = 0 ∧ RoomI L.write (L.writeD d) n (k + 1) ∧ L.write.room (L.writeD d) = L.room d := by
  obtain ⟨e1, e2, e3⟩ := write_ok' (d := d) h.inv.turned
  have hI := h.inv.write (by rw [h.age]; decide)
  have hd : L.recs.drop L.written = [] := by rw [h.wr, List.drop_length]
  rw [hd, need_zero, Nat.add_zero] at e2
  refine ⟨e1, ⟨hI, by rw [e2]; exact h.age, by rw [e2], by rw [e2]; have := h.len; show L.recs.length ≤ k + 1; omega, (writeD_n _ _).trans h.n⟩, ?_⟩
  unfold LogD.room DiskD.halfN
  rw [writeD_n, e2]
/-- A round: nothing to take; or room for it; or none. -/
theorem room_step {L : LogD} {d : DiskD} {n k R : Nat} (h : RoomI L d n k) (hR : L.room d = (R : Int)) (x : ByteArray) (hx : x.size ≤ 700) :
    (x.size = 0 ∧ L.appendE d x = 1 ∧ L.appendN d x = 0 ∧ L.append d x = L) ∨
    (1 ≤ x.size ∧ R < needW (3 + x.size) ∧ L.appendE d x = 6 ∧ L.appendN d x = 0 ∧ L.append d x = L) ∨
    (1 ≤ x.size ∧ needW (3 + x.size) ≤ R ∧ L.appendE d x = 0 ∧ L.appendN d x = (L.recs.length : Int) + 1 ∧ (L.append d x).recs.length = L.recs.length + 1 ∧ InvA (L.append d x) d 0 ∧ (L.append d x).age = 1 ∧ (L.append d x).writeE = 0 ∧ RoomI (L.append d x).write ((L.append d x).writeD d) n (k + 1) ∧ (L.append d x).write.room ((L.append d x).writeD d) = (R : Int) - (needW (3 + x.size) : Int)) := by
  have ht := h.inv.turned
  have hd : L.recs.drop L.written = [] := by rw [h.wr, List.drop_length]
  have hf : (frameL (L.recs.drop L.written ++ [x])).length = 3 + x.size := by rw [hd, List.nil_append, frame_len, one_frame]
  by_cases h0 : x.size = 0
  · have hw : L.why x = 1 := by unfold LogD.why; rw [if_pos (.inl h0)]
    have hE : L.appendE d x = 1 := by unfold LogD.appendE; rw [hw, if_pos (by decide)]
    refine .inl ⟨h0, hE, ?_, append_no (by rw [hE]; decide)⟩
    unfold LogD.appendN; rw [if_neg (by rw [hE]; decide)]
  · have hw : L.why x = 0 := by unfold LogD.why; rw [if_neg (by omega), if_neg (fun e => e ht)]
    by_cases h1 : R < needW (3 + x.size)
    · have hE : L.appendE d x = 6 := by unfold LogD.appendE; rw [if_neg (fun e => e hw), hf, hR, if_pos (by omega)]
      refine .inr (.inl ⟨by omega, h1, hE, ?_, append_no (by rw [hE]; decide)⟩)
      unfold LogD.appendN; rw [if_neg (by rw [hE]; decide)]
    · have hE : L.appendE d x = 0 := by unfold LogD.appendE; rw [if_neg (fun e => e hw), hf, hR, if_neg (by omega)]
      have hL := append_ok hE
      have hI := h.inv.append x
      have hag : (L.append d x).age = 1 := by rw [hL]; exact h.age
      have hIw := hI.write (by rw [hag]; decide)
      obtain ⟨e1, e2, e3⟩ := write_ok' (l := L.append d x) (d := d) hI.turned
      have hN : needW (frameW ((L.append d x).recs.drop (L.append d x).written)).size = needW (3 + x.size) := by
        rw [hL]
        show needW (frameW ((L.recs ++ [x]).drop L.written)).size = _
        rw [List.drop_append_of_le_length (by rw [h.wr]; exact Nat.le_refl _), hd, List.nil_append, one_frame]
      rw [hN] at e2
      have hlen : (L.append d x).recs.length = L.recs.length + 1 := by rw [hL]; simp
      refine .inr (.inr ⟨by omega, by omega, hE, ?_, hlen, hI, hag, e1, ⟨hIw, by rw [e2]; exact hag, by rw [e2], ?_, (writeD_n _ _).trans h.n⟩, ?_⟩)
      · unfold LogD.appendN; rw [if_pos hE]; omega
      · rw [e2]
        show (L.append d x).recs.length ≤ k + 1
        rw [hlen]; have := h.len; omega
      · have hp : (L.append d x).pages = L.pages := by rw [hL]
        unfold LogD.room DiskD.halfN at *
        rw [writeD_n, e2]
        show ((d.n / 2 : Nat) : Int) - (((L.append d x).pages + needW (3 + x.size) : Nat) : Int) = _
        rw [hp]; omega
end Bw
namespace Go.Proofs.Ytokpkkjgagbpfaa
open Go.RowKit Bw
set_option linter.unusedVariables false
variable {W w : World} {g a c gl cl n k : Nat} {q : Option Nat} {ql : Option Addr} {d d' : DiskD} {L L' : LogD} {rest : List Res}
theorem rRoom (R : Int) (h : Hold W w (trio g a q c d gl L ql cl rest)) (hok : d.Ok) (hp : L.pages ≤ 1000000) (hR : L.room d = R) :
    Calls Try.prog 34 #[.pointer (some ⟨gl, 0, none⟩)] w fun e w' => e = .returned (.int .i64 R) ∧ Hold W w' (trio g a q c d gl L ql cl rest) := by
  subst hR; exact tRoom h hok hp
theorem rRec (m : Nat) (h : Hold W w (trio g a q c d gl L ql cl rest)) (hn : L.recs.length ≤ 90000) (hm : L.recs.length = m) :
    Calls Try.prog 28 #[.pointer (some ⟨gl, 0, none⟩)] w fun e w' => ∃ qr cr, e = .returned (.slice qr m cr) ∧ Hold W w' (trio g a q c d gl L ql cl rest) := by
  subst hm
  exact (tRecords h hn).mono fun e w' ⟨qr, cr, he, _, hh⟩ => ⟨qr, cr, he, hh.sub (.cons_cons _ (.cons_cons _ (.cons_cons _ (.cons _ (List.Sublist.refl _)))))⟩
theorem roomI_small {L : LogD} {d : DiskD} {n k : Nat} (h : RoomI L d n k) : L.pages ≤ 1000000 := by
  have := h.inv.pH
  have := h.inv.ok.n2
  unfold DiskD.halfN at *
  omega
namespace room
set_option maxHeartbeats 4000000 in
set_option maxRecDepth 100000 in
theorem law (P : Int) (ss : List ByteArray) (qs : Option Addr) (cs : Nat) (W : World) (hT : TextsIn W qs ss) :
    Calls Try.prog 7 #[.int .i64 P, .slice qs ss.length cs] W fun e w' => e = .returned (.bool true) ∧ Below W.heap.size W w' := by
  have hD := Hold.start W
  obtain ⟨m0, hm, hm16⟩ : ∃ m : Nat, bits .and .i64 P 15 = (m : Int) ∧ m < 16 := by
    have h1 := Int.emod_nonneg P (show (16 : Int) ≠ 0 by omega)
    have h2 := Int.emod_lt_of_pos P (show (0 : Int) < 16 by omega)
    exact ⟨(P % 16).toNat, by rw [bits_15]; omega, by omega⟩
  have CX := Lib.hid law6_fixed
  have hlen := hT.1
  unfold maxLen at hlen
  have HT := Lib.hid hT
  generalize hnl : ss.length = n1 at *
  have HNL := Lib.hid hnl
  clear hnl hT
  go_enter Try.func7, Try.ntmps7
  have e1 : (4 : Int) + (m0 : Int) = ((4 + m0 : Nat) : Int) := by omega
  have hn1 : 4 ≤ 4 + m0 := by omega
  have hn16 : 4 + m0 ≤ 19 := by omega
  have N1 := Lib.hid (show Calls Try.prog 10 #[.int .i64 ((4 : Int) + (m0 : Int))] W _ from e1 ▸ tNew (4 + m0) (by omega) (by omega) hD)
  clear e1
  generalize hnn : 4 + m0 = n at *
  clear hnn
  obtain ⟨o1, o2, -⟩ := open_new hn1 (show n ≤ 1024 by omega)
  have O1 := Lib.hid o1
  have O2 := Lib.hid o2
  clear o1 o2
  go_upto_region 2 with ((with_reducible refine N1.out.mono ?_); rintro e w1 ⟨g, a, rfl, hw⟩; clear hD; have hD := hw; clear hw N1)
  go_upto_region 5 with ((with_reducible refine (pOpen hD (by omega) (initD_ok (by omega) (by omega)) O1.out O2.out).mono ?_); rintro e w2 ⟨gl, rfl, ql, cl, hw⟩; clear hD; have hD := hw; clear hw)
  go_wp2_with fail
  go_loopw [9] (fun v9 wr => ∃ (k c : Nat) (q : Option Nat) (L : LogD) (d : DiskD) (ql : Option Addr) (cl : Nat), v9 = .int .i64 (k : Int) ∧ k ≤ n1 ∧ k ≤ 30 ∧ c ≤ 1000 * k ∧ RoomI L d n k ∧ Hold W wr (trio g a q c d gl L ql cl [])) (fun v _ => n1 - (intOf v).toNat)
  case atStart => exact ⟨0, 0, none, newL, initD n, ql, cl, rfl, by omega, by omega, by omega, room_new hn1 (by omega), hD⟩
  case round =>
  clear hD
  obtain ⟨k, c, q, L, d, ql, cl, rfl, hk, hk30, hc, hI, hD⟩ := hrel
  by_cases hkn : k < n1 ∧ k < 30
  · obtain ⟨hk1, hk2⟩ := hkn
    have j1 : (k : Int) < (n1 : Int) := by omega
    have j2 : (k : Int) < 30 := by omega
    have hkl : k < ss.length := by rw [HNL.out]; exact hk1
    obtain ⟨gs, os, rfl, hcell⟩ := (HT.out.up hD.up).2.2 k hkl
    have hsz := HT.out.2.1 _ (List.getElem_mem hkl)
    unfold maxLen at hsz
    have hx700 := cutB_size 700 ss[k]
    have HX := Lib.hid (show ss[k].extract 0 (min (ss[k].size : Int) 700).toNat = cutB 700 ss[k] from cutB_min 700 ss[k])
    have m0' : (0 : Int) ≤ min (ss[k].size : Int) 700 := by omega
    have m1' : min (ss[k].size : Int) 700 ≤ (ss[k].size : Int) := by omega
    generalize cutB 700 ss[k] = X at *
    generalize ss[k]'hkl = x at *
    obtain ⟨R, hR, hRb⟩ := hI.room
    have hR512 : R ≤ 512 := by have := hI.inv.ok.n2; unfold DiskD.halfN at hRb; omega
    clear hRb
    have hstep := room_step hI hR X (by omega)
    have hQ := need3 X.size
    obtain ⟨m, hm2⟩ : ∃ m, L.recs.length = m := ⟨_, rfl⟩
    have hlen2 := hI.len
    rw [hm2] at hstep
    have HLm := Lib.hid hm2
    have HLn := Lib.hid (show L.recs.length ≤ 90000 by omega)
    have HR := Lib.hid hR
    have HSm := Lib.hid (roomI_small hI)
    have HFit := Lib.hid (fun c (hc : c ≤ 100000) => hI.inv.fit (c := c) (by omega) (by rw [hI.age]; decide) (by omega))
    have hXz : X.size ≤ 700 := by omega
    generalize needW (3 + X.size) = ND at *
    have HQ := Lib.hid hQ
    obtain ⟨hw0, hI2, hRm2⟩ := hI.write0
    rw [hR] at hRm2
    have HW0 := Lib.hid hw0
    have HI2 := Lib.hid hI2
    have HRm2 := Lib.hid hRm2
    clear hx700 hR hQ hm2 hw0 hI2 hRm2 hkl hlen2
    rcases hstep with ⟨hz, hs⟩ | ⟨hz, hlt, hs⟩ | ⟨hz, hle, hs⟩
    · have hb := ba_empty hz
      have HS := Lib.hid hs
      clear hs
      subst hb
      go_upto_region 10 with fail
      refine wp_region_later (by kernel_rfl) (by kernel_rfl) ?_
      have lc := Later.cell_of hcell
      have hne := later_ne wr
      repeat (go_big_quiet_step (fail))
      refine wpQuiet_nil ?_
      rintro w9 ⟨u9, rfl⟩
      replace hD := hD.next u9.up
      clear lc hne hcell m0' m1'
      generalize u9.world = w9 at *
      rw [HX.out]
      generalize min (x.size : Int) 700 = mm at *
      go_upto_region 12 with (first
        | ((with_reducible refine calls_at 34 ?_); (with_reducible refine (rRoom (R : Int) hD hI.inv.ok HSm.out HR.out).mono ?_); rintro e w10 ⟨rfl, hw⟩; clear hD; have hD := hw; clear hw)
        | ((with_reducible refine calls_at 28 ?_); (with_reducible refine (rRec m hD HLn.out HLm.out).mono ?_); rintro e w11 ⟨qr, cr, rfl, hw⟩; clear hD; have hD := hw; clear hw))
      go_upto_region 14 with (first
        | ((with_reducible refine calls_at 14 ?_); (with_reducible refine (pAppend _ 0 1 hD (HFit.out c (by omega)) (by omega) HS.out.2.2 HS.out.2.1 HS.out.1).mono ?_); rintro e w12 ⟨rfl, ql12, cl12, hw⟩; clear hD; have hD := hw; clear hw))
      try rw [HQ.out]
      have hR0 : ¬ (R : Int) < 0 := by omega
      go_wp2_with (first
        | ((with_reducible refine calls_at 28 ?_); (with_reducible refine (rRec m hD HLn.out HLm.out).mono ?_); rintro e w15 ⟨qr2, cr2, rfl, hw⟩; clear hD; have hD := hw; clear hw)
        | ((with_reducible refine calls_at 16 ?_); (with_reducible refine (pWrite 0 hD (HFit.out c (by omega)) rfl rfl HW0.out).mono ?_); rintro e w13 ⟨rfl, q13, c13, hc13, hw⟩; clear hD; have hD := hw; clear hw)
        | ((with_reducible refine calls_at 34 ?_); (with_reducible refine (rRoom (R : Int) hD HI2.out.inv.ok (roomI_small HI2.out) HRm2.out).mono ?_); rintro e w14 ⟨rfl, hw⟩; clear hD; have hD := hw; clear hw))
      exact ⟨⟨k + 1, c13, q13, _, _, ql12, cl12, rfl, by omega, by omega, by omega, HI2.out, hD⟩, by simp [intOf]; omega⟩
    · have hne0 : X.toList.isEmpty = false := str_nonempty (by omega)
      have hne1 : ¬ X.toList = [] := by intro h; rw [h] at hne0; cases hne0
      have hle' : ¬ (ND : Int) ≤ (R : Int) := by omega
      have HS := Lib.hid hs
      clear hs
      go_upto_region 10 with fail
      refine wp_region_later (by kernel_rfl) (by kernel_rfl) ?_
      have lc := Later.cell_of hcell
      have hne := later_ne wr
      repeat (go_big_quiet_step (fail))
      refine wpQuiet_nil ?_
      rintro w9 ⟨u9, rfl⟩
      replace hD := hD.next u9.up
      clear lc hne hcell m0' m1'
      generalize u9.world = w9 at *
      rw [HX.out]
      generalize min (x.size : Int) 700 = mm at *
      go_upto_region 12 with (first
        | ((with_reducible refine calls_at 34 ?_); (with_reducible refine (rRoom (R : Int) hD hI.inv.ok HSm.out HR.out).mono ?_); rintro e w10 ⟨rfl, hw⟩; clear hD; have hD := hw; clear hw)
        | ((with_reducible refine calls_at 28 ?_); (with_reducible refine (rRec m hD HLn.out HLm.out).mono ?_); rintro e w11 ⟨qr, cr, rfl, hw⟩; clear hD; have hD := hw; clear hw))
      go_upto_region 14 with (first
        | ((with_reducible refine calls_at 14 ?_); (with_reducible refine (pAppend _ 0 6 hD (HFit.out c (by omega)) (by omega) HS.out.2.2 HS.out.2.1 HS.out.1).mono ?_); rintro e w12 ⟨rfl, ql12, cl12, hw⟩; clear hD; have hD := hw; clear hw))
      try rw [HQ.out]
      have hR0 : ¬ (R : Int) < 0 := by omega
      go_wp2_with (first
        | ((with_reducible refine calls_at 28 ?_); (with_reducible refine (rRec m hD HLn.out HLm.out).mono ?_); rintro e w15 ⟨qr2, cr2, rfl, hw⟩; clear hD; have hD := hw; clear hw)
        | ((with_reducible refine calls_at 16 ?_); (with_reducible refine (pWrite 0 hD (HFit.out c (by omega)) rfl rfl HW0.out).mono ?_); rintro e w13 ⟨rfl, q13, c13, hc13, hw⟩; clear hD; have hD := hw; clear hw)
        | ((with_reducible refine calls_at 34 ?_); (with_reducible refine (rRoom (R : Int) hD HI2.out.inv.ok (roomI_small HI2.out) HRm2.out).mono ?_); rintro e w14 ⟨rfl, hw⟩; clear hD; have hD := hw; clear hw))
      exact ⟨⟨k + 1, c13, q13, _, _, ql12, cl12, rfl, by omega, by omega, by omega, HI2.out, hD⟩, by simp [intOf]; omega⟩
    · have hne0 : X.toList.isEmpty = false := str_nonempty (by omega)
      have hne1 : ¬ X.toList = [] := by intro h; rw [h] at hne0; cases hne0
      have hle' : (ND : Int) ≤ (R : Int) := by omega
      have hlt0 : ¬ (R : Int) - (ND : Int) < 0 := by omega
      have HLT0 := Lib.hid hlt0
      clear hlt0
      obtain ⟨s1, s2, s3, s4, s5, s6, s7, s8⟩ := hs
      obtain ⟨L1, hL1⟩ : ∃ L1, L.append d X = L1 := ⟨_, rfl⟩
      rw [hL1] at s3 s4 s5 s6 s7 s8
      have hlm := hI.len
      rw [HLm.out] at hlm
      have HFit3 := Lib.hid (fun c (hc : c ≤ 100000) => s4.fit (c := c) (by omega) (by rw [s5]; decide) (by rw [s3]; omega))
      have HW3 := Lib.hid s6
      have HI3 := Lib.hid s7
      have HR3 := Lib.hid s8
      have HS := Lib.hid (show L.appendE d X = 0 ∧ L.appendN d X = (m : Int) + 1 ∧ L.append d X = L1 from ⟨s1, s2, hL1⟩)
      clear s1 s2 s3 s4 s5 s6 s7 s8 hL1
      go_upto_region 10 with fail
      refine wp_region_later (by kernel_rfl) (by kernel_rfl) ?_
      have lc := Later.cell_of hcell
      have hne := later_ne wr
      repeat (go_big_quiet_step (fail))
      refine wpQuiet_nil ?_
      rintro w9 ⟨u9, rfl⟩
      replace hD := hD.next u9.up
      clear lc hne hcell m0' m1'
      generalize u9.world = w9 at *
      rw [HX.out]
      generalize min (x.size : Int) 700 = mm at *
      go_upto_region 12 with (first
        | ((with_reducible refine calls_at 34 ?_); (with_reducible refine (rRoom (R : Int) hD hI.inv.ok HSm.out HR.out).mono ?_); rintro e w10 ⟨rfl, hw⟩; clear hD; have hD := hw; clear hw)
        | ((with_reducible refine calls_at 28 ?_); (with_reducible refine (rRec m hD HLn.out HLm.out).mono ?_); rintro e w11 ⟨qr, cr, rfl, hw⟩; clear hD; have hD := hw; clear hw))
      go_upto_region 14 with (first
        | ((with_reducible refine calls_at 14 ?_); (with_reducible refine (pAppend _ ((m : Int) + 1) 0 hD (HFit.out c (by omega)) (by omega) HS.out.2.2 HS.out.2.1 HS.out.1).mono ?_); rintro e w12 ⟨rfl, ql12, cl12, hw⟩; clear hD; have hD := hw; clear hw))
      try rw [HQ.out]
      go_upto_region 16 with fail
      have hlt0 := HLT0.out
      clear hle'
      go_wp2_with (first
        | ((with_reducible refine calls_at 16 ?_); (with_reducible refine (pWrite 0 hD (HFit3.out c (by omega)) rfl rfl HW3.out).mono ?_); rintro e w13 ⟨rfl, q13, c13, hc13, hw⟩; clear hD; have hD := hw; clear hw)
        | ((with_reducible refine calls_at 34 ?_); (with_reducible refine (rRoom ((R : Int) - (ND : Int)) hD HI3.out.inv.ok (roomI_small HI3.out) HR3.out).mono ?_); rintro e w14 ⟨rfl, hw⟩; clear hD; have hD := hw; clear hw))
      exact ⟨⟨k + 1, c13, q13, _, _, ql12, cl12, rfl, by omega, by omega, by omega, HI3.out, hD⟩, by simp [intOf]; omega⟩
  · have hkk : k = n1 ∨ k = 30 := by omega
    rcases Nat.lt_or_ge k n1 with hlt | hge
    · have j1 : (k : Int) < (n1 : Int) := by omega
      have j2 : ¬ (k : Int) < 30 := by omega
      clear hI
      go_wp2_with ((with_reducible refine (CX.out _).mono ?_); rintro e w9 ⟨rfl, hu⟩)
      go_ret
      exact ⟨rfl, hD.up.trans hu⟩
    · have j1 : ¬ (k : Int) < (n1 : Int) := by omega
      clear hI
      go_wp2_with ((with_reducible refine (CX.out _).mono ?_); rintro e w9 ⟨rfl, hu⟩)
      go_ret
      exact ⟨rfl, hD.up.trans hu⟩
end room
end Go.Proofs.Ytokpkkjgagbpfaa
namespace Go.Proofs.Ytokpkkjgagbpfaa.room
open Go.RowKit Bw
theorem row (P : Int) (_w0 : (Lit.int .i64 P).wf = true) (ss : List ByteArray) (qs : Option Addr) (cs : Nat) (W : World) (hT : TextsIn W qs ss) :
    Calls Try.prog 7 #[.int .i64 P, .slice qs ss.length cs] W fun e w' => e = .returned (.bool true) ∧ Below W.heap.size W w' := law P ss qs cs W hT
end Go.Proofs.Ytokpkkjgagbpfaa.room
