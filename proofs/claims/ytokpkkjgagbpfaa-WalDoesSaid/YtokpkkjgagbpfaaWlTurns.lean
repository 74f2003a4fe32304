/- WalTurns: the walk. -/
import Derived.Test.YtokpkkjgagbpfaaWlSure
namespace Bw
set_option linter.unusedVariables false
def xBetween : ByteArray := ⟨#[98, 101, 116, 119, 101, 101, 110]⟩
theorem InvA.write_low {l : LogD} {d : DiskD} {s : Nat} (h : InvA l d s) : ∀ i, i < l.pages → rdR (l.writeD d) l.which i = rdR d l.which i := fun i hi => by
  obtain ⟨-, -, e3⟩ := write_ok' (d := d) h.turned
  have hfit := h.fits
  have hw1 := h.w1
  have hlay : LayIs d (l.writeD d) l.age l.which l.pages (frameW (l.recs.drop l.written)) (needW (frameW (l.recs.drop l.written)).size) := by
    rw [e3]; unfold layD; exact lay_is l.age _ hw1 _ hfit
  have hpg : pg (l.writeD d) l.which i = pg d l.which i := pg_same hlay.n _ _
  unfold rdR
  rw [hpg, hlay.rest _ fun t ht e => by
    obtain ⟨-, e5⟩ := pg_inj (d := d) hw1 hw1 (by omega) (by omega) e
    omega]
theorem write_which {l : LogD} : l.write.which = l.which ∧ l.write.age = l.age ∧ l.write.sure = l.sure ∧ l.write.turned = l.turned := by
  unfold LogD.write; split <;> exact ⟨rfl, rfl, rfl, rfl⟩
/-- The first calls of a round. -/
structure Turn1 (L : LogD) (d : DiskD) (L1 L2 : LogD) (d2 : DiskD) (L3 : LogD) (d3 : DiskD) : Prop where
  e1 : L.append d xBetween = L1
  e2 : L1.write = L2 ∧ L1.writeD d = d2 ∧ L1.writeE = 0
  e3 : L2.sync = L3 ∧ d2.syncD = d3
  i1 : ∃ s, InvA L1 d s ∧ InvA L2 d2 s ∧ InvA L3 d3 L2.pages
  a : L1.age = L.age ∧ L2.age = L.age ∧ L3.age = L.age
  n : d3.n = d.n
  r : L1.recs.length ≤ L.recs.length + 1 ∧ L2.recs = L1.recs ∧ L3.recs = L1.recs
  s : L3.sure = L3.recs.length
theorem turn_1 {L : LogD} {d : DiskD} {s : Nat} (h : InvA L d s) (ha : L.age < 1000) : ∃ L1 L2 d2 L3 d3, Turn1 L d L1 L2 d2 L3 d3 := by
  have i1 := h.append xBetween
  obtain ⟨b1, b2, b3, b4, b5, b6⟩ := append_age (L := L) (d := d) xBetween
  have rr := append_recs (L := L) (d := d) xBetween
  obtain ⟨L1, hL1⟩ : ∃ L1, L.append d xBetween = L1 := ⟨_, rfl⟩
  rw [hL1] at i1 b1 rr
  obtain ⟨w1, w2, w3⟩ := write_ok' (d := d) i1.turned
  have i2 := i1.write (by omega)
  obtain ⟨c1, c2, c3, c4⟩ := write_which (l := L1)
  have wr2 : L1.write.written = L1.recs.length := by rw [w2]
  have i3 := i2.sync
  have s2 := sync_no i2.turned
  refine ⟨L1, _, _, _, _, hL1, ⟨rfl, rfl, w1⟩, ⟨rfl, rfl⟩, ⟨s, i1, i2, i3⟩, ⟨b1, by omega, by rw [s2]; show L1.write.age = L.age; omega⟩, writeD_n _ _, ⟨?_, write_recs L1, by rw [s2]; exact write_recs L1⟩, ?_⟩
  · rcases rr with e | e <;> rw [e]
    · omega
    · simp
  · rw [s2]
    show L1.write.written = L1.write.recs.length
    rw [wr2, write_recs]
/-- The other calls of a round. -/
structure Turn2 (L : LogD) (d : DiskD) (X : ByteArray) (F : List Int) (L4 : LogD) (d4 : DiskD) (L5 : LogD) (d5 : DiskD) (L6 L7 : LogD) (d7 d8 : DiskD) (R : LogD) : Prop where
  e4 : L.turn d X = L4 ∧ L.turnD d X = d4 ∧ L.turnE d X = 0
  e5 : L4.sync = L5 ∧ d4.syncD = d5
  e6 : L5.append d5 xLost = L6
  e7 : L6.write = L7 ∧ L6.writeD d5 = d7 ∧ L6.writeE = 0
  e8 : d7.crashD F = d8
  e9 : openLE d8 = 0 ∧ openL d8 = R
  i : InvB L4 d4 ∧ ∃ s, InvA L5 d5 s ∧ InvA L6 d5 s ∧ InvA L7 d7 s ∧ InvA R d8 R.pages
  a : L4.age = L.age + 1 ∧ L5.age = L.age + 1 ∧ L6.age = L.age + 1 ∧ L7.age = L.age + 1 ∧ L.age + 1 < R.age ∧ R.age ≤ L.age + 2
  w : L4.which = L.which ∧ R.which = 1 - L.which
  n : d8.n = d.n
  r : L4.recs.length = L.recs.length ∧ L5.recs.length = 1 ∧ L6.recs.length ≤ 2 ∧ ∃ r, R.recs = X :: r ∧ r.length ≤ 1
theorem turn_2 {L : LogD} {d : DiskD} {s : Nat} (h : InvA L d s) (ha : L.age < 1000) (hs : L.sure = L.recs.length) (hn : d.n = 80) {X : ByteArray} (h1 : 1 ≤ X.size) (h7 : X.size ≤ 700) (F : List Int) :
    ∃ L4 d4 L5 d5 L6 L7 d7 d8 R, Turn2 L d X F L4 d4 L5 d5 L6 L7 d7 d8 R := by
  have hE : L.turnE d X = 0 := by
    have hw : L.why X = 0 := by unfold LogD.why; rw [if_neg (by omega), if_neg (fun e => e h.turned)]
    unfold LogD.turnE
    rw [if_neg (fun e => e hw), if_neg (by omega), if_neg]
    rw [frame_len, one_frame]
    unfold needW DiskD.halfN
    omega
  obtain ⟨t1, t2⟩ := turn_ok hE
  have iB := h.turn hE
  obtain ⟨L4, hL4⟩ : ∃ L4, L.turn d X = L4 := ⟨_, rfl⟩
  obtain ⟨d4, hd4⟩ : ∃ d4, L.turnD d X = d4 := ⟨_, rfl⟩
  have n4 : d4.n = 80 := by rw [← hd4, turnD_n, hn]
  rw [hL4, hd4] at iB
  rw [hL4] at t1
  have a4 : L4.age = L.age + 1 := by rw [t1]
  have w4 : L4.which = L.which := by rw [t1]
  have tu4 : L4.turned = X := by rw [t1]
  have r4 : L4.recs = L.recs := by rw [t1]
  have i5 := iB.sync (by omega)
  have sa := iB.sync_age (by omega)
  have s5 := sync_yes iB.t1
  rw [tu4, w4, a4] at s5
  have N1 := iB.need1
  rw [tu4] at i5 sa N1
  obtain ⟨L5, hL5⟩ : ∃ L5, L4.sync = L5 := ⟨_, rfl⟩
  obtain ⟨d5, hd5⟩ : ∃ d5, d4.syncD = d5 := ⟨_, rfl⟩
  have n5 : d5.n = 80 := by rw [← hd5]; exact n4
  rw [hL5, hd5] at i5 sa
  rw [hL5] at s5
  have a5 : L5.age = L.age + 1 := by rw [s5]
  have w5 : L5.which = 1 - L.which := by rw [s5]
  have r5 : L5.recs = [X] := by rw [s5]
  have su5 : L5.sure = 1 := by rw [s5]
  have p5 : L5.pages = needW (frameW [X]).size := by rw [s5]
  have i6 := i5.append xLost
  obtain ⟨b1, b2, b3, b4, b5, b6⟩ := append_age (L := L5) (d := d5) xLost
  have rr6 := append_recs (L := L5) (d := d5) xLost
  obtain ⟨L6, hL6⟩ : ∃ L6, L5.append d5 xLost = L6 := ⟨_, rfl⟩
  rw [hL6] at i6 b1 b2 b3 b4 b5 b6 rr6
  rw [r5] at rr6
  obtain ⟨v1, v2, v3⟩ := write_ok' (d := d5) i6.turned
  have i7 := i6.write (by omega)
  obtain ⟨c1, c2, c3, c4⟩ := write_which (l := L6)
  have wr7 : L6.write.written = L6.recs.length := by rw [v2]
  have cr := i7.crash F (by omega)
  obtain ⟨x, hx⟩ := cr.pre
  rw [wr7, write_recs, List.take_length] at hx
  have hsu := cr.sure
  rw [c3, b3, su5] at hsu
  have hlen := congrArg List.length hx
  rw [List.length_append] at hlen
  have hl6 : L6.recs.length ≤ 2 := by rcases rr6 with e | e <;> (have := congrArg List.length e; simp at this; omega)
  have hage := cr.age_gt N1
  have hst : (stN (rdR (L6.writeD d5) L6.write.which) (needW (frameW [X]).size)).age = L.age + 1 := by
    rw [c1]
    rw [stN_congr (rd' := rdR d5 L6.which) fun k hk => i6.write_low k (by rw [b6, p5]; exact hk)]
    rw [b5, sa, a4]
  rw [hst] at hage
  have hle := cr.age_le
  rw [c2, b1, a5] at hle
  refine ⟨L4, d4, L5, d5, L6, _, _, _, _, ⟨hL4, hd4, hE⟩, ⟨hL5, hd5⟩, hL6, ⟨rfl, rfl, v1⟩, rfl, ⟨cr.openE, rfl⟩, ⟨iB, _, i5, i6, i7, cr.inv⟩, ⟨a4, a5, by omega, by omega, hage, by omega⟩, ⟨w4, ?_⟩, ?_, ⟨by rw [r4], by rw [r5]; rfl, hl6, ?_⟩⟩
  · have := cr.which
    rw [c1, b5, w5] at this
    exact this
  · show (L6.writeD d5).n = d.n
    rw [writeD_n, n5, hn]
  · cases hR : (openL ((L6.writeD d5).crashD F)).recs with
    | nil => rw [hR] at hsu; simp at hsu
    | cons y r =>
      rw [hR] at hx hlen
      have hy : y = X := by
        rcases rr6 with e | e <;> rw [e] at hx <;> simp at hx <;> exact hx.1.symm
      rw [hy]
      refine ⟨r, rfl, ?_⟩
      rw [List.length_cons] at hlen
      omega
end Bw
namespace Go.Proofs.Ytokpkkjgagbpfaa
open Go.RowKit Bw
set_option linter.unusedVariables false
variable {W w : World} {g a c gl cl : Nat} {q : Option Nat} {ql : Option Addr} {d d' : DiskD} {L L' : LogD} {rest l : List Res}
theorem pHalf (v : Int) (h : Hold W w (trio g a q c d gl L ql cl rest)) (hv : (L.which : Int) = v) :
    Calls Try.prog 31 #[.pointer (some ⟨gl, 0, none⟩)] w fun e w' => e = .returned (.int .i64 v) ∧ w = w' := by subst hv; exact tHalf h
theorem pAge (v : Int) (h : Hold W w (trio g a q c d gl L ql cl rest)) (hv : L.age = v) :
    Calls Try.prog 32 #[.pointer (some ⟨gl, 0, none⟩)] w fun e w' => e = .returned (.int .i64 v) ∧ w = w' := by subst hv; exact tAge h
namespace turns
set_option maxHeartbeats 4000000 in
set_option maxRecDepth 100000 in
theorem law (ss : List ByteArray) (qs : Option Addr) (cs : Nat) (fs : List Int) (qf : Option Addr) (cf : Nat) (W : World) (hT : TextsIn W qs ss) (hF : fs.length ≤ cf ∧ IntsIn W qf fs) :
    Calls Try.prog 5 #[.slice qs ss.length cs, .slice qf fs.length cf] W fun e w' => e = .returned (.bool true) ∧ Below W.heap.size W w' := by
  have hD := Hold.start W
  have CX := Lib.hid law6_fixed
  have hlen := hT.1
  have hfl := hF.2.1
  unfold maxLen at hlen hfl
  have HT := Lib.hid hT
  obtain ⟨M, hM⟩ : ∃ M, min fs.length 60 = M := ⟨_, rfl⟩
  have HFI := Lib.hid (ints_take hF.2.2.2 M)
  have HFM := Lib.hid (show (fs.take M).length = M by rw [List.length_take]; omega)
  have hsl := fun w => slice_ints qf fs.length cf M (by omega) w
  have hMI : min (fs.length : Int) 60 = (M : Int) := by omega
  have hM60 : M ≤ 60 := by omega
  clear hF hM
  generalize hfn : fs.length = n2 at *
  generalize fs.take M = FS at *
  clear hfn
  have HSL := Lib.hid hsl
  have HMI := Lib.hid hMI
  clear hsl hMI
  generalize hnl : ss.length = n1 at *
  have HNL := Lib.hid hnl
  clear hnl hT
  obtain ⟨o1, o2, o3⟩ := open_new (n := 80) (by omega) (by omega)
  have O1 := Lib.hid o1
  have O2 := Lib.hid o2
  have O3 := Lib.hid o3
  clear o1 o2 o3
  have N1 := Lib.hid (show Calls Try.prog 10 #[.int .i64 80] W _ from tNew 80 (by omega) (by omega) hD)
  go_enter Try.func5, Try.ntmps5
  go_upto_region 2 with ((with_reducible refine N1.out.mono ?_); rintro e w1 ⟨g, a, rfl, hw⟩; clear hD; have hD := hw; clear hw N1)
  go_upto_region 5 with ((with_reducible refine (pOpen hD (by omega) (initD_ok (by omega) (by omega)) O1.out O2.out).mono ?_); rintro e w2 ⟨gl, rfl, ql, cl, hw⟩; clear hD; have hD := hw; clear hw)
  go_wp2_with fail
  go_loopw [7, 8, 9] (fun v7 v8 v9 wr => ∃ (k c s gl : Nat) (q : Option Nat) (L : LogD) (d : DiskD) (ql : Option Addr) (cl : Nat), v7 = .pointer (some ⟨gl, 0, none⟩) ∧ v8 = .int .i64 0 ∧ v9 = .int .i64 (k : Int) ∧ k ≤ n1 ∧ k ≤ 10 ∧ c ≤ 3000 * k ∧ InvA L d s ∧ L.age ≤ 1 + 2 * (k : Int) ∧ L.recs.length ≤ 2 + k ∧ d.n = 80 ∧ Hold W wr (trio g a q c d gl L ql cl [])) (fun _ _ v _ => n1 - (intOf v).toNat)
  case atStart => exact ⟨0, 0, 0, gl, none, newL, initD 80, ql, cl, rfl, rfl, rfl, by omega, by omega, by omega, O3.out, by decide, by decide, rfl, hD⟩
  case round =>
  clear hD
  obtain ⟨k, c, s, gl, q, L, d, ql, cl, rfl, rfl, rfl, hk, hk10, hc, hI, hage, hlk, hdn, hD⟩ := hrel
  by_cases hkn : k < n1 ∧ k < 10
  · obtain ⟨hk1, hk2⟩ := hkn
    have j1 : (k : Int) < (n1 : Int) := by omega
    have j2 : (k : Int) < 10 := by omega
    have hkl : k < ss.length := by rw [HNL.out]; exact hk1
    obtain ⟨gs, os, rfl, hcell⟩ := (HT.out.up hD.up).2.2 k hkl
    have hsz := HT.out.2.1 _ (List.getElem_mem hkl)
    unfold maxLen at hsz
    have hx700 := cutB_size 700 ss[k]
    have HX := Lib.hid (show ss[k].extract 0 (min (ss[k].size : Int) 700).toNat = cutB 700 ss[k] from cutB_min 700 ss[k])
    have m0' : (0 : Int) ≤ min (ss[k].size : Int) 700 := by omega
    have m1' : min (ss[k].size : Int) 700 ≤ (ss[k].size : Int) := by omega
    generalize cutB 700 ss[k] = X at *
    generalize ss[k]'hkl = x at *
    have hXz : X.size ≤ 700 := by omega
    have F0 := Lib.hid (fun c (hc : c ≤ 100000) => hI.fit (c := c) (by omega) (by omega) (by omega))
    obtain ⟨L1, L2, d2, L3, d3, ⟨e1, e2, e3, ⟨s1, i1, i2, i3⟩, ⟨a1, a2, a3⟩, n3, ⟨r1, r2, r3⟩, s3⟩⟩ := turn_1 hI (by omega)
    have hl1 : L1.recs.length ≤ 3 + k := by omega
    have F1 := Lib.hid (fun c (hc : c ≤ 100000) => i1.fit (c := c) (by omega) (by omega) (by omega))
    have F2 := Lib.hid (fun c (hc : c ≤ 100000) => i2.fit (c := c) (by omega) (by omega) (by rw [r2]; omega))
    have F3 := Lib.hid (fun c (hc : c ≤ 100000) => i3.fit (c := c) (by omega) (by omega) (by rw [r3]; omega))
    obtain ⟨N1, hN1⟩ : ∃ N1, L.appendN d xBetween = N1 := ⟨_, rfl⟩
    obtain ⟨Z1, hZ1⟩ : ∃ Z1, L.appendE d xBetween = Z1 := ⟨_, rfl⟩
    have E1 := Lib.hid (show L.append d xBetween = L1 ∧ L.appendN d xBetween = N1 ∧ L.appendE d xBetween = Z1 from ⟨e1, hN1, hZ1⟩)
    have E2 := Lib.hid e2
    have E3 := Lib.hid e3
    obtain ⟨hf, hhf⟩ : ∃ hf, L3.which = hf := ⟨_, rfl⟩
    obtain ⟨A, hA⟩ : ∃ A, L3.age = A := ⟨_, rfl⟩
    have HH := Lib.hid (show (L3.which : Int) = (hf : Int) by rw [hhf])
    have HA := Lib.hid hA
    have hA0 : 1 ≤ A := by rw [← hA]; exact i3.age1
    have hA1 : A ≤ 1 + 2 * (k : Int) := by rw [← hA, a3]; exact hage
    have hf1 : hf ≤ 1 := by rw [← hhf]; exact i3.w1
    have hdn3 : d3.n = 80 := n3.trans hdn
    have hl3 : L3.recs.length ≤ 3 + k := by rw [r3]; exact hl1
    have HI3 := Lib.hid i3
    clear hN1 hZ1 e1 e2 e3 i1 i2 a1 a2 a3 n3 r1 r2 r3 hl1 hI hage hlk hdn hx700 hkl
    by_cases hz : X.size = 0
    · have hb := ba_empty hz
      subst hb
      clear hhf hA s3 i3
      have HL3 := Lib.hid hl3
      have HDN := Lib.hid hdn3
      clear hl3 hdn3
      go_upto_region 10 with fail
      refine wp_region_later (by kernel_rfl) (by kernel_rfl) ?_
      have lc := Later.cell_of hcell
      have hne := later_ne wr
      repeat (go_big_quiet_step (fail))
      refine wpQuiet_nil ?_
      rintro w9 ⟨u9, rfl⟩
      replace hD := hD.next u9.up
      clear lc hne hcell m0' m1'
      generalize u9.world = w9 at *
      rw [HX.out]
      generalize min (x.size : Int) 700 = mm at *
      go_upto_region 14 with (first
        | ((with_reducible refine calls_at 14 ?_); refine (pAppend ⟨#[98, 101, 116, 119, 101, 101, 110]⟩ N1 Z1 hD (F0.out c (by omega)) (by decide) E1.out.1 E1.out.2.1 E1.out.2.2).mono ?_; rintro e w10 ⟨rfl, ql10, cl10, hw⟩; clear hD; have hD := hw; clear hw)
        | ((with_reducible refine calls_at 16 ?_); (with_reducible refine (pWrite 0 hD (F1.out c (by omega)) E2.out.1 E2.out.2.1 E2.out.2.2).mono ?_); rintro e w11 ⟨rfl, q11, c11, hc11, hw⟩; clear hD; have hD := hw; clear hw)
        | ((with_reducible refine calls_at 18 ?_); (with_reducible refine (pSync hD (F2.out c11 (by omega)) E3.out.1 E3.out.2).mono ?_); rintro e w12 ⟨rfl, ql12, cl12, hw⟩; clear hD; have hD := hw; clear hw))
      go_upto_region 15 with (first
        | ((with_reducible refine calls_at 31 ?_); (with_reducible refine (pHalf (hf : Int) hD HH.out).mono ?_); rintro e w13 ⟨rfl, rfl⟩)
        | ((with_reducible refine calls_at 32 ?_); (with_reducible refine (pAge A hD HA.out).mono ?_); rintro e w13 ⟨rfl, rfl⟩))
      go_wp2_with fail
      exact ⟨⟨k + 1, c11, _, gl, _, L3, d3, ql12, cl12, rfl, rfl, rfl, by omega, by omega, by omega, HI3.out, by rw [HA.out]; omega, by have := HL3.out; omega, HDN.out, hD⟩, by simp [intOf]; omega⟩
    · have hne0 : X.toList.isEmpty = false := str_nonempty hz
      have hne1 : ¬ X.toList = [] := by intro h; rw [h] at hne0; cases hne0
      obtain ⟨L4, d4, L5, d5, L6, L7, d7, d8, R, ⟨e4, e5, e6, e7, e8, e9, ⟨i4, s5, i5, i6, i7, iR⟩, ⟨a4, a5, a6, a7, aR, aR2⟩, ⟨w4, wR⟩, n8, ⟨r4, r5, r6, rr, hR, hrr⟩⟩⟩ := turn_2 i3 (by rw [hA]; omega) s3 hdn3 (by omega) hXz FS
      rw [hA] at a4 a5 a6 a7 aR aR2
      rw [hhf] at w4 wR
      have F4 := Lib.hid (fun c (hc : c ≤ 100000) => i4.fit' (c := c) (by omega) (by omega) (by omega))
      have F5 := Lib.hid (fun c (hc : c ≤ 100000) => i5.fit (c := c) (by omega) (by omega) (by omega))
      have F6 := Lib.hid (fun c (hc : c ≤ 100000) => i6.fit (c := c) (by omega) (by omega) (by omega))
      obtain ⟨N2, hN2⟩ : ∃ N2, L5.appendN d5 xLost = N2 := ⟨_, rfl⟩
      obtain ⟨Z2, hZ2⟩ : ∃ Z2, L5.appendE d5 xLost = Z2 := ⟨_, rfl⟩
      have E4 := Lib.hid e4
      have E5 := Lib.hid e5
      have E6 := Lib.hid (show L5.append d5 xLost = L6 ∧ L5.appendN d5 xLost = N2 ∧ L5.appendE d5 xLost = Z2 from ⟨e6, hN2, hZ2⟩)
      have E7 := Lib.hid e7
      have E8 := Lib.hid e8
      have E9 := Lib.hid e9
      have WL := Lib.hid i7.wlen
      have IR := Lib.hid iR
      have A4 := Lib.hid a4
      have W4 := Lib.hid (show (L4.which : Int) = (hf : Int) by rw [w4])
      obtain ⟨mr, hmr⟩ : ∃ mr, R.recs.length = mr := ⟨_, rfl⟩
      have hmr1 : 1 ≤ mr ∧ mr ≤ 2 := by rw [← hmr, hR, List.length_cons]; omega
      have HMR := Lib.hid hmr
      have HRR := Lib.hid hR
      obtain ⟨AR, hAR⟩ : ∃ AR, R.age = AR := ⟨_, rfl⟩
      rw [hAR] at aR aR2
      have HAR := Lib.hid hAR
      have HWR := Lib.hid (show (R.which : Int) = 1 - (hf : Int) by rw [wR]; omega)
      have HN8 := Lib.hid (n8.trans hdn3)
      have hXz1 : X.size ≤ 1099511627776 := by omega
      clear hl3 hdn3 s3 i3 e4 e5 e6 e7 e8 e9 i4 i5 i6 i7 iR a4 a5 a6 a7 w4 wR n8 r4 r5 r6 hR hrr hN2 hZ2 hmr hAR hhf hA
      go_upto_region 10 with fail
      refine wp_region_later (by kernel_rfl) (by kernel_rfl) ?_
      have lc := Later.cell_of hcell
      have hne := later_ne wr
      repeat (go_big_quiet_step (fail))
      refine wpQuiet_nil ?_
      rintro w9 ⟨u9, rfl⟩
      replace hD := hD.next u9.up
      clear lc hne hcell m0' m1'
      generalize u9.world = w9 at *
      rw [HX.out]
      generalize min (x.size : Int) 700 = mm at *
      go_upto_region 14 with (first
        | ((with_reducible refine calls_at 14 ?_); refine (pAppend ⟨#[98, 101, 116, 119, 101, 101, 110]⟩ N1 Z1 hD (F0.out c (by omega)) (by decide) E1.out.1 E1.out.2.1 E1.out.2.2).mono ?_; rintro e w10 ⟨rfl, ql10, cl10, hw⟩; clear hD; have hD := hw; clear hw)
        | ((with_reducible refine calls_at 16 ?_); (with_reducible refine (pWrite 0 hD (F1.out c (by omega)) E2.out.1 E2.out.2.1 E2.out.2.2).mono ?_); rintro e w11 ⟨rfl, q11, c11, hc11, hw⟩; clear hD; have hD := hw; clear hw)
        | ((with_reducible refine calls_at 18 ?_); (with_reducible refine (pSync hD (F2.out c11 (by omega)) E3.out.1 E3.out.2).mono ?_); rintro e w12 ⟨rfl, ql12, cl12, hw⟩; clear hD; have hD := hw; clear hw))
      go_upto_region 15 with (first
        | ((with_reducible refine calls_at 31 ?_); (with_reducible refine (pHalf (hf : Int) hD HH.out).mono ?_); rintro e w13 ⟨rfl, rfl⟩)
        | ((with_reducible refine calls_at 32 ?_); (with_reducible refine (pAge A hD HA.out).mono ?_); rintro e w13 ⟨rfl, rfl⟩))
      go_upto_region 18 with (first
        | ((with_reducible refine calls_at 20 ?_); (with_reducible refine (pTurn X 0 hD (F3.out c11 (by omega)) hXz1 E4.out.1 E4.out.2.1 E4.out.2.2).mono ?_); rintro e w14 ⟨rfl, q14, c14, hc14, hw⟩; clear hD; have hD := hw; clear hw)
        | ((with_reducible refine calls_at 31 ?_); (with_reducible refine (pHalf (hf : Int) hD W4.out).mono ?_); rintro e w15 ⟨rfl, rfl⟩)
        | ((with_reducible refine calls_at 32 ?_); (with_reducible refine (pAge (A + 1) hD A4.out).mono ?_); rintro e w15 ⟨rfl, rfl⟩))
      go_upto_region 21 with (first
        | ((with_reducible refine calls_at 18 ?_); (with_reducible refine (pSync hD (F4.out c14 (by omega)) E5.out.1 E5.out.2).mono ?_); rintro e w16 ⟨rfl, ql16, cl16, hw⟩; clear hD; have hD := hw; clear hw)
        | ((with_reducible refine calls_at 14 ?_); refine (pAppend ⟨#[108, 111, 115, 116]⟩ N2 Z2 hD (F5.out c14 (by omega)) (by decide) E6.out.1 E6.out.2.1 E6.out.2.2).mono ?_; rintro e w17 ⟨rfl, ql17, cl17, hw⟩; clear hD; have hD := hw; clear hw)
        | ((with_reducible refine calls_at 16 ?_); (with_reducible refine (pWrite 0 hD (F6.out c14 (by omega)) E7.out.1 E7.out.2.1 E7.out.2.2).mono ?_); rintro e w18 ⟨rfl, q18, c18, hc18, hw⟩; clear hD; have hD := hw; clear hw))
      have hsl := HSL.out
      have hMI := HMI.out
      go_upto_region 22 with ((with_reducible refine calls_at 22 ?_); (with_reducible refine (pCrash FS M qf cf HFI.out HFM.out (by omega) hD (by omega) WL.out E8.out).mono ?_); rintro e w24 ⟨rfl, hw⟩; clear hD; have hD := hw; clear hw)
      clear hsl hMI
      go_upto_region 25 with ((with_reducible refine calls_at 12 ?_); (with_reducible refine (pOpen hD (by omega) IR.out.ok E9.out.1 E9.out.2).mono ?_); rintro e w25 ⟨gx, rfl, qx, cx, hw⟩; clear hD; have hD := hw.sub (l' := trio g a none c18 d8 gx R qx cx []) (.cons_cons _ (.cons_cons _ (.cons_cons _ (List.nil_sublist _)))); clear hw)
      go_upto_region 26 with ((with_reducible refine calls_at 28 ?_); (with_reducible refine (zRec mr hD 1 rfl 2 rfl (by have := HMR.out; omega) HMR.out).mono ?_); rintro e w28 ⟨qr, cr, rfl, hcr, hra, hu⟩; replace hD := hD.next hu; clear hu)
      rw [HRR.out] at hra
      obtain ⟨br, or, rfl, hcr0⟩ := hra (by simp)
      have hc0 := hcr0 0 (by simp)
      rw [Nat.add_zero] at hc0
      replace hc0 : w28.cell? ⟨br, or, none⟩ = some (.string X) := hc0
      clear hcr0 hra
      have y1 : ¬ (mr : Int) < 1 := by omega
      have y2 : ¬ (mr : Int) > 2 := by omega
      have y3 : (0 : Int) < (mr : Int) := by omega
      have y4 : ¬ AR ≤ A + 1 := by omega
      go_wp2_with (first
        | ((with_reducible refine calls_at 31 ?_); (with_reducible refine (pHalf (1 - (hf : Int)) hD HWR.out).mono ?_); rintro e w29 ⟨rfl, rfl⟩)
        | ((with_reducible refine calls_at 32 ?_); (with_reducible refine (pAge AR hD HAR.out).mono ?_); rintro e w29 ⟨rfl, rfl⟩))
      exact ⟨⟨k + 1, c18, _, gx, _, R, d8, qx, cx, rfl, rfl, rfl, by omega, by omega, by omega, IR.out, by rw [HAR.out]; omega, by have := HMR.out; omega, HN8.out, hD⟩, by simp [intOf]; omega⟩
  · have hkk : k = n1 ∨ k = 10 := by omega
    clear hI hage hlk hdn
    rcases Nat.lt_or_ge k n1 with hlt | hge
    · have j1 : (k : Int) < (n1 : Int) := by omega
      have j2 : ¬ (k : Int) < 10 := by omega
      go_wp2_with ((with_reducible refine (CX.out _).mono ?_); rintro e w9 ⟨rfl, hu⟩)
      go_ret
      exact ⟨rfl, hD.up.trans hu⟩
    · have j1 : ¬ (k : Int) < (n1 : Int) := by omega
      go_wp2_with ((with_reducible refine (CX.out _).mono ?_); rintro e w9 ⟨rfl, hu⟩)
      go_ret
      exact ⟨rfl, hD.up.trans hu⟩
end turns
end Go.Proofs.Ytokpkkjgagbpfaa
