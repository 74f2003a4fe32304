/- WalParts: the walk. -/
import Derived.Test.YtokpkkjgagbpfaaWlTurns
import Derived.Test.YtokpkkjgagbpfaaOpenLaw3
namespace Bw
set_option linter.unusedVariables false
theorem frame_size (rs : List ByteArray) (h : ∀ x ∈ rs, x.size ≤ 300) : (frameW rs).size ≤ 303 * rs.length := by
  induction rs with
  | nil => exact Nat.le_refl _
  | cons x r ih =>
    have h1 := ih fun y hy => h y (List.mem_cons_of_mem _ hy)
    have h2 := h x List.mem_cons_self
    unfold frameW at *
    rw [size_str] at *
    rw [frame_cons, List.length_append, List.length_append, toLE_length, lst_length, List.length_cons]
    omega
theorem frame_split (a b : List ByteArray) : (frameW (a ++ b)).size = (frameW a).size + (frameW b).size := by
  unfold frameW
  rw [size_str, size_str, size_str, frameL_append, List.length_append]
theorem need_two {n c : Nat} (h : n ≤ 303 * c) : needW n ≤ 2 * c := by unfold needW; omega
theorem need_add (a b : Nat) : needW (a + b) ≤ needW a + needW b := by unfold needW; omega
/-- Two logs that are told the same, in whatever parts. -/
structure PartsI (X : LogD) (dX : DiskD) (Y : LogD) (dY : DiskD) (sY m : Nat) : Prop where
  ix : InvA X dX 0
  iy : InvA Y dY sY
  ax : X.age = 1
  ay : Y.age = 1
  wx : X.written = 0
  px : X.pages = 0
  nx : dX.n = 400
  ny : dY.n = 400
  r : X.recs = Y.recs
  m : X.recs.length = m
  sz : ∀ x ∈ X.recs, x.size ≤ 300
  py : Y.pages ≤ 2 * Y.written
  sub : needW (frameW (Y.recs.take Y.written)).size ≤ Y.pages
theorem parts_new : PartsI newL (initD 400) newL (initD 400) 0 0 := by
  have := (open_new (n := 400) (by omega) (by omega)).2.2
  exact ⟨this, this, rfl, rfl, rfl, rfl, rfl, rfl, rfl, rfl, (fun x hx => by cases hx), Nat.le_refl _, Nat.le_refl _⟩
theorem parts_append {X : LogD} {dX : DiskD} {Y : LogD} {dY : DiskD} {sY m : Nat} (h : PartsI X dX Y dY sY m) (hm : m ≤ 12) (x : ByteArray) (hx : x.size ≤ 300) :
    (x.size = 0 ∧ X.appendE dX x = 1 ∧ X.appendN dX x = 0 ∧ X.append dX x = X ∧ Y.appendE dY x = 1 ∧ Y.appendN dY x = 0 ∧ Y.append dY x = Y) ∨
    (1 ≤ x.size ∧ X.appendE dX x = 0 ∧ X.appendN dX x = (m : Int) + 1 ∧ Y.appendE dY x = 0 ∧ Y.appendN dY x = (m : Int) + 1 ∧ PartsI (X.append dX x) dX (Y.append dY x) dY sY (m + 1)) := by
  have tx := h.ix.turned
  have ty := h.iy.turned
  by_cases h0 : x.size = 0
  · have hw : ∀ l : LogD, l.why x = 1 := fun l => by unfold LogD.why; rw [if_pos (.inl h0)]
    have hE : ∀ (l : LogD) (d : DiskD), l.appendE d x = 1 := fun l d => by unfold LogD.appendE; rw [hw, if_pos (by decide)]
    have hN : ∀ (l : LogD) (d : DiskD), l.appendN d x = 0 := fun l d => by unfold LogD.appendN; rw [if_neg (by rw [hE]; decide)]
    exact .inl ⟨h0, hE _ _, hN _ _, append_no (by rw [hE]; decide), hE _ _, hN _ _, append_no (by rw [hE]; decide)⟩
  · have hw : ∀ l : LogD, l.turned.size = 0 → l.why x = 0 := fun l ht => by unfold LogD.why; rw [if_neg (by omega), if_neg (fun e => e ht)]
    have hszY : ∀ y ∈ Y.recs, y.size ≤ 300 := by rw [← h.r]; exact h.sz
    have hmY : Y.recs.length = m := by rw [← h.r]; exact h.m
    have hE : ∀ (l : LogD) (d : DiskD), l.turned.size = 0 → (∀ y ∈ l.recs, y.size ≤ 300) → l.recs.length = m → d.n = 400 → l.pages ≤ 24 → l.appendE d x = 0 := fun l d ht hs hl hn hp => by
      have hf : (frameW (l.recs.drop l.written ++ [x])).size ≤ 303 * (l.recs.drop l.written ++ [x]).length := frame_size _ fun y hy => by
        rcases List.mem_append.1 hy with hy | hy
        · exact hs y (List.mem_of_mem_drop hy)
        · obtain rfl := List.mem_singleton.1 hy; exact hx
      have hl2 : (l.recs.drop l.written ++ [x]).length ≤ 13 := by rw [List.length_append, List.length_drop]; show _ + 1 ≤ 13; omega
      have hn2 := need_two (c := 13) (Nat.le_trans hf (Nat.mul_le_mul_left 303 hl2))
      unfold LogD.appendE
      rw [if_neg (fun e => e (hw l ht)), frame_len, if_neg]
      unfold LogD.room DiskD.halfN
      omega
    have eX := hE X dX tx h.sz h.m h.nx (by rw [h.px]; omega)
    have eY := hE Y dY ty hszY hmY h.ny (by have := h.py; have := h.iy.wr; omega)
    have nX : X.appendN dX x = (m : Int) + 1 := by unfold LogD.appendN; rw [if_pos eX, h.m]; omega
    have nY : Y.appendN dY x = (m : Int) + 1 := by unfold LogD.appendN; rw [if_pos eY, hmY]; omega
    have lX := append_ok eX
    have lY := append_ok eY
    refine .inr ⟨by omega, eX, nX, eY, nY, h.ix.append x, h.iy.append x, by rw [lX]; exact h.ax, by rw [lY]; exact h.ay, by rw [lX]; exact h.wx, by rw [lX]; exact h.px, h.nx, h.ny, by rw [lX, lY]; show X.recs ++ [x] = Y.recs ++ [x]; rw [h.r], by rw [lX]; show (X.recs ++ [x]).length = m + 1; rw [List.length_append, h.m]; rfl, ?_, by rw [lY]; exact h.py, ?_⟩
    · rw [lX]
      intro y hy
      rcases List.mem_append.1 hy with hy | hy
      · exact h.sz y hy
      · obtain rfl := List.mem_singleton.1 hy; exact hx
    · rw [lY]
      show needW (frameW ((Y.recs ++ [x]).take Y.written)).size ≤ Y.pages
      rw [List.take_append_of_le_length h.iy.wr]; exact h.sub
theorem parts_write {X : LogD} {dX : DiskD} {Y : LogD} {dY : DiskD} {sY m : Nat} (h : PartsI X dX Y dY sY m) : PartsI X dX Y.write (Y.writeD dY) sY m ∧ Y.writeE = 0 := by
  obtain ⟨e1, e2, e3⟩ := write_ok' (d := dY) h.iy.turned
  have hw := h.iy.wr
  have hd : (Y.recs.drop Y.written).length = Y.recs.length - Y.written := List.length_drop
  have hf : (frameW (Y.recs.drop Y.written)).size ≤ 303 * (Y.recs.drop Y.written).length := frame_size _ fun y hy => h.sz y (by rw [h.r]; exact List.mem_of_mem_drop hy)
  have hn := need_two hf
  have hsp : (frameW Y.recs).size = (frameW (Y.recs.take Y.written)).size + (frameW (Y.recs.drop Y.written)).size := by
    rw [← frame_split, List.take_append_drop]
  have hsub := h.sub
  refine ⟨⟨h.ix, h.iy.write (by rw [h.ay]; decide), h.ax, by rw [e2]; exact h.ay, h.wx, h.px, h.nx, (writeD_n _ _).trans h.ny, by rw [write_recs]; exact h.r, h.m, h.sz, ?_, ?_⟩, e1⟩
  · rw [e2]
    show Y.pages + needW (frameW (Y.recs.drop Y.written)).size ≤ 2 * Y.recs.length
    have := h.py
    omega
  · rw [e2]
    show needW (frameW (Y.recs.take Y.recs.length)).size ≤ Y.pages + needW (frameW (Y.recs.drop Y.written)).size
    rw [List.take_length, hsp]
    have := need_add (frameW (Y.recs.take Y.written)).size (frameW (Y.recs.drop Y.written)).size
    omega
theorem parts_sync {X : LogD} {dX : DiskD} {Y : LogD} {dY : DiskD} {sY m : Nat} (h : PartsI X dX Y dY sY m) : PartsI X dX Y.sync dY.syncD Y.pages m := by
  have s := sync_no h.iy.turned
  refine ⟨h.ix, h.iy.sync, h.ax, by rw [s]; exact h.ay, h.wx, h.px, h.nx, h.ny, by rw [s]; exact h.r, h.m, h.sz, by rw [s]; exact h.py, by rw [s]; exact h.sub⟩
/-- What is opened behind a write and a sync. -/
theorem reopen {L : LogD} {d : DiskD} {s : Nat} (h : InvA L d s) (ha : L.age < 1000) : L.writeE = 0 ∧ InvA L.write (L.writeD d) s ∧ InvA L.write.sync (L.writeD d).syncD L.write.pages ∧ L.write.sync.age = L.age ∧ L.write.sync.recs = L.recs ∧ L.write.sync.pages = L.pages + needW (frameW (L.recs.drop L.written)).size ∧
    openLE (L.writeD d).syncD = 0 ∧ InvA (openL (L.writeD d).syncD) (L.writeD d).syncD (openL (L.writeD d).syncD).pages ∧ (openL (L.writeD d).syncD).recs = L.recs := by
  obtain ⟨e1, e2, e3⟩ := write_ok' (d := d) h.turned
  have i1 := h.write (by omega)
  have a1 : L.write.age = L.age := (write_which (l := L)).2.1
  have i2 := i1.sync
  have s2 := sync_no i1.turned
  have a2 : L.write.sync.age = L.age := by rw [s2]; exact a1
  have wr1 : L.write.written = L.recs.length := by rw [e2]
  have r2 : L.write.sync.recs = L.recs := by rw [s2]; exact write_recs L
  have cr := i2.crash [] (by omega)
  rw [crash_synced (d := (L.writeD d).syncD) rfl] at cr
  obtain ⟨l1, -⟩ := cr.lost rfl
  refine ⟨e1, i1, i2, a2, r2, ?_, cr.openE, cr.inv, ?_⟩
  · rw [s2]; show L.write.pages = _; rw [e2]
  · rw [l1, r2]
    have : L.write.sync.sure = L.recs.length := by rw [s2]; exact wr1
    rw [this, List.take_length]
theorem parts_pages {X : LogD} {dX : DiskD} {Y : LogD} {dY : DiskD} {sY m : Nat} (h : PartsI X dX Y dY sY m) : X.pages + needW (frameW (X.recs.drop X.written)).size ≤ Y.pages + needW (frameW (Y.recs.drop Y.written)).size := by
  have hsp : (frameW Y.recs).size = (frameW (Y.recs.take Y.written)).size + (frameW (Y.recs.drop Y.written)).size := by
    rw [← frame_split, List.take_append_drop]
  have := need_add (frameW (Y.recs.take Y.written)).size (frameW (Y.recs.drop Y.written)).size
  have := h.sub
  rw [h.wx, h.px, List.drop_zero, h.r, hsp]
  omega
open Go Go.RowKit in
theorem swap6 {W w : World} {a b c d e f : Res} {t : List Res} (h : Hold W w (a :: b :: c :: d :: e :: f :: t)) : Hold W w (d :: e :: f :: a :: b :: c :: t) :=
  h.perm (show ([a, b, c] ++ [d, e, f] ++ t).Perm ([d, e, f] ++ [a, b, c] ++ t) from List.Perm.append_right t List.perm_append_comm)
end Bw
namespace Go.Proofs.Ytokpkkjgagbpfaa
open Go.RowKit Bw
set_option linter.unusedVariables false
variable {W w : World} {g a c gl cl : Nat} {q : Option Nat} {ql : Option Addr} {d d' : DiskD} {L L' : LogD} {rest l : List Res}
theorem zPages (v : Nat) (h : Hold W w l) (i : Nat) {vD : Value} (hi : l[i]? = some (logRow gl vD L ql cl)) (hv : L.pages = v) :
    Calls Try.prog 33 #[.pointer (some ⟨gl, 0, none⟩)] w fun e w' => e = .returned (.int .i64 (v : Int)) ∧ w = w' := by subst hv; exact wal_Pages h i hi
namespace parts
theorem u8_nat {v : Int} (h : (Lit.int .u8 v).wf = true) : ∃ b : Nat, v = (b : Int) ∧ b < 256 := by
  have h2 : IntKind.u8.min ≤ v ∧ v ≤ IntKind.u8.max := by simpa [Lit.wf] using h
  have h3 : IntKind.u8.min = 0 := by decide
  have h4 : IntKind.u8.max = 255 := by decide
  exact ⟨v.toNat, by omega, by omega⟩
theorem up_cell {W w : World} {p : Addr} {v : Value} (hu : Up W w) (hc : W.cell? p = some v) : w.cell? p = some v := (AllS.of_up (S := fun _ => False) hu).cell hc id
theorem front6 {W w : World} {a b c d e f : Res} {t : List Res} (h : Hold W w (a :: b :: c :: d :: e :: f :: t)) : Hold W w (f :: a :: b :: c :: d :: e :: t) :=
  h.perm (show ([a, b, c, d, e] ++ [f] ++ t).Perm ([f] ++ [a, b, c, d, e] ++ t) from List.Perm.append_right t List.perm_append_comm)
set_option maxHeartbeats 4000000 in
set_option maxRecDepth 100000 in
theorem law (ss : List ByteArray) (qs : Option Addr) (cs : Nat) (qp : Option Addr) (np cp : Nat) (zp : Nat → Int) (W : World) (hT : TextsIn W qs ss) (hnp : np ≤ cp ∧ cp ≤ maxLen)
    (hP : ∀ i, i < np → ∃ g o, qp = some ⟨g, o, none⟩ ∧ W.cell? ⟨g, o + i, none⟩ = some (.int .u8 (zp i)) ∧ (Lit.int .u8 (zp i)).wf = true) :
    Calls Try.prog 6 #[.slice qs ss.length cs, .slice qp np cp] W fun e w' => e = .returned (.bool true) ∧ Below W.heap.size W w' := by
  have hD := Hold.start W
  have CX := Lib.hid law6_fixed
  have hlen := hT.1
  obtain ⟨hnp1, hnp2⟩ := hnp
  unfold maxLen at hlen hnp2
  have HT := Lib.hid hT
  have HPP := Lib.hid hP
  clear hP
  generalize hnl : ss.length = n1 at *
  have HNL := Lib.hid hnl
  clear hnl hT
  obtain ⟨o1, o2, -⟩ := open_new (n := 400) (by omega) (by omega)
  have O1 := Lib.hid o1
  have O2 := Lib.hid o2
  clear o1 o2
  have N1 := Lib.hid (fun (w : World) (l : List Res) (h : Hold W w l) => show Calls Try.prog 10 #[.int .i64 400] w _ from tNew 400 (by omega) (by omega) h)
  go_enter Try.func6, Try.ntmps6
  go_upto_region 2 with ((with_reducible refine (N1.out _ _ hD).mono ?_); rintro e w1 ⟨g1, b1, rfl, hw⟩; clear hD; have hD := hw; clear hw)
  go_upto_region 5 with ((with_reducible refine (N1.out _ _ hD).mono ?_); rintro e w2 ⟨g2, b2, rfl, hw⟩; clear hD; have hD := hw.perm (List.Perm.swap _ _ []); clear hw N1)
  go_upto_region 6 with ((with_reducible refine (pOpen hD (by omega) (initD_ok (by omega) (by omega)) O1.out O2.out).mono ?_); rintro e w3 ⟨gx, rfl, qx, cx0, hw⟩; clear hD; have hD := hw.perm (show ([_, _, _] ++ [_]).Perm ([_] ++ [_, _, _]) from List.perm_append_comm); clear hw)
  go_upto_region 9 with ((with_reducible refine (pOpen hD (by omega) (initD_ok (by omega) (by omega)) O1.out O2.out).mono ?_); rintro e w4 ⟨gy, rfl, qy, cy0, hw⟩; clear hD; have hD := swap6 hw; clear hw)
  go_wp2_with fail
  go_loopw [13, 14] (fun v13 v14 wr => ∃ (k cx cy m sY : Nat) (q1 q2 : Option Nat) (X : LogD) (dX : DiskD) (Y : LogD) (dY : DiskD) (qx : Option Addr) (kx : Nat) (qy : Option Addr) (ky : Nat), v13 = .int .i64 (m : Int) ∧ v14 = .int .i64 (k : Int) ∧ k ≤ n1 ∧ k ≤ 12 ∧ m ≤ k ∧ cx = 0 ∧ cy ≤ 1000 * k ∧ PartsI X dX Y dY sY m ∧ Hold W wr (trio g1 b1 q1 cx dX gx X qx kx (trio g2 b2 q2 cy dY gy Y qy ky []))) (fun _ v _ => n1 - (intOf v).toNat)
  case atStart => exact ⟨0, 0, 0, 0, 0, none, none, newL, initD 400, newL, initD 400, qx, cx0, qy, cy0, rfl, rfl, by omega, by omega, Nat.le_refl _, rfl, by omega, parts_new, hD⟩
  case round =>
  clear hD
  obtain ⟨k, cx, cy, m, sY, q1, q2, X, dX, Y, dY, qx, kx, qy, ky, rfl, rfl, hk, hk12, hmk, hcx, hcy, hI, hD⟩ := hrel
  by_cases hkn : k < n1 ∧ k < 12
  · obtain ⟨hk1, hk2⟩ := hkn
    have j1 : (k : Int) < (n1 : Int) := by omega
    have j2 : (k : Int) < 12 := by omega
    have hkl : k < ss.length := by rw [HNL.out]; exact hk1
    obtain ⟨gs, os, rfl, hcell⟩ := (HT.out.up hD.up).2.2 k hkl
    have hsz := HT.out.2.1 _ (List.getElem_mem hkl)
    unfold maxLen at hsz
    have hx300 := cutB_size 300 ss[k]
    have HX := Lib.hid (show ss[k].extract 0 (min (ss[k].size : Int) 300).toNat = cutB 300 ss[k] from cutB_min 300 ss[k])
    have m0' : (0 : Int) ≤ min (ss[k].size : Int) 300 := by omega
    have m1' : min (ss[k].size : Int) 300 ≤ (ss[k].size : Int) := by omega
    generalize cutB 300 ss[k] = S at *
    generalize ss[k]'hkl = x at *
    have hSz : S.size ≤ 300 := by omega
    have hXz1 : S.size ≤ 1099511627776 := by omega
    have hstep := parts_append hI (by omega) S hSz
    have FX := Lib.hid (hI.ix.fit (c := cx) (by omega) (by rw [hI.ax]; decide) (by rw [hI.m]; omega))
    have FY := Lib.hid (fun c (hc : c ≤ 100000) => hI.iy.fit (c := c) (by omega) (by rw [hI.ay]; decide) (by rw [← hI.r, hI.m]; omega))
    clear hx300 hkl
    rcases hstep with ⟨hz, s1, s2, s3, s4, s5, s6⟩ | ⟨hz, s1, s2, s3, s4, s5⟩
    · have hb := ba_empty hz
      have EX := Lib.hid (And.intro s1 (And.intro s2 s3))
      have EY := Lib.hid (And.intro s4 (And.intro s5 s6))
      have HP2 := Lib.hid hI
      clear s1 s2 s3 s4 s5 s6 hI
      subst hb
      by_cases hp : k < np
      · have p1 : (k : Int) < (np : Int) := by omega
        obtain ⟨gp, op, rfl, hcp, hwf⟩ := HPP.out k hp
        obtain ⟨b, hb, hb256⟩ := u8_nat hwf
        rw [hb] at hcp
        have HCP := Lib.hid hcp
        have r2 : (b : Int) % 2 = ((b % 2 : Nat) : Int) := by omega
        have r3 : (b : Int) % 3 = ((b % 3 : Nat) : Int) := by omega
        obtain ⟨x2, hx2⟩ : ∃ x2, b % 2 = x2 := ⟨_, rfl⟩
        obtain ⟨x3, hx3⟩ : ∃ x3, b % 3 = x3 := ⟨_, rfl⟩
        rw [hx2] at r2
        rw [hx3] at r3
        clear hx2 hx3 hwf hb hcp
        by_cases e2 : x2 = 0
        · subst e2
          by_cases e3 : x3 = 0
          · subst e3
            go_upto_region 14 with fail
            refine wp_region_later (by kernel_rfl) (by kernel_rfl) ?_
            have lc := Later.cell_of hcell
            have hne := later_ne wr
            repeat (go_big_quiet_step (fail))
            refine wpQuiet_nil ?_
            rintro w9 ⟨u9, rfl⟩
            replace hD := hD.next u9.up
            clear lc hne hcell m0' m1'
            generalize u9.world = w9 at *
            rw [HX.out]
            generalize min (x.size : Int) 300 = mm at *
            go_upto_region 15 with ((with_reducible refine calls_at 14 ?_); (with_reducible refine (pAppend _ 0 1 hD FX.out hXz1 EX.out.2.2 EX.out.2.1 EX.out.1).mono ?_); rintro e w10 ⟨rfl, qx2, cx2, hw⟩; clear hD; have hD := swap6 hw; clear hw)
            go_upto_region 16 with ((with_reducible refine calls_at 14 ?_); (with_reducible refine (pAppend _ 0 1 hD (FY.out cy (by omega)) hXz1 EY.out.2.2 EY.out.2.1 EY.out.1).mono ?_); rintro e w11 ⟨rfl, qy2, cy2, hw⟩; clear hD; have hD := hw; clear hw)
            go_upto_region 20 with fail
            have hcp := up_cell hD.up HCP.out
            go_upto_region 22 with ((with_reducible refine calls_at 16 ?_); (with_reducible refine (pWrite 0 hD (HP2.out.iy.fit (by omega) (by rw [HP2.out.ay]; decide) (by rw [← HP2.out.r, HP2.out.m]; omega)) rfl rfl (parts_write HP2.out).2).mono ?_); rintro e w12 ⟨rfl, qd12, c12, hc12, hw⟩; clear hD; have hD := hw; clear hw; clear hcp; have hcp := up_cell hD.up HCP.out)
            go_wp2_with ((with_reducible refine calls_at 18 ?_); (with_reducible refine (pSync hD ((parts_write HP2.out).1.iy.fit (c := c12) (by omega) (by rw [(parts_write HP2.out).1.ay]; decide) (by rw [← (parts_write HP2.out).1.r, (parts_write HP2.out).1.m]; omega)) rfl rfl).mono ?_); rintro e w13 ⟨rfl, ql13, cl13, hw⟩; clear hD; have hD := hw; clear hw)
            exact ⟨⟨k + 1, _, c12, m, _, _, _, _, _, _, _, _, _, _, _, rfl, rfl, by omega, by omega, by omega, hcx, by omega, (parts_sync (parts_write HP2.out).1), swap6 hD⟩, by simp [intOf]; omega⟩
          · have e3' : ¬ (x3 : Int) = 0 := by omega
            go_upto_region 14 with fail
            refine wp_region_later (by kernel_rfl) (by kernel_rfl) ?_
            have lc := Later.cell_of hcell
            have hne := later_ne wr
            repeat (go_big_quiet_step (fail))
            refine wpQuiet_nil ?_
            rintro w9 ⟨u9, rfl⟩
            replace hD := hD.next u9.up
            clear lc hne hcell m0' m1'
            generalize u9.world = w9 at *
            rw [HX.out]
            generalize min (x.size : Int) 300 = mm at *
            go_upto_region 15 with ((with_reducible refine calls_at 14 ?_); (with_reducible refine (pAppend _ 0 1 hD FX.out hXz1 EX.out.2.2 EX.out.2.1 EX.out.1).mono ?_); rintro e w10 ⟨rfl, qx2, cx2, hw⟩; clear hD; have hD := swap6 hw; clear hw)
            go_upto_region 16 with ((with_reducible refine calls_at 14 ?_); (with_reducible refine (pAppend _ 0 1 hD (FY.out cy (by omega)) hXz1 EY.out.2.2 EY.out.2.1 EY.out.1).mono ?_); rintro e w11 ⟨rfl, qy2, cy2, hw⟩; clear hD; have hD := hw; clear hw)
            go_upto_region 20 with fail
            have hcp := up_cell hD.up HCP.out
            go_wp2_with ((with_reducible refine calls_at 16 ?_); (with_reducible refine (pWrite 0 hD (HP2.out.iy.fit (by omega) (by rw [HP2.out.ay]; decide) (by rw [← HP2.out.r, HP2.out.m]; omega)) rfl rfl (parts_write HP2.out).2).mono ?_); rintro e w12 ⟨rfl, qd12, c12, hc12, hw⟩; clear hD; have hD := hw; clear hw; clear hcp; have hcp := up_cell hD.up HCP.out)
            exact ⟨⟨k + 1, _, c12, m, _, _, _, _, _, _, _, _, _, _, _, rfl, rfl, by omega, by omega, by omega, hcx, by omega, (parts_write HP2.out).1, swap6 hD⟩, by simp [intOf]; omega⟩
        · have e2' : ¬ (x2 : Int) = 0 := by omega
          by_cases e3 : x3 = 0
          · subst e3
            go_upto_region 14 with fail
            refine wp_region_later (by kernel_rfl) (by kernel_rfl) ?_
            have lc := Later.cell_of hcell
            have hne := later_ne wr
            repeat (go_big_quiet_step (fail))
            refine wpQuiet_nil ?_
            rintro w9 ⟨u9, rfl⟩
            replace hD := hD.next u9.up
            clear lc hne hcell m0' m1'
            generalize u9.world = w9 at *
            rw [HX.out]
            generalize min (x.size : Int) 300 = mm at *
            go_upto_region 15 with ((with_reducible refine calls_at 14 ?_); (with_reducible refine (pAppend _ 0 1 hD FX.out hXz1 EX.out.2.2 EX.out.2.1 EX.out.1).mono ?_); rintro e w10 ⟨rfl, qx2, cx2, hw⟩; clear hD; have hD := swap6 hw; clear hw)
            go_upto_region 16 with ((with_reducible refine calls_at 14 ?_); (with_reducible refine (pAppend _ 0 1 hD (FY.out cy (by omega)) hXz1 EY.out.2.2 EY.out.2.1 EY.out.1).mono ?_); rintro e w11 ⟨rfl, qy2, cy2, hw⟩; clear hD; have hD := hw; clear hw)
            go_upto_region 20 with fail
            have hcp := up_cell hD.up HCP.out
            go_wp2_with ((with_reducible refine calls_at 18 ?_); (with_reducible refine (pSync hD (HP2.out.iy.fit (c := cy) (by omega) (by rw [HP2.out.ay]; decide) (by rw [← HP2.out.r, HP2.out.m]; omega)) rfl rfl).mono ?_); rintro e w13 ⟨rfl, ql13, cl13, hw⟩; clear hD; have hD := hw; clear hw)
            exact ⟨⟨k + 1, _, cy, m, _, _, _, _, _, _, _, _, _, _, _, rfl, rfl, by omega, by omega, by omega, hcx, by omega, (parts_sync HP2.out), swap6 hD⟩, by simp [intOf]; omega⟩
          · have e3' : ¬ (x3 : Int) = 0 := by omega
            go_upto_region 14 with fail
            refine wp_region_later (by kernel_rfl) (by kernel_rfl) ?_
            have lc := Later.cell_of hcell
            have hne := later_ne wr
            repeat (go_big_quiet_step (fail))
            refine wpQuiet_nil ?_
            rintro w9 ⟨u9, rfl⟩
            replace hD := hD.next u9.up
            clear lc hne hcell m0' m1'
            generalize u9.world = w9 at *
            rw [HX.out]
            generalize min (x.size : Int) 300 = mm at *
            go_upto_region 15 with ((with_reducible refine calls_at 14 ?_); (with_reducible refine (pAppend _ 0 1 hD FX.out hXz1 EX.out.2.2 EX.out.2.1 EX.out.1).mono ?_); rintro e w10 ⟨rfl, qx2, cx2, hw⟩; clear hD; have hD := swap6 hw; clear hw)
            go_upto_region 16 with ((with_reducible refine calls_at 14 ?_); (with_reducible refine (pAppend _ 0 1 hD (FY.out cy (by omega)) hXz1 EY.out.2.2 EY.out.2.1 EY.out.1).mono ?_); rintro e w11 ⟨rfl, qy2, cy2, hw⟩; clear hD; have hD := hw; clear hw)
            go_upto_region 20 with fail
            have hcp := up_cell hD.up HCP.out
            go_wp2_with fail
            exact ⟨⟨k + 1, _, cy, m, _, _, _, _, _, _, _, _, _, _, _, rfl, rfl, by omega, by omega, by omega, hcx, by omega, HP2.out, swap6 hD⟩, by simp [intOf]; omega⟩
      · have p1 : ¬ (k : Int) < (np : Int) := by omega
        go_upto_region 14 with fail
        refine wp_region_later (by kernel_rfl) (by kernel_rfl) ?_
        have lc := Later.cell_of hcell
        have hne := later_ne wr
        repeat (go_big_quiet_step (fail))
        refine wpQuiet_nil ?_
        rintro w9 ⟨u9, rfl⟩
        replace hD := hD.next u9.up
        clear lc hne hcell m0' m1'
        generalize u9.world = w9 at *
        rw [HX.out]
        generalize min (x.size : Int) 300 = mm at *
        go_upto_region 15 with ((with_reducible refine calls_at 14 ?_); (with_reducible refine (pAppend _ 0 1 hD FX.out hXz1 EX.out.2.2 EX.out.2.1 EX.out.1).mono ?_); rintro e w10 ⟨rfl, qx2, cx2, hw⟩; clear hD; have hD := swap6 hw; clear hw)
        go_upto_region 16 with ((with_reducible refine calls_at 14 ?_); (with_reducible refine (pAppend _ 0 1 hD (FY.out cy (by omega)) hXz1 EY.out.2.2 EY.out.2.1 EY.out.1).mono ?_); rintro e w11 ⟨rfl, qy2, cy2, hw⟩; clear hD; have hD := hw; clear hw)
        go_upto_region 20 with fail
        go_wp2_with fail
        exact ⟨⟨k + 1, _, cy, m, _, _, _, _, _, _, _, _, _, _, _, rfl, rfl, by omega, by omega, by omega, hcx, by omega, HP2.out, swap6 hD⟩, by simp [intOf]; omega⟩
    · have hne0 : S.toList.isEmpty = false := str_nonempty (by omega)
      have hne1 : ¬ S.toList = [] := by intro h; rw [h] at hne0; cases hne0
      obtain ⟨X2, hX2⟩ : ∃ X2, X.append dX S = X2 := ⟨_, rfl⟩
      obtain ⟨Y2, hY2⟩ : ∃ Y2, Y.append dY S = Y2 := ⟨_, rfl⟩
      rw [hX2, hY2] at s5
      have EX := Lib.hid (And.intro s1 (And.intro s2 hX2))
      have EY := Lib.hid (And.intro s3 (And.intro s4 hY2))
      have HP2 := Lib.hid s5
      clear s1 s2 s3 s4 s5 hI hX2 hY2
      by_cases hp : k < np
      · have p1 : (k : Int) < (np : Int) := by omega
        obtain ⟨gp, op, rfl, hcp, hwf⟩ := HPP.out k hp
        obtain ⟨b, hb, hb256⟩ := u8_nat hwf
        rw [hb] at hcp
        have HCP := Lib.hid hcp
        have r2 : (b : Int) % 2 = ((b % 2 : Nat) : Int) := by omega
        have r3 : (b : Int) % 3 = ((b % 3 : Nat) : Int) := by omega
        obtain ⟨x2, hx2⟩ : ∃ x2, b % 2 = x2 := ⟨_, rfl⟩
        obtain ⟨x3, hx3⟩ : ∃ x3, b % 3 = x3 := ⟨_, rfl⟩
        rw [hx2] at r2
        rw [hx3] at r3
        clear hx2 hx3 hwf hb hcp
        by_cases e2 : x2 = 0
        · subst e2
          by_cases e3 : x3 = 0
          · subst e3
            go_upto_region 14 with fail
            refine wp_region_later (by kernel_rfl) (by kernel_rfl) ?_
            have lc := Later.cell_of hcell
            have hne := later_ne wr
            repeat (go_big_quiet_step (fail))
            refine wpQuiet_nil ?_
            rintro w9 ⟨u9, rfl⟩
            replace hD := hD.next u9.up
            clear lc hne hcell m0' m1'
            generalize u9.world = w9 at *
            rw [HX.out]
            generalize min (x.size : Int) 300 = mm at *
            go_upto_region 15 with ((with_reducible refine calls_at 14 ?_); (with_reducible refine (pAppend _ ((m : Int) + 1) 0 hD FX.out hXz1 EX.out.2.2 EX.out.2.1 EX.out.1).mono ?_); rintro e w10 ⟨rfl, qx2, cx2, hw⟩; clear hD; have hD := swap6 hw; clear hw)
            go_upto_region 16 with ((with_reducible refine calls_at 14 ?_); (with_reducible refine (pAppend _ ((m : Int) + 1) 0 hD (FY.out cy (by omega)) hXz1 EY.out.2.2 EY.out.2.1 EY.out.1).mono ?_); rintro e w11 ⟨rfl, qy2, cy2, hw⟩; clear hD; have hD := hw; clear hw)
            go_upto_region 20 with fail
            have hcp := up_cell hD.up HCP.out
            go_upto_region 22 with ((with_reducible refine calls_at 16 ?_); (with_reducible refine (pWrite 0 hD (HP2.out.iy.fit (by omega) (by rw [HP2.out.ay]; decide) (by rw [← HP2.out.r, HP2.out.m]; omega)) rfl rfl (parts_write HP2.out).2).mono ?_); rintro e w12 ⟨rfl, qd12, c12, hc12, hw⟩; clear hD; have hD := hw; clear hw; clear hcp; have hcp := up_cell hD.up HCP.out)
            go_wp2_with ((with_reducible refine calls_at 18 ?_); (with_reducible refine (pSync hD ((parts_write HP2.out).1.iy.fit (c := c12) (by omega) (by rw [(parts_write HP2.out).1.ay]; decide) (by rw [← (parts_write HP2.out).1.r, (parts_write HP2.out).1.m]; omega)) rfl rfl).mono ?_); rintro e w13 ⟨rfl, ql13, cl13, hw⟩; clear hD; have hD := hw; clear hw)
            exact ⟨⟨k + 1, _, c12, (m + 1), _, _, _, _, _, _, _, _, _, _, _, rfl, rfl, by omega, by omega, by omega, hcx, by omega, (parts_sync (parts_write HP2.out).1), swap6 hD⟩, by simp [intOf]; omega⟩
          · have e3' : ¬ (x3 : Int) = 0 := by omega
            go_upto_region 14 with fail
            refine wp_region_later (by kernel_rfl) (by kernel_rfl) ?_
            have lc := Later.cell_of hcell
            have hne := later_ne wr
            repeat (go_big_quiet_step (fail))
            refine wpQuiet_nil ?_
            rintro w9 ⟨u9, rfl⟩
            replace hD := hD.next u9.up
            clear lc hne hcell m0' m1'
            generalize u9.world = w9 at *
            rw [HX.out]
            generalize min (x.size : Int) 300 = mm at *
            go_upto_region 15 with ((with_reducible refine calls_at 14 ?_); (with_reducible refine (pAppend _ ((m : Int) + 1) 0 hD FX.out hXz1 EX.out.2.2 EX.out.2.1 EX.out.1).mono ?_); rintro e w10 ⟨rfl, qx2, cx2, hw⟩; clear hD; have hD := swap6 hw; clear hw)
            go_upto_region 16 with ((with_reducible refine calls_at 14 ?_); (with_reducible refine (pAppend _ ((m : Int) + 1) 0 hD (FY.out cy (by omega)) hXz1 EY.out.2.2 EY.out.2.1 EY.out.1).mono ?_); rintro e w11 ⟨rfl, qy2, cy2, hw⟩; clear hD; have hD := hw; clear hw)
            go_upto_region 20 with fail
            have hcp := up_cell hD.up HCP.out
            go_wp2_with ((with_reducible refine calls_at 16 ?_); (with_reducible refine (pWrite 0 hD (HP2.out.iy.fit (by omega) (by rw [HP2.out.ay]; decide) (by rw [← HP2.out.r, HP2.out.m]; omega)) rfl rfl (parts_write HP2.out).2).mono ?_); rintro e w12 ⟨rfl, qd12, c12, hc12, hw⟩; clear hD; have hD := hw; clear hw; clear hcp; have hcp := up_cell hD.up HCP.out)
            exact ⟨⟨k + 1, _, c12, (m + 1), _, _, _, _, _, _, _, _, _, _, _, rfl, rfl, by omega, by omega, by omega, hcx, by omega, (parts_write HP2.out).1, swap6 hD⟩, by simp [intOf]; omega⟩
        · have e2' : ¬ (x2 : Int) = 0 := by omega
          by_cases e3 : x3 = 0
          · subst e3
            go_upto_region 14 with fail
            refine wp_region_later (by kernel_rfl) (by kernel_rfl) ?_
            have lc := Later.cell_of hcell
            have hne := later_ne wr
            repeat (go_big_quiet_step (fail))
            refine wpQuiet_nil ?_
            rintro w9 ⟨u9, rfl⟩
            replace hD := hD.next u9.up
            clear lc hne hcell m0' m1'
            generalize u9.world = w9 at *
            rw [HX.out]
            generalize min (x.size : Int) 300 = mm at *
            go_upto_region 15 with ((with_reducible refine calls_at 14 ?_); (with_reducible refine (pAppend _ ((m : Int) + 1) 0 hD FX.out hXz1 EX.out.2.2 EX.out.2.1 EX.out.1).mono ?_); rintro e w10 ⟨rfl, qx2, cx2, hw⟩; clear hD; have hD := swap6 hw; clear hw)
            go_upto_region 16 with ((with_reducible refine calls_at 14 ?_); (with_reducible refine (pAppend _ ((m : Int) + 1) 0 hD (FY.out cy (by omega)) hXz1 EY.out.2.2 EY.out.2.1 EY.out.1).mono ?_); rintro e w11 ⟨rfl, qy2, cy2, hw⟩; clear hD; have hD := hw; clear hw)
            go_upto_region 20 with fail
            have hcp := up_cell hD.up HCP.out
            go_wp2_with ((with_reducible refine calls_at 18 ?_); (with_reducible refine (pSync hD (HP2.out.iy.fit (c := cy) (by omega) (by rw [HP2.out.ay]; decide) (by rw [← HP2.out.r, HP2.out.m]; omega)) rfl rfl).mono ?_); rintro e w13 ⟨rfl, ql13, cl13, hw⟩; clear hD; have hD := hw; clear hw)
            exact ⟨⟨k + 1, _, cy, (m + 1), _, _, _, _, _, _, _, _, _, _, _, rfl, rfl, by omega, by omega, by omega, hcx, by omega, (parts_sync HP2.out), swap6 hD⟩, by simp [intOf]; omega⟩
          · have e3' : ¬ (x3 : Int) = 0 := by omega
            go_upto_region 14 with fail
            refine wp_region_later (by kernel_rfl) (by kernel_rfl) ?_
            have lc := Later.cell_of hcell
            have hne := later_ne wr
            repeat (go_big_quiet_step (fail))
            refine wpQuiet_nil ?_
            rintro w9 ⟨u9, rfl⟩
            replace hD := hD.next u9.up
            clear lc hne hcell m0' m1'
            generalize u9.world = w9 at *
            rw [HX.out]
            generalize min (x.size : Int) 300 = mm at *
            go_upto_region 15 with ((with_reducible refine calls_at 14 ?_); (with_reducible refine (pAppend _ ((m : Int) + 1) 0 hD FX.out hXz1 EX.out.2.2 EX.out.2.1 EX.out.1).mono ?_); rintro e w10 ⟨rfl, qx2, cx2, hw⟩; clear hD; have hD := swap6 hw; clear hw)
            go_upto_region 16 with ((with_reducible refine calls_at 14 ?_); (with_reducible refine (pAppend _ ((m : Int) + 1) 0 hD (FY.out cy (by omega)) hXz1 EY.out.2.2 EY.out.2.1 EY.out.1).mono ?_); rintro e w11 ⟨rfl, qy2, cy2, hw⟩; clear hD; have hD := hw; clear hw)
            go_upto_region 20 with fail
            have hcp := up_cell hD.up HCP.out
            go_wp2_with fail
            exact ⟨⟨k + 1, _, cy, (m + 1), _, _, _, _, _, _, _, _, _, _, _, rfl, rfl, by omega, by omega, by omega, hcx, by omega, HP2.out, swap6 hD⟩, by simp [intOf]; omega⟩
      · have p1 : ¬ (k : Int) < (np : Int) := by omega
        go_upto_region 14 with fail
        refine wp_region_later (by kernel_rfl) (by kernel_rfl) ?_
        have lc := Later.cell_of hcell
        have hne := later_ne wr
        repeat (go_big_quiet_step (fail))
        refine wpQuiet_nil ?_
        rintro w9 ⟨u9, rfl⟩
        replace hD := hD.next u9.up
        clear lc hne hcell m0' m1'
        generalize u9.world = w9 at *
        rw [HX.out]
        generalize min (x.size : Int) 300 = mm at *
        go_upto_region 15 with ((with_reducible refine calls_at 14 ?_); (with_reducible refine (pAppend _ ((m : Int) + 1) 0 hD FX.out hXz1 EX.out.2.2 EX.out.2.1 EX.out.1).mono ?_); rintro e w10 ⟨rfl, qx2, cx2, hw⟩; clear hD; have hD := swap6 hw; clear hw)
        go_upto_region 16 with ((with_reducible refine calls_at 14 ?_); (with_reducible refine (pAppend _ ((m : Int) + 1) 0 hD (FY.out cy (by omega)) hXz1 EY.out.2.2 EY.out.2.1 EY.out.1).mono ?_); rintro e w11 ⟨rfl, qy2, cy2, hw⟩; clear hD; have hD := hw; clear hw)
        go_upto_region 20 with fail
        go_wp2_with fail
        exact ⟨⟨k + 1, _, cy, (m + 1), _, _, _, _, _, _, _, _, _, _, _, rfl, rfl, by omega, by omega, by omega, hcx, by omega, HP2.out, swap6 hD⟩, by simp [intOf]; omega⟩
  · obtain ⟨rx1, rx2, rx3, rx4, rx5, rx6, rx7, rx8, rx9⟩ := reopen hI.ix (by rw [hI.ax]; decide)
    obtain ⟨ry1, ry2, ry3, ry4, ry5, ry6, ry7, ry8, ry9⟩ := reopen hI.iy (by rw [hI.ay]; decide)
    have hpp := parts_pages hI
    rw [← rx6, ← ry6] at hpp
    have hlx := hI.m
    have hly : Y.recs.length = m := by rw [← hI.r]; exact hlx
    have FX0 := Lib.hid (fun c (hc : c ≤ 100000) => hI.ix.fit (c := c) (by omega) (by rw [hI.ax]; decide) (by omega))
    have FY0 := Lib.hid (fun c (hc : c ≤ 100000) => hI.iy.fit (c := c) (by omega) (by rw [hI.ay]; decide) (by omega))
    have FX1 := Lib.hid (fun c (hc : c ≤ 100000) => rx2.fit (c := c) (by omega) (by rw [(write_which (l := X)).2.1, hI.ax]; decide) (by rw [write_recs]; omega))
    have FY1 := Lib.hid (fun c (hc : c ≤ 100000) => ry2.fit (c := c) (by omega) (by rw [(write_which (l := Y)).2.1, hI.ay]; decide) (by rw [write_recs]; omega))
    have RX := Lib.hid (And.intro rx1 trivial)
    have RY := Lib.hid (And.intro ry1 trivial)
    have OX := Lib.hid (And.intro rx7 (And.intro rx8 trivial))
    have OY := Lib.hid (And.intro ry7 (And.intro ry8 trivial))
    obtain ⟨RS, hRS⟩ : ∃ RS, X.recs = RS := ⟨_, rfl⟩
    have hRY : Y.recs = RS := by rw [← hI.r]; exact hRS
    rw [hRS] at hlx rx5 rx9
    rw [hRY] at ry5 ry9
    have RSM := Lib.hid hlx
    have OXR := Lib.hid rx9
    have OYR := Lib.hid ry9
    have SXR := Lib.hid rx5
    have OX2 := Lib.hid (show (openL (X.writeD dX).syncD).recs.length = m by rw [rx9]; exact hlx)
    have OX3 := Lib.hid (show (openL (X.writeD dX).syncD).recs.length ≤ 90000 by rw [rx9]; omega)
    have OY2 := Lib.hid (show (openL (Y.writeD dY).syncD).recs.length = m by rw [ry9]; exact hlx)
    have OY3 := Lib.hid (show (openL (Y.writeD dY).syncD).recs.length ≤ 90000 by rw [ry9]; omega)
    have SX2 := Lib.hid (show X.write.sync.recs.length = m by rw [rx5]; exact hlx)
    have SX3 := Lib.hid (show X.write.sync.recs.length ≤ 90000 by rw [rx5]; omega)
    obtain ⟨vx, hvx⟩ : ∃ vx, X.write.sync.pages = vx := ⟨_, rfl⟩
    obtain ⟨vy, hvy⟩ : ∃ vy, Y.write.sync.pages = vy := ⟨_, rfl⟩
    rw [hvx, hvy] at hpp
    have SXP := Lib.hid hvx
    have SYP := Lib.hid hvy
    have hpp2 : (vx : Int) ≤ (vy : Int) := by omega
    clear rx1 rx2 rx3 rx4 rx5 rx6 rx7 rx8 rx9 ry1 ry2 ry3 ry4 ry5 ry6 ry7 ry8 ry9 hpp hlx hly hI hRS hRY hvx hvy
    rcases Nat.lt_or_ge k n1 with hlt | hge
    · have j1 : (k : Int) < (n1 : Int) := by omega
      have j2 : ¬ (k : Int) < 12 := by omega
      go_upto_region 26 with (first
        | ((with_reducible refine calls_ptr 16 gx ?_); (with_reducible refine (pWrite 0 hD (FX0.out cx (by omega)) rfl rfl RX.out.1).mono ?_); rintro e w20 ⟨rfl, q20, c20, hc20, hw⟩; clear hD; have hD := swap6 hw; clear hw)
        | ((with_reducible refine calls_ptr 16 gy ?_); (with_reducible refine (pWrite 0 hD (FY0.out cy (by omega)) rfl rfl RY.out.1).mono ?_); rintro e w21 ⟨rfl, q21, c21, hc21, hw⟩; clear hD; have hD := swap6 hw; clear hw))
      go_upto_region 28 with (first
        | ((with_reducible refine calls_ptr 18 gx ?_); (with_reducible refine (pSync hD (FX1.out c20 (by omega)) rfl rfl).mono ?_); rintro e w22 ⟨rfl, ql22, cl22, hw⟩; clear hD; have hD := swap6 hw; clear hw)
        | ((with_reducible refine calls_ptr 18 gy ?_); (with_reducible refine (pSync hD (FY1.out c21 (by omega)) rfl rfl).mono ?_); rintro e w23 ⟨rfl, ql23, cl23, hw⟩; clear hD; have hD := swap6 hw; clear hw))
      go_upto_region 30 with (first
        | ((with_reducible refine calls_ptr 12 g1 ?_); (with_reducible refine (pOpen hD (by omega) OX.out.2.1.ok OX.out.1 rfl).mono ?_); rintro e w24 ⟨gu, rfl, qu, cu, hw⟩; clear hD; have hD := front6 hw; clear hw)
        | ((with_reducible refine calls_ptr 12 g2 ?_); (with_reducible refine (pOpen hD (by omega) OY.out.2.1.ok OY.out.1 rfl).mono ?_); rintro e w25 ⟨gv, rfl, qv, cv, hw⟩; clear hD; have hD := hw; clear hw))
      go_wp2_with (first
        | ((with_reducible refine calls_ptr 28 gu ?_); refine (zRec m hD 4 rfl 5 rfl OX3.out OX2.out).mono ?_; rintro e w28 ⟨qr1, cr1, rfl, hcr1, hra1, hu⟩; replace hD := hD.next hu; try rw [OXR.out] at hra1; have HA1 := Lib.hid hra1; clear hu hra1)
        | ((with_reducible refine calls_ptr 28 gv ?_); refine (zRec m hD 1 rfl 2 rfl OY3.out OY2.out).mono ?_; rintro e w29 ⟨qr2, cr2, rfl, hcr2, hra2, hu⟩; replace hD := hD.next hu; try rw [OYR.out] at hra2; have HB1 := Lib.hid hra2; have HB2 := Lib.hid (HA1.out.up hu); clear hu hra2)
        | ((with_reducible refine calls_ptr 28 gx ?_); refine (zRec m hD 6 rfl 7 rfl SX3.out SX2.out).mono ?_; rintro e w30 ⟨qr3, cr3, rfl, hcr3, hra3, hu⟩; replace hD := hD.next hu; try rw [SXR.out] at hra3; have HC1 := Lib.hid hra3; have HC2 := Lib.hid (HA1.out.up hu); clear hu hra3)
        | ((with_reducible refine calls_at 30 ?_); (with_reducible refine (zSame RS RSM.out HC2.out HC1.out (by omega)).mono ?_); rintro e w32 ⟨rfl, hu⟩; replace hD := hD.next hu; clear hu)
        | ((with_reducible refine calls_at 30 ?_); (with_reducible refine (zSame RS RSM.out HB2.out HB1.out (by omega)).mono ?_); rintro e w31 ⟨rfl, hu⟩; replace hD := hD.next hu; clear hu)
        | ((with_reducible refine calls_ptr 33 gx ?_); (with_reducible refine (zPages vx hD 6 rfl SXP.out).mono ?_); rintro e w33 ⟨rfl, rfl⟩)
        | ((with_reducible refine calls_ptr 33 gy ?_); (with_reducible refine (zPages vy hD 8 rfl SYP.out).mono ?_); rintro e w34 ⟨rfl, rfl⟩)
        | ((with_reducible refine (CX.out _).mono ?_); rintro e w35 ⟨rfl, hu⟩; replace hD := hD.next hu; clear hu))
      go_ret
      exact ⟨rfl, hD.up⟩
    · have j1 : ¬ (k : Int) < (n1 : Int) := by omega
      go_upto_region 26 with (first
        | ((with_reducible refine calls_ptr 16 gx ?_); (with_reducible refine (pWrite 0 hD (FX0.out cx (by omega)) rfl rfl RX.out.1).mono ?_); rintro e w20 ⟨rfl, q20, c20, hc20, hw⟩; clear hD; have hD := swap6 hw; clear hw)
        | ((with_reducible refine calls_ptr 16 gy ?_); (with_reducible refine (pWrite 0 hD (FY0.out cy (by omega)) rfl rfl RY.out.1).mono ?_); rintro e w21 ⟨rfl, q21, c21, hc21, hw⟩; clear hD; have hD := swap6 hw; clear hw))
      go_upto_region 28 with (first
        | ((with_reducible refine calls_ptr 18 gx ?_); (with_reducible refine (pSync hD (FX1.out c20 (by omega)) rfl rfl).mono ?_); rintro e w22 ⟨rfl, ql22, cl22, hw⟩; clear hD; have hD := swap6 hw; clear hw)
        | ((with_reducible refine calls_ptr 18 gy ?_); (with_reducible refine (pSync hD (FY1.out c21 (by omega)) rfl rfl).mono ?_); rintro e w23 ⟨rfl, ql23, cl23, hw⟩; clear hD; have hD := swap6 hw; clear hw))
      go_upto_region 30 with (first
        | ((with_reducible refine calls_ptr 12 g1 ?_); (with_reducible refine (pOpen hD (by omega) OX.out.2.1.ok OX.out.1 rfl).mono ?_); rintro e w24 ⟨gu, rfl, qu, cu, hw⟩; clear hD; have hD := front6 hw; clear hw)
        | ((with_reducible refine calls_ptr 12 g2 ?_); (with_reducible refine (pOpen hD (by omega) OY.out.2.1.ok OY.out.1 rfl).mono ?_); rintro e w25 ⟨gv, rfl, qv, cv, hw⟩; clear hD; have hD := hw; clear hw))
      go_wp2_with (first
        | ((with_reducible refine calls_ptr 28 gu ?_); refine (zRec m hD 4 rfl 5 rfl OX3.out OX2.out).mono ?_; rintro e w28 ⟨qr1, cr1, rfl, hcr1, hra1, hu⟩; replace hD := hD.next hu; try rw [OXR.out] at hra1; have HA1 := Lib.hid hra1; clear hu hra1)
        | ((with_reducible refine calls_ptr 28 gv ?_); refine (zRec m hD 1 rfl 2 rfl OY3.out OY2.out).mono ?_; rintro e w29 ⟨qr2, cr2, rfl, hcr2, hra2, hu⟩; replace hD := hD.next hu; try rw [OYR.out] at hra2; have HB1 := Lib.hid hra2; have HB2 := Lib.hid (HA1.out.up hu); clear hu hra2)
        | ((with_reducible refine calls_ptr 28 gx ?_); refine (zRec m hD 6 rfl 7 rfl SX3.out SX2.out).mono ?_; rintro e w30 ⟨qr3, cr3, rfl, hcr3, hra3, hu⟩; replace hD := hD.next hu; try rw [SXR.out] at hra3; have HC1 := Lib.hid hra3; have HC2 := Lib.hid (HA1.out.up hu); clear hu hra3)
        | ((with_reducible refine calls_at 30 ?_); (with_reducible refine (zSame RS RSM.out HC2.out HC1.out (by omega)).mono ?_); rintro e w32 ⟨rfl, hu⟩; replace hD := hD.next hu; clear hu)
        | ((with_reducible refine calls_at 30 ?_); (with_reducible refine (zSame RS RSM.out HB2.out HB1.out (by omega)).mono ?_); rintro e w31 ⟨rfl, hu⟩; replace hD := hD.next hu; clear hu)
        | ((with_reducible refine calls_ptr 33 gx ?_); (with_reducible refine (zPages vx hD 6 rfl SXP.out).mono ?_); rintro e w33 ⟨rfl, rfl⟩)
        | ((with_reducible refine calls_ptr 33 gy ?_); (with_reducible refine (zPages vy hD 8 rfl SYP.out).mono ?_); rintro e w34 ⟨rfl, rfl⟩)
        | ((with_reducible refine (CX.out _).mono ?_); rintro e w35 ⟨rfl, hu⟩; replace hD := hD.next hu; clear hu))
      go_ret
      exact ⟨rfl, hD.up⟩
end parts
end Go.Proofs.Ytokpkkjgagbpfaa
