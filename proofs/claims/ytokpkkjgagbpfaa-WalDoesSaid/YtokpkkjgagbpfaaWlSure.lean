/- WalSure: the walk. -/
import Derived.Test.YtokpkkjgagbpfaaWlRoomA
import Derived.Test.YtokpkkjgagbpfaaWlOpen
namespace Bw
set_option linter.unusedVariables false
def xLost : ByteArray := ⟨#[108, 111, 115, 116]⟩
/-- What comes behind the last call that takes anything. -/
structure SureEnd (L : LogD) (d : DiskD) (F : List Int) (L1 : LogD) (d1 : DiskD) (L2 : LogD) (d2 : DiskD) (L3 L4 : LogD) (d4 d5 : DiskD) (R : LogD) : Prop where
  e1 : L.write = L1 ∧ L.writeD d = d1 ∧ L.writeE = 0
  e2 : L1.sync = L2 ∧ d1.syncD = d2
  e3 : L2.append d2 xLost = L3
  e4 : L3.write = L4 ∧ L3.writeD d2 = d4 ∧ L3.writeE = 0
  e5 : d4.crashD F = d5
  e6 : openLE d5 = 0 ∧ openL d5 = R
  f1 : ∀ c : Nat, c ≤ 100000 → ∀ x, (x = L → LogFit x d c)
  i1 : InvA L1 d1 0 ∧ L1.age = 1 ∧ L1.recs.length = L.recs.length
  i2 : ∃ s, InvA L2 d2 s ∧ L2.age = 1 ∧ L2.recs.length = L.recs.length ∧ InvA L3 d2 s ∧ L3.age = 1 ∧ L3.recs.length ≤ L.recs.length + 1 ∧ InvA L4 d4 s ∧ L4.age = 1
  i5 : InvA R d5 R.pages
  r1 : L.recs.length ≤ R.recs.length
  r2 : R.recs.length ≤ L.recs.length + 1
  r3 : startsS L.recs R.recs = true
theorem append_age {L : LogD} {d : DiskD} (x : ByteArray) : (L.append d x).age = L.age ∧ (L.append d x).written = L.written ∧ (L.append d x).sure = L.sure ∧ (L.append d x).turned = L.turned ∧ (L.append d x).which = L.which ∧ (L.append d x).pages = L.pages := by
  unfold LogD.append; split <;> exact ⟨rfl, rfl, rfl, rfl, rfl, rfl⟩
theorem append_recs {L : LogD} {d : DiskD} (x : ByteArray) : (L.append d x).recs = L.recs ∨ (L.append d x).recs = L.recs ++ [x] := by
  unfold LogD.append; split
  · exact .inr rfl
  · exact .inl rfl
theorem sure_end {L : LogD} {d : DiskD} (h : InvA L d 0) (ha : L.age = 1) (hn : L.recs.length ≤ 1000) (F : List Int) :
    ∃ L1 d1 L2 d2 L3 L4 d4 d5 R, SureEnd L d F L1 d1 L2 d2 L3 L4 d4 d5 R := by
  obtain ⟨w1, w2, w3⟩ := write_ok' (d := d) h.turned
  have i1 := h.write (by rw [ha]; decide)
  have a1 : L.write.age = 1 := by rw [w2]; exact ha
  have r1 : L.write.recs = L.recs := write_recs L
  have wr1 : L.write.written = L.recs.length := by rw [w2]
  have i2 := i1.sync
  have s2 := sync_no i1.turned
  have a2 : L.write.sync.age = 1 := by rw [s2]; exact a1
  have rr2 : L.write.sync.recs = L.recs := by rw [s2]; exact r1
  have su2 : L.write.sync.sure = L.recs.length := by rw [s2]; exact wr1
  have i3 := i2.append xLost
  obtain ⟨b1, b2, b3, b4, b5, b6⟩ := append_age (L := L.write.sync) (d := (L.writeD d).syncD) xLost
  have a3 : (L.write.sync.append (L.writeD d).syncD xLost).age = 1 := by rw [b1, a2]
  have rr3 := append_recs (L := L.write.sync) (d := (L.writeD d).syncD) xLost
  rw [rr2] at rr3
  rw [su2] at b3
  have i4 := i3.write (by rw [a3]; decide)
  obtain ⟨v1, v2, v3⟩ := write_ok' (d := (L.writeD d).syncD) i3.turned
  generalize hL3 : L.write.sync.append (L.writeD d).syncD xLost = L3 at *
  have a4 : L3.write.age = 1 := by rw [v2]; exact a3
  have wr4 : L3.write.written = L3.recs.length := by rw [v2]
  have rc4 : L3.write.recs = L3.recs := write_recs L3
  have su4 : L3.write.sure = L.recs.length := by rw [v2]; exact b3
  have cr := i4.crash F (by rw [a4]; decide)
  obtain ⟨x, hx⟩ := cr.pre
  rw [wr4, rc4, List.take_length] at hx
  have hsu := cr.sure
  rw [su4] at hsu
  have hlen := congrArg List.length hx
  rw [List.length_append] at hlen
  have hl3 : L3.recs.length ≤ L.recs.length + 1 := by
    rcases rr3 with e | e <;> rw [e]
    · omega
    · simp
  refine ⟨_, _, _, _, L3, _, _, _, _, ⟨⟨rfl, rfl, w1⟩, ⟨rfl, rfl⟩, hL3, ⟨rfl, rfl, v1⟩, rfl, ⟨cr.openE, rfl⟩, fun c hc x hx => by rw [hx]; exact h.fit (by omega) (by rw [ha]; decide) (by omega), ⟨i1, a1, by rw [r1]⟩, ⟨_, i2, a2, by rw [rr2], i3, a3, hl3, i4, a4⟩, cr.inv, hsu, by omega, ?_⟩⟩
  have ht : (openL ((L3.writeD (L.writeD d).syncD).crashD F)).recs.take L.recs.length = L.recs := by
    have e1 : ((openL ((L3.writeD (L.writeD d).syncD).crashD F)).recs ++ x).take L.recs.length = (openL ((L3.writeD (L.writeD d).syncD).crashD F)).recs.take L.recs.length := List.take_append_of_le_length hsu
    rw [← e1, ← hx]
    rcases rr3 with e | e <;> rw [e]
    · exact List.take_length
    · rw [List.take_append_of_le_length (Nat.le_refl _), List.take_length]
  unfold startsS sameS
  rw [ht, decide_eq_true hsu]
  simp
end Bw
namespace Go.Proofs.Ytokpkkjgagbpfaa
open Go.RowKit Bw
set_option linter.unusedVariables false
theorem slice_ints (q : Option Addr) (n c m : Nat) (hm : m ≤ c) (w : World) : (Instr.sliceAt 37 (.slice q n c) none (some (.int .i64 (m : Int))) none).run Try.prog w = .ok (.slice q m c) w := by
  have hu : Try.prog.underlying 37 = some (.slice (Try.prog.elem 37)) := by kernel_rfl
  have h1 := run_sliceAt_slice (P := Try.prog) (w := w) 37 (.slice q n c) none (some (.int .i64 (m : Int))) none hu
  have h2 := run_slice_h (P := Try.prog) (w := w) 37 q n c hu .i64 (m : Int) (by omega) (by omega)
  have hs : (sizeOf (Try.prog.elem 37)).run Try.prog w = .ok 1 w := by kernel_rfl
  rw [hs] at h2
  refine h1.trans (h2.trans ?_)
  have e : sliced q 0 ((m : Int).toNat) c 1 = .slice (recQ q c 0) m c := rfl
  show Result.ok (sliced q 0 ((m : Int).toNat) c 1) w = _
  rw [e, recQ_zero]
theorem ints_take {w : World} {q : Option Addr} {F : List Int} (h : IntsAt w q F) (m : Nat) : IntsAt w q (F.take m) := fun k hk => by
  rw [List.length_take] at hk
  obtain ⟨g, o, h1, h2⟩ := h k (by omega)
  exact ⟨g, o, h1, by rw [h2, List.getElem_take]⟩
variable {W w : World} {g a c gl cl : Nat} {q : Option Nat} {ql : Option Addr} {d d' : DiskD} {L L' : LogD} {rest l : List Res}
/-- A crash whose fates came in. -/
theorem pCrash (F : List Int) (M : Nat) (fa : Option Addr) (fc : Nat) (hF : IntsAt W fa F) (hM : F.length = M) (hM2 : M ≤ 1000) (h : Hold W w (diskR g a q c d :: rest)) (hc : c ≤ 200000) (hw : d.W.length ≤ 512) (h1 : d.crashD F = d') :
    Calls Try.prog 22 #[.pointer (some ⟨g, 0, none⟩), .slice fa M fc] w fun e w' => e = .returned (.tuple #[]) ∧ Hold W w' (diskR g a none c d' :: rest) := by
  subst h1 hM
  refine tCrash h (by omega) F fa fc (hF.up h.up) (by omega) fun hne x hx hk => ?_
  have h1 := hF.lt hne x hx
  have h2 := h.new 0 rfl x.block hk
  omega
/-- Records in new memory, as long as they are. -/
def NewRec (w : World) (rs : List ByteArray) (n : Nat) (e : Ending) (w' : World) : Prop := ∃ q c, e = .returned (.slice q n c) ∧ n ≤ c ∧ RecsAt w' q rs ∧ Up w w'
theorem zRec (n : Nat) (h : Hold W w l) (i : Nat) {vD : Value} (hi : l[i]? = some (logRow gl vD L ql cl)) (k : Nat) (hk : l[k]? = some (recsR ql cl L.recs)) (hn : L.recs.length ≤ 90000) (hm : L.recs.length = n) :
    Calls Try.prog 28 #[.pointer (some ⟨gl, 0, none⟩)] w (NewRec w L.recs n) := by
  subst hm
  refine (wal_Records h i hi k hk (by omega)).mono fun e w' ⟨q, c, he, hh⟩ => ⟨q, c, he, ?_, recs_all hh (k := 0) rfl, hh.up⟩
  have h' : w'.ownsRow 0 9 1 (.slice q L.recs.length c) L.recs.length (strC L.recs) := hh.get 0 rfl
  rcases h'.2 with ⟨h0, h1⟩ | ⟨g, cap, cur, he, hb, hg, hnc, -⟩
  · omega
  · injection he with h1 _ h3
    omega
theorem zDirty (h : Hold W w (diskR g a q c d :: rest)) (hc : c ≤ 1000000) (hW : d.W = []) :
    Calls Try.prog 35 #[.pointer (some ⟨g, 0, none⟩)] w fun e w' => ∃ v cap, e = .returned (.slice v 0 cap) ∧ Up w w' :=
  (hDirty h 0 rfl (by omega)).mono fun e w' ⟨v, cap, he, hu, _⟩ => ⟨v, cap, by rw [he]; unfold DiskD.dirtyD; rw [hW]; rfl, hu⟩
/-- A text more behind a slice of texts of the law's own: k is its place among the things, the text lies in a new block. -/
theorem own_more {b c' : Nat} {s : ByteArray} {IN : List ByteArray} {n : Nat} {lst : List Res} (k : Nat) (hn : IN.length = n) (h : Hold W w ((lst ++ [rowR gl (.string s) []]).set k (ownZ 9 1 (.slice (some ⟨b, 0, none⟩) (n + 1) c') (n + 1) (strC IN ++ [.string s])))) (hk : k < lst.length) :
    Hold W w (lst.set k (recsR (some ⟨b, 0, none⟩) c' (IN ++ [s]))) := by
  rw [List.set_append_left _ _ hk] at h
  have h2 := h.drop
  have hl : (IN ++ [s]).length = n + 1 := by rw [List.length_append, hn]; rfl
  unfold recsR
  rw [hl, show strC (IN ++ [s]) = strC IN ++ [.string s] by simp [strC]]
  exact h2
theorem zStarts {q q' : Option Addr} {c c' n m : Nat} (rs ts : List ByteArray) (hn : rs.length = n) (hm : ts.length = m) (h : RecsAt w q rs) (h' : RecsAt w q' ts) (hn2 : n ≤ 1000000) (hm2 : m ≤ 1000000) (hc : m ≤ c') (hs : startsS rs ts = true) :
    Calls Try.prog 29 #[.slice q n c, .slice q' m c'] w fun e w' => e = .returned (.bool true) ∧ Up w w' := by
  subst hn hm
  have := law6_starts (c := c) rs ts h h' hn2 hm2 hc
  rw [hs] at this
  exact this
theorem zSame {q q' : Option Addr} {c c' n : Nat} (rs : List ByteArray) (hn : rs.length = n) (h : RecsAt w q rs) (h' : RecsAt w q' rs) (hn2 : n ≤ 1000000) :
    Calls Try.prog 30 #[.slice q n c, .slice q' n c'] w fun e w' => e = .returned (.bool true) ∧ Up w w' := by
  subst hn
  have := ref2_Same (c := c) (c' := c') rs rs h h' hn2 hn2
  rw [show sameS rs rs = true by unfold sameS; simp] at this
  exact this
namespace sure
set_option maxHeartbeats 4000000 in
set_option maxRecDepth 100000 in
theorem law (ss : List ByteArray) (qs : Option Addr) (cs : Nat) (fs : List Int) (qf : Option Addr) (cf : Nat) (W : World) (hT : TextsIn W qs ss) (hF : fs.length ≤ cf ∧ IntsIn W qf fs) :
    Calls Try.prog 8 #[.slice qs ss.length cs, .slice qf fs.length cf] W fun e w' => e = .returned (.bool true) ∧ Below W.heap.size W w' := by
  have hD := Hold.start W
  obtain ⟨inf, hi0', hz0, hz1, hz2⟩ := infoStr
  have CX := Lib.hid law6_fixed
  have hlen := hT.1
  have hfl := hF.2.1
  unfold maxLen at hlen hfl
  have HT := Lib.hid hT
  obtain ⟨M, hM⟩ : ∃ M, min fs.length 60 = M := ⟨_, rfl⟩
  have HFI := Lib.hid (ints_take hF.2.2.2 M)
  have HFM := Lib.hid (show (fs.take M).length = M by rw [List.length_take]; omega)
  have hsl := fun w => slice_ints qf fs.length cf M (by omega) w
  have hMI : min (fs.length : Int) 60 = (M : Int) := by omega
  have hM60 : M ≤ 60 := by omega
  clear hF hM
  generalize hfn : fs.length = n2 at *
  generalize fs.take M = FS at *
  clear hfn
  have HSL := Lib.hid hsl
  have HMI := Lib.hid hMI
  clear hsl hMI
  generalize hnl : ss.length = n1 at *
  have HNL := Lib.hid hnl
  clear hnl hT
  obtain ⟨o1, o2, o3⟩ := open_new (n := 80) (by omega) (by omega)
  have O1 := Lib.hid o1
  have O2 := Lib.hid o2
  have O3 := Lib.hid o3
  clear o1 o2 o3
  have N1 := Lib.hid (show Calls Try.prog 10 #[.int .i64 80] W _ from tNew 80 (by omega) (by omega) hD)
  go_enter Try.func8, Try.ntmps8
  go_upto_region 2 with ((with_reducible refine N1.out.mono ?_); rintro e w1 ⟨g, a, rfl, hw⟩; clear hD; have hD := hw; clear hw N1)
  go_upto_region 5 with ((with_reducible refine (pOpen hD (by omega) (initD_ok (by omega) (by omega)) O1.out O2.out).mono ?_); rintro e w2 ⟨gl, rfl, ql, cl, hw⟩; clear hD; have hD := hw; clear hw)
  go_upto_region 8 with fail
  replace hD := hD.madeZ 9 1
  replace hD : Hold W _ (trio g a none 0 (initD 80) gl newL ql cl [recsR (some ⟨w2.heap.size, 0, none⟩) 0 newL.recs]) := hD
  generalize w2.heap.size = gi at *
  generalize w2.alloc _ = w3 at *
  go_wp2_with fail
  go_loopw [9, 10] (fun v9 v10 wr => ∃ (k c m : Nat) (q : Option Nat) (L : LogD) (d : DiskD) (ql : Option Addr) (cl : Nat) (qi : Option Addr) (ci : Nat), v9 = .slice qi m ci ∧ L.recs.length = m ∧ v10 = .int .i64 (k : Int) ∧ k ≤ n1 ∧ k ≤ 12 ∧ c ≤ 1000 * k ∧ InvA L d 0 ∧ L.age = 1 ∧ L.recs.length ≤ k ∧ Hold W wr (trio g a q c d gl L ql cl [recsR qi ci L.recs])) (fun _ v _ => n1 - (intOf v).toNat)
  case atStart => exact ⟨0, 0, 0, none, newL, initD 80, ql, cl, some ⟨gi, 0, none⟩, 0, rfl, rfl, rfl, by omega, by omega, by omega, O3.out, rfl, Nat.le_refl _, hD⟩
  case round =>
  clear hD
  obtain ⟨k, c, m, q, L, d, ql, cl, qi, ci, rfl, hm, rfl, hk, hk30, hc, hI, hage, hlk, hD⟩ := hrel
  by_cases hkn : k < n1 ∧ k < 12
  · obtain ⟨hk1, hk2⟩ := hkn
    have j1 : (k : Int) < (n1 : Int) := by omega
    have j2 : (k : Int) < 12 := by omega
    have hkl : k < ss.length := by rw [HNL.out]; exact hk1
    obtain ⟨gs, os, rfl, hcell⟩ := (HT.out.up hD.up).2.2 k hkl
    have hsz := HT.out.2.1 _ (List.getElem_mem hkl)
    unfold maxLen at hsz
    have hx700 := cutB_size 700 ss[k]
    have HX := Lib.hid (show ss[k].extract 0 (min (ss[k].size : Int) 700).toNat = cutB 700 ss[k] from cutB_min 700 ss[k])
    have m0' : (0 : Int) ≤ min (ss[k].size : Int) 700 := by omega
    have m1' : min (ss[k].size : Int) 700 ≤ (ss[k].size : Int) := by omega
    generalize cutB 700 ss[k] = X at *
    generalize ss[k]'hkl = x at *
    have hXz : X.size ≤ 700 := by omega
    have hIA := hI.append X
    obtain ⟨g1, g2, -⟩ := append_age (L := L) (d := d) X
    rw [hage] at g1
    have hE2 : ∀ E0, L.appendE d X = E0 → (E0 = 0 → (L.append d X).recs = L.recs ++ [X]) ∧ (E0 ≠ 0 → L.append d X = L) := fun E0 e => ⟨fun h => by rw [append_ok (e.trans h)], fun h => append_no (by rw [e]; exact h)⟩
    obtain ⟨L2, hL2⟩ : ∃ L2, L.append d X = L2 := ⟨_, rfl⟩
    obtain ⟨E0, hE0⟩ : ∃ E0, L.appendE d X = E0 := ⟨_, rfl⟩
    obtain ⟨N0, hN0⟩ : ∃ N0, L.appendN d X = N0 := ⟨_, rfl⟩
    have hE3 := hE2 E0 hE0
    rw [hL2] at hIA g1 g2 hE3
    have HS := Lib.hid (show L.appendE d X = E0 ∧ L.appendN d X = N0 ∧ L.append d X = L2 from ⟨hE0, hN0, hL2⟩)
    have HFit := Lib.hid (fun c (hc : c ≤ 100000) => hI.fit (c := c) (by omega) (by rw [hage]; decide) (by omega))
    have hl2 : L2.recs.length ≤ k + 1 := by
      by_cases e : E0 = 0
      · rw [hE3.1 e, List.length_append]; show L.recs.length + 1 ≤ k + 1; omega
      · rw [hE3.2 e]; omega
    have HFit2 := Lib.hid (fun c (hc : c ≤ 100000) => hIA.fit (c := c) (by omega) (by rw [g1]; decide) (by omega))
    have HW2 := Lib.hid (write_ok' (d := d) hIA.turned).1
    have HIW := Lib.hid (hIA.write (by rw [g1]; decide))
    have HAW := Lib.hid (show L2.write.age = 1 by rw [(write_ok' (d := d) hIA.turned).2.1]; exact g1)
    have HRW := Lib.hid (write_recs L2)
    have HIA := Lib.hid hIA
    have HE3 := Lib.hid hE3
    have HL2 := Lib.hid hl2
    clear hx700 hE2 hE0 hN0 hL2 hIA hE3 hkl hl2
    have HLm := Lib.hid hm
    rw [hm] at hlk
    clear hm hI hage
    have hr3 : (k : Int) % 3 = ((k % 3 : Nat) : Int) := by omega
    obtain ⟨r3, hr3'⟩ : ∃ r3, k % 3 = r3 := ⟨_, rfl⟩
    rw [hr3'] at hr3
    clear hr3'
    by_cases e : E0 = 0
    · subst e
      have HR2 := Lib.hid (HE3.out.1 rfl)
      by_cases h3 : r3 = 1
      · subst h3
        go_upto_region 11 with fail
        refine wp_region_later (by kernel_rfl) (by kernel_rfl) ?_
        have lc := Later.cell_of hcell
        have hne := later_ne wr
        repeat (go_big_quiet_step (fail))
        refine wpQuiet_nil ?_
        rintro w9 ⟨u9, rfl⟩
        replace hD := hD.next u9.up
        clear lc hne hcell m0' m1'
        generalize u9.world = w9 at *
        rw [HX.out]
        generalize min (x.size : Int) 700 = mm at *
        go_upto_region 13 with ((with_reducible refine calls_at 14 ?_); (with_reducible refine (pAppend _ N0 _ hD (HFit.out c (by omega)) (by omega) HS.out.2.2 HS.out.2.1 HS.out.1).mono ?_); rintro e w12 ⟨rfl, ql12, cl12, hw⟩; clear hD; have hD := hw; clear hw)
        have hD3 : Hold W w12 (trio g a q c d gl L2 ql12 cl12 [ownZ 9 1 (.slice qi m ci) m (strC L.recs)]) := by rw [← HLm.out]; exact hD
        clear hD
        go_upto_region 15 with ((with_reducible refine wpList_at 73 ?_); have hF := hD3.madeRow (.string X) [] 9; have r7 : RowAt _ w12.heap.size [.string X] := hF.get (R := rowR w12.heap.size (.string X) []) 4 rfl; refine wpList_appendZ rfl _ _ 49 rfl 9 inf (.string ⟨#[]⟩) 1 16 (by kernel_rfl) hi0' hz0 hz1 hz2 rfl (by decide) hF 3 _ (strC L.recs) m rfl rfl ⟨w12.heap.size, 0, none⟩ 1 [.string X] rfl rfl r7.addsAt (strC_one [X]) (by unfold maxLen; omega) (by omega) ?_; intro b9 c9 w6 hw9; clear hF r7)
        have hD := own_more (lst := trio g a q c d gl L2 ql12 cl12 [ownZ 9 1 (.slice qi m ci) m (strC L.recs)]) 3 HLm.out hw9 (show 3 < 4 by decide)
        replace hD : Hold W w6 (trio g a q c d gl L2 ql12 cl12 [recsR (some ⟨b9, 0, none⟩) c9 (L.recs ++ [X])]) := hD
        rw [← HR2.out] at hD
        clear hw9 hD3
        have HM2 := Lib.hid (show L2.recs.length = m + 1 by rw [HR2.out, List.length_append, HLm.out]; rfl)
        go_wp2_with ((with_reducible refine calls_at 16 ?_); (with_reducible refine (pWrite 0 hD (HFit2.out c (by omega)) rfl rfl HW2.out).mono ?_); rintro e w13 ⟨rfl, q13, c13, hc13, hw⟩; clear hD; have hD := hw; clear hw)
        replace hD := hD
        rw [← HRW.out] at hD
        exact ⟨⟨k + 1, c13, _, q13, _, _, ql12, cl12, _, _, rfl, by rw [HRW.out]; exact HM2.out, rfl, by omega, by omega, by omega, HIW.out, HAW.out, by rw [HRW.out]; exact HL2.out, hD⟩, by simp [intOf]; omega⟩
      · have h3' : ¬ (r3 : Int) = 1 := by omega
        go_upto_region 11 with fail
        refine wp_region_later (by kernel_rfl) (by kernel_rfl) ?_
        have lc := Later.cell_of hcell
        have hne := later_ne wr
        repeat (go_big_quiet_step (fail))
        refine wpQuiet_nil ?_
        rintro w9 ⟨u9, rfl⟩
        replace hD := hD.next u9.up
        clear lc hne hcell m0' m1'
        generalize u9.world = w9 at *
        rw [HX.out]
        generalize min (x.size : Int) 700 = mm at *
        go_upto_region 13 with ((with_reducible refine calls_at 14 ?_); (with_reducible refine (pAppend _ N0 _ hD (HFit.out c (by omega)) (by omega) HS.out.2.2 HS.out.2.1 HS.out.1).mono ?_); rintro e w12 ⟨rfl, ql12, cl12, hw⟩; clear hD; have hD := hw; clear hw)
        have hD3 : Hold W w12 (trio g a q c d gl L2 ql12 cl12 [ownZ 9 1 (.slice qi m ci) m (strC L.recs)]) := by rw [← HLm.out]; exact hD
        clear hD
        go_upto_region 15 with ((with_reducible refine wpList_at 73 ?_); have hF := hD3.madeRow (.string X) [] 9; have r7 : RowAt _ w12.heap.size [.string X] := hF.get (R := rowR w12.heap.size (.string X) []) 4 rfl; refine wpList_appendZ rfl _ _ 49 rfl 9 inf (.string ⟨#[]⟩) 1 16 (by kernel_rfl) hi0' hz0 hz1 hz2 rfl (by decide) hF 3 _ (strC L.recs) m rfl rfl ⟨w12.heap.size, 0, none⟩ 1 [.string X] rfl rfl r7.addsAt (strC_one [X]) (by unfold maxLen; omega) (by omega) ?_; intro b9 c9 w6 hw9; clear hF r7)
        have hD := own_more (lst := trio g a q c d gl L2 ql12 cl12 [ownZ 9 1 (.slice qi m ci) m (strC L.recs)]) 3 HLm.out hw9 (show 3 < 4 by decide)
        replace hD : Hold W w6 (trio g a q c d gl L2 ql12 cl12 [recsR (some ⟨b9, 0, none⟩) c9 (L.recs ++ [X])]) := hD
        rw [← HR2.out] at hD
        clear hw9 hD3
        have HM2 := Lib.hid (show L2.recs.length = m + 1 by rw [HR2.out, List.length_append, HLm.out]; rfl)
        go_wp2_with fail
        exact ⟨⟨k + 1, c, _, q, _, _, ql12, cl12, _, _, rfl, HM2.out, rfl, by omega, by omega, by omega, HIA.out, g1, HL2.out, hD⟩, by simp [intOf]; omega⟩
    · have e2 : (E0 == 0) = false := by simpa using e
      have HR2 := Lib.hid (show L2.recs = L.recs by rw [HE3.out.2 e])
      by_cases h3 : r3 = 1
      · subst h3
        go_upto_region 11 with fail
        refine wp_region_later (by kernel_rfl) (by kernel_rfl) ?_
        have lc := Later.cell_of hcell
        have hne := later_ne wr
        repeat (go_big_quiet_step (fail))
        refine wpQuiet_nil ?_
        rintro w9 ⟨u9, rfl⟩
        replace hD := hD.next u9.up
        clear lc hne hcell m0' m1'
        generalize u9.world = w9 at *
        rw [HX.out]
        generalize min (x.size : Int) 700 = mm at *
        go_upto_region 13 with ((with_reducible refine calls_at 14 ?_); (with_reducible refine (pAppend _ N0 _ hD (HFit.out c (by omega)) (by omega) HS.out.2.2 HS.out.2.1 HS.out.1).mono ?_); rintro e w12 ⟨rfl, ql12, cl12, hw⟩; clear hD; have hD := hw; clear hw)
        rw [← HR2.out] at hD
        have HM2 := Lib.hid (show L2.recs.length = m by rw [HR2.out, HLm.out])
        go_upto_region 15 with fail
        go_wp2_with ((with_reducible refine calls_at 16 ?_); (with_reducible refine (pWrite 0 hD (HFit2.out c (by omega)) rfl rfl HW2.out).mono ?_); rintro e w13 ⟨rfl, q13, c13, hc13, hw⟩; clear hD; have hD := hw; clear hw)
        replace hD := hD
        rw [← HRW.out] at hD
        exact ⟨⟨k + 1, c13, _, q13, _, _, ql12, cl12, _, _, rfl, by rw [HRW.out]; exact HM2.out, rfl, by omega, by omega, by omega, HIW.out, HAW.out, by rw [HRW.out]; exact HL2.out, hD⟩, by simp [intOf]; omega⟩
      · have h3' : ¬ (r3 : Int) = 1 := by omega
        go_upto_region 11 with fail
        refine wp_region_later (by kernel_rfl) (by kernel_rfl) ?_
        have lc := Later.cell_of hcell
        have hne := later_ne wr
        repeat (go_big_quiet_step (fail))
        refine wpQuiet_nil ?_
        rintro w9 ⟨u9, rfl⟩
        replace hD := hD.next u9.up
        clear lc hne hcell m0' m1'
        generalize u9.world = w9 at *
        rw [HX.out]
        generalize min (x.size : Int) 700 = mm at *
        go_upto_region 13 with ((with_reducible refine calls_at 14 ?_); (with_reducible refine (pAppend _ N0 _ hD (HFit.out c (by omega)) (by omega) HS.out.2.2 HS.out.2.1 HS.out.1).mono ?_); rintro e w12 ⟨rfl, ql12, cl12, hw⟩; clear hD; have hD := hw; clear hw)
        rw [← HR2.out] at hD
        have HM2 := Lib.hid (show L2.recs.length = m by rw [HR2.out, HLm.out])
        go_upto_region 15 with fail
        go_wp2_with fail
        exact ⟨⟨k + 1, c, _, q, _, _, ql12, cl12, _, _, rfl, HM2.out, rfl, by omega, by omega, by omega, HIA.out, g1, HL2.out, hD⟩, by simp [intOf]; omega⟩
  · obtain ⟨L1, d1, L2, d2, L3, L4, d4, d5, R, ⟨e1, e2, e3, e4, e5, e6, f1, ⟨i1, a1, n1'⟩, ⟨s, i2, a2, n2', i3, a3, n3, i4, a4⟩, i5, r1, r2, r3⟩⟩ := sure_end hI hage (by omega) FS
    obtain ⟨N2, hN2⟩ : ∃ N2, L2.appendN d2 xLost = N2 := ⟨_, rfl⟩
    obtain ⟨Z2, hZ2⟩ : ∃ Z2, L2.appendE d2 xLost = Z2 := ⟨_, rfl⟩
    obtain ⟨mr, hmr⟩ : ∃ mr, R.recs.length = mr := ⟨_, rfl⟩
    rw [hm] at hlk r1 r2 n1' n2' n3
    rw [hmr] at r1 r2
    have F0 := Lib.hid (fun c hc => f1 c hc L rfl)
    have F1 := Lib.hid (fun c (hc : c ≤ 100000) => i1.fit (c := c) (by omega) (by rw [a1]; decide) (by omega))
    have F2 := Lib.hid (fun c (hc : c ≤ 100000) => i2.fit (c := c) (by omega) (by rw [a2]; decide) (by omega))
    have F3 := Lib.hid (fun c (hc : c ≤ 100000) => i3.fit (c := c) (by omega) (by rw [a3]; decide) (by omega))
    have E1 := Lib.hid e1
    have E2 := Lib.hid e2
    have E3 := Lib.hid (show L2.append d2 xLost = L3 ∧ L2.appendN d2 xLost = N2 ∧ L2.appendE d2 xLost = Z2 from ⟨e3, hN2, hZ2⟩)
    have E4 := Lib.hid e4
    have E5 := Lib.hid e5
    have E6 := Lib.hid e6
    have WL := Lib.hid i4.wlen
    have IR := Lib.hid i5
    have R3 := Lib.hid r3
    have RM := Lib.hid hmr
    have RN := Lib.hid (show R.recs.length ≤ 90000 by omega)
    have HM := Lib.hid hm
    have DW := Lib.hid (show d5.W = [] by rw [← e5]; rfl)
    have hmk : m ≤ 12 := by omega
    clear e1 e2 e3 e4 e5 e6 f1 i1 a1 n1' i2 a2 n2' i3 a3 n3 i4 a4 i5 r3 hmr hm hN2 hZ2 hI hage hlk
    rcases Nat.lt_or_ge k n1 with hlt | hge
    · have j1 : (k : Int) < (n1 : Int) := by omega
      have j2 : ¬ (k : Int) < 12 := by omega
      go_upto_region 20 with (first
        | ((with_reducible refine calls_at 16 ?_); (with_reducible refine (pWrite 0 hD (F0.out c (by omega)) E1.out.1 E1.out.2.1 E1.out.2.2).mono ?_); rintro e w20 ⟨rfl, q20, c20, hc20, hw⟩; clear hD; have hD := hw; clear hw)
        | ((with_reducible refine calls_at 18 ?_); (with_reducible refine (pSync hD (F1.out c20 (by omega)) E2.out.1 E2.out.2).mono ?_); rintro e w21 ⟨rfl, ql21, cl21, hw⟩; clear hD; have hD := hw; clear hw))
      go_upto_region 22 with (first
        | ((with_reducible refine calls_at 14 ?_); refine (pAppend ⟨#[108, 111, 115, 116]⟩ N2 Z2 hD (F2.out c20 (by omega)) (by decide) E3.out.1 E3.out.2.1 E3.out.2.2).mono ?_; rintro e w22 ⟨rfl, ql22, cl22, hw⟩; clear hD; have hD := hw; clear hw)
        | ((with_reducible refine calls_at 16 ?_); (with_reducible refine (pWrite 0 hD (F3.out c20 (by omega)) E4.out.1 E4.out.2.1 E4.out.2.2).mono ?_); rintro e w23 ⟨rfl, q23, c23, hc23, hw⟩; clear hD; have hD := hw; clear hw))
      have hsl := HSL.out
      have hMI := HMI.out
      go_upto_region 23 with ((with_reducible refine calls_at 22 ?_); (with_reducible refine (pCrash FS M qf cf HFI.out HFM.out (by omega) hD (by omega) WL.out E5.out).mono ?_); rintro e w24 ⟨rfl, hw⟩; clear hD; have hD := hw; clear hw)
      clear hsl hMI
      go_upto_region 24 with ((with_reducible refine calls_at 12 ?_); (with_reducible refine (pOpen hD (by omega) IR.out.ok E6.out.1 E6.out.2).mono ?_); rintro e w25 ⟨ga, rfl, qa, ca, hw⟩; clear hD; have hD := hw; clear hw)
      go_upto_region 25 with ((with_reducible refine calls_at 12 ?_); (with_reducible refine (pOpen hD (by omega) IR.out.ok E6.out.1 E6.out.2).mono ?_); rintro e w26 ⟨gb, rfl, qb, cb, hw⟩; clear hD; have hD := hw; clear hw)
      go_upto_region 28 with (first
        | ((with_reducible refine calls_at 35 ?_); (with_reducible refine (zDirty hD (by omega) DW.out).mono ?_); rintro e w27 ⟨v27, c27, rfl, hu⟩; replace hD := hD.next hu; clear hu)
        | ((with_reducible refine calls_at 28 ?_); (with_reducible refine (zRec mr hD 3 rfl 4 rfl RN.out RM.out).mono ?_); rintro e w28 ⟨qr, cr, rfl, hcr, hra, hu⟩; replace hD := hD.next hu; clear hu))
      have hin : RecsAt w28 qi L.recs := recs_all hD (k := 7) rfl
      have g1 : (mr : Int) ≥ (m : Int) := by omega
      have g2 : (mr : Int) ≤ (m : Int) + 1 := by omega
      have HIN := Lib.hid hin
      have HRA := Lib.hid hra
      clear hin hra
      go_wp2_with (first
        | ((with_reducible refine calls_at 29 ?_); (with_reducible refine (zStarts L.recs R.recs HM.out RM.out HIN.out HRA.out (by omega) (by omega) hcr R3.out).mono ?_); rintro e w29 ⟨rfl, hu⟩; replace hD := hD.next hu; have HRA2 := Lib.hid (HRA.out.up hu); clear hu)
        | ((with_reducible refine calls_at 28 ?_); (with_reducible refine (zRec mr hD 1 rfl 2 rfl RN.out RM.out).mono ?_); rintro e w30 ⟨qr2, cr2, rfl, hcr2, hrb, hu⟩; replace hD := hD.next hu; have HRA3 := Lib.hid (HRA2.out.up hu); clear hu)
        | ((with_reducible refine calls_at 30 ?_); (with_reducible refine (zSame R.recs RM.out hrb HRA3.out (by omega)).mono ?_); rintro e w31 ⟨rfl, hu⟩; replace hD := hD.next hu; clear hu)
        | ((with_reducible refine calls_ptr 32 ga ?_); (with_reducible refine (wal_Age hD 3 rfl).mono ?_); rintro e w32 ⟨rfl, rfl⟩)
        | ((with_reducible refine calls_ptr 32 gb ?_); (with_reducible refine (wal_Age hD 1 rfl).mono ?_); rintro e w33 ⟨rfl, rfl⟩)
        | ((with_reducible refine (CX.out _).mono ?_); rintro e w34 ⟨rfl, hu⟩; replace hD := hD.next hu; clear hu))
      go_ret
      exact ⟨rfl, hD.up⟩
    · have j1 : ¬ (k : Int) < (n1 : Int) := by omega
      go_upto_region 20 with (first
        | ((with_reducible refine calls_at 16 ?_); (with_reducible refine (pWrite 0 hD (F0.out c (by omega)) E1.out.1 E1.out.2.1 E1.out.2.2).mono ?_); rintro e w20 ⟨rfl, q20, c20, hc20, hw⟩; clear hD; have hD := hw; clear hw)
        | ((with_reducible refine calls_at 18 ?_); (with_reducible refine (pSync hD (F1.out c20 (by omega)) E2.out.1 E2.out.2).mono ?_); rintro e w21 ⟨rfl, ql21, cl21, hw⟩; clear hD; have hD := hw; clear hw))
      go_upto_region 22 with (first
        | ((with_reducible refine calls_at 14 ?_); refine (pAppend ⟨#[108, 111, 115, 116]⟩ N2 Z2 hD (F2.out c20 (by omega)) (by decide) E3.out.1 E3.out.2.1 E3.out.2.2).mono ?_; rintro e w22 ⟨rfl, ql22, cl22, hw⟩; clear hD; have hD := hw; clear hw)
        | ((with_reducible refine calls_at 16 ?_); (with_reducible refine (pWrite 0 hD (F3.out c20 (by omega)) E4.out.1 E4.out.2.1 E4.out.2.2).mono ?_); rintro e w23 ⟨rfl, q23, c23, hc23, hw⟩; clear hD; have hD := hw; clear hw))
      have hsl := HSL.out
      have hMI := HMI.out
      go_upto_region 23 with ((with_reducible refine calls_at 22 ?_); (with_reducible refine (pCrash FS M qf cf HFI.out HFM.out (by omega) hD (by omega) WL.out E5.out).mono ?_); rintro e w24 ⟨rfl, hw⟩; clear hD; have hD := hw; clear hw)
      clear hsl hMI
      go_upto_region 24 with ((with_reducible refine calls_at 12 ?_); (with_reducible refine (pOpen hD (by omega) IR.out.ok E6.out.1 E6.out.2).mono ?_); rintro e w25 ⟨ga, rfl, qa, ca, hw⟩; clear hD; have hD := hw; clear hw)
      go_upto_region 25 with ((with_reducible refine calls_at 12 ?_); (with_reducible refine (pOpen hD (by omega) IR.out.ok E6.out.1 E6.out.2).mono ?_); rintro e w26 ⟨gb, rfl, qb, cb, hw⟩; clear hD; have hD := hw; clear hw)
      go_upto_region 28 with (first
        | ((with_reducible refine calls_at 35 ?_); (with_reducible refine (zDirty hD (by omega) DW.out).mono ?_); rintro e w27 ⟨v27, c27, rfl, hu⟩; replace hD := hD.next hu; clear hu)
        | ((with_reducible refine calls_at 28 ?_); (with_reducible refine (zRec mr hD 3 rfl 4 rfl RN.out RM.out).mono ?_); rintro e w28 ⟨qr, cr, rfl, hcr, hra, hu⟩; replace hD := hD.next hu; clear hu))
      have hin : RecsAt w28 qi L.recs := recs_all hD (k := 7) rfl
      have g1 : (mr : Int) ≥ (m : Int) := by omega
      have g2 : (mr : Int) ≤ (m : Int) + 1 := by omega
      have HIN := Lib.hid hin
      have HRA := Lib.hid hra
      clear hin hra
      go_wp2_with (first
        | ((with_reducible refine calls_at 29 ?_); (with_reducible refine (zStarts L.recs R.recs HM.out RM.out HIN.out HRA.out (by omega) (by omega) hcr R3.out).mono ?_); rintro e w29 ⟨rfl, hu⟩; replace hD := hD.next hu; have HRA2 := Lib.hid (HRA.out.up hu); clear hu)
        | ((with_reducible refine calls_at 28 ?_); (with_reducible refine (zRec mr hD 1 rfl 2 rfl RN.out RM.out).mono ?_); rintro e w30 ⟨qr2, cr2, rfl, hcr2, hrb, hu⟩; replace hD := hD.next hu; have HRA3 := Lib.hid (HRA2.out.up hu); clear hu)
        | ((with_reducible refine calls_at 30 ?_); (with_reducible refine (zSame R.recs RM.out hrb HRA3.out (by omega)).mono ?_); rintro e w31 ⟨rfl, hu⟩; replace hD := hD.next hu; clear hu)
        | ((with_reducible refine calls_ptr 32 ga ?_); (with_reducible refine (wal_Age hD 3 rfl).mono ?_); rintro e w32 ⟨rfl, rfl⟩)
        | ((with_reducible refine calls_ptr 32 gb ?_); (with_reducible refine (wal_Age hD 1 rfl).mono ?_); rintro e w33 ⟨rfl, rfl⟩)
        | ((with_reducible refine (CX.out _).mono ?_); rintro e w34 ⟨rfl, hu⟩; replace hD := hD.next hu; clear hu))
      go_ret
      exact ⟨rfl, hD.up⟩
end sure
end Go.Proofs.Ytokpkkjgagbpfaa
