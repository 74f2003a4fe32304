/- WalDoes: the program's log and the document's side by side; the law's same. -/
import Derived.Test.YtokpkkjgagbpfaaWlRfN
import Derived.Test.YtokpkkjgagbpfaaWlSafe
import Derived.Test.YtokpkkjgagbpfaaWlCut
namespace Go.Proofs.Ytokpkkjgagbpfaa
open Go.RowKit Bw
set_option linter.unusedVariables false
set_option maxRecDepth 100000
/-- The program's disk and log, the document's disk and log, and whatever else there is. -/
abbrev both (g a : Nat) (q : Option Nat) (c : Nat) (d1 : DiskD) (gl : Nat) (L1 : LogD) (ql : Option Addr) (cl : Nat) (gd : Nat) (vL vW : Value) (d : DiskD) (gr : Nat) (L : LogD) (qr : Option Addr) (cr : Nat) (rest : List Res) : List Res :=
  trio g a q c d1 gl L1 ql cl (rowR gd vL [vW] :: rL vL d :: rW vW d.W :: logRow gr (.pointer (some ⟨gd, 0, none⟩)) L qr cr :: recsR qr cr L.recs :: rest)
variable {W w : World} {g a c gl cl gd gr cr : Nat} {q : Option Nat} {ql qr : Option Addr} {vL vW : Value} {d d1 d' : DiskD} {L L1 L' : LogD} {rest : List Res}
theorem bothR (h : Hold W w (both g a q c d1 gl L1 ql cl gd vL vW d gr L qr cr rest)) : Hold W w (rtrio (diskR g a q c d1) gd vL vW d gr L qr cr (logRow gl (.pointer (some ⟨g, 0, none⟩)) L1 ql cl :: recsR ql cl L1.recs :: rest)) :=
  h.perm (List.Perm.cons _ (List.Perm.append_right rest (List.perm_append_comm (l₁ := [logRow gl (.pointer (some ⟨g, 0, none⟩)) L1 ql cl, recsR ql cl L1.recs]) (l₂ := [rowR gd vL [vW], rL vL d, rW vW d.W, logRow gr (.pointer (some ⟨gd, 0, none⟩)) L qr cr, recsR qr cr L.recs]))))
theorem rBoth (h : Hold W w (rtrio (diskR g a q c d1) gd vL vW d gr L qr cr (logRow gl (.pointer (some ⟨g, 0, none⟩)) L1 ql cl :: recsR ql cl L1.recs :: rest))) : Hold W w (both g a q c d1 gl L1 ql cl gd vL vW d gr L qr cr rest) :=
  h.perm (List.Perm.cons _ (List.Perm.append_right rest (List.perm_append_comm (l₁ := [rowR gd vL [vW], rL vL d, rW vW d.W, logRow gr (.pointer (some ⟨gd, 0, none⟩)) L qr cr, recsR qr cr L.recs]) (l₂ := [logRow gl (.pointer (some ⟨g, 0, none⟩)) L1 ql cl, recsR ql cl L1.recs]))))
theorem dAppend (s : ByteArray) (N E : Int) (c0 : Nat) (h : Hold W w (both g a q c d1 gl L1 ql cl gd vL vW d gr L qr cr rest)) (f : LogFit L d c0) (hs : s.size ≤ 1099511627776) (h1 : L.append d s = L') (h2 : L.appendN d s = N) (h3 : L.appendE d s = E) :
    Calls Try.prog 15 #[.pointer (some ⟨gr, 0, none⟩), .string s] w fun e w' => e = .returned (.tuple #[.int .i64 N, .int .i64 E]) ∧ ∃ qr' cr', Hold W w' (both g a q c d1 gl L1 ql cl gd vL vW d gr L' qr' cr' rest) := by
  subst h1 h2 h3
  exact (ref6_Append (bothR h) f.hok f.hwr f.hn f.hs (by have := f.hfit; omega) s hs).mono fun e w' ⟨he, ql', cl', hh⟩ => ⟨he, ql', cl', rBoth hh⟩
theorem dWrite (E : Int) (c0 : Nat) (h : Hold W w (both g a q c d1 gl L1 ql cl gd vL vW d gr L qr cr rest)) (f : LogFit L d c0) (hl : d.W.length + needW (frameW (L.recs.drop L.written)).size ≤ 1000) (h1 : L.write = L') (h2 : L.writeD d = d') (h3 : L.writeE = E) :
    Calls Try.prog 17 #[.pointer (some ⟨gr, 0, none⟩)] w fun e w' => e = .returned (.int .i64 E) ∧ ∃ vW', Hold W w' (both g a q c d1 gl L1 ql cl gd vL vW' d' gr L' qr cr rest) := by
  subst h1 h2 h3
  refine (ref6_Write (bothR h) f.hok ⟨f.hA.1, by have := f.hA.2; omega⟩ f.hw f.hwr f.hs (by have := f.hn; omega) f.hfit hl).mono fun e w' ⟨he, vW', hh⟩ => ⟨he, vW', ?_⟩
  have h2 := rBoth hh
  exact h2
theorem dSync (c0 : Nat) (h : Hold W w (both g a q c d1 gl L1 ql cl gd vL vW d gr L qr cr rest)) (f : LogFit L d c0) (hl : d.W.length ≤ 1000) (h1 : L.sync = L') (h2 : d.syncD = d') :
    Calls Try.prog 19 #[.pointer (some ⟨gr, 0, none⟩)] w fun e w' => e = .returned (.tuple #[]) ∧ ∃ vW' qr' cr', Hold W w' (both g a q c d1 gl L1 ql cl gd vL vW' d' gr L' qr' cr' rest) := by
  subst h1 h2
  exact (ref6_Sync (bothR h) f.hok hl f.hw f.ht).mono fun e w' ⟨he, vW', ql', cl', hh⟩ => ⟨he, vW', ql', cl', rBoth hh⟩
theorem dTurn (s : ByteArray) (E : Int) (c0 : Nat) (h : Hold W w (both g a q c d1 gl L1 ql cl gd vL vW d gr L qr cr rest)) (f : LogFit L d c0) (hs : s.size ≤ 1099511627776) (hl : L.turnE d s = 0 → d.W.length + needW (frameW [s]).size ≤ 1000) (h1 : L.turn d s = L') (h2 : L.turnD d s = d') (h3 : L.turnE d s = E) :
    Calls Try.prog 21 #[.pointer (some ⟨gr, 0, none⟩), .string s] w fun e w' => e = .returned (.int .i64 E) ∧ ∃ vW', Hold W w' (both g a q c d1 gl L1 ql cl gd vL vW' d' gr L' qr cr rest) := by
  subst h1 h2 h3
  refine (ref6_Turn (bothR h) f.hok f.hA f.hw (by have := f.hn; omega) s hs hl).mono fun e w' ⟨he, vW', hh⟩ => ⟨he, vW', ?_⟩
  have h2 := rBoth hh
  exact h2
theorem dRaw (p : Int) (h : Hold W w (both g a q c d1 gl L1 ql cl gd vL vW d gr L qr cr rest)) (hok : d.Ok) (hl : d.W.length ≤ 1000) :
    Calls Try.prog 26 #[.pointer (some ⟨gd, 0, none⟩), .int .i64 p] w fun e w' => e = .returned (.string (d.rawD p)) ∧ w' = w :=
  ref4_Raw (bothR h) hok hl p
theorem dRoom (h : Hold W w (both g a q c d1 gl L1 ql cl gd vL vW d gr L qr cr rest)) (hok : d.Ok) (hp : L.pages ≤ 1000000) :
    Calls Try.prog 48 #[.pointer (some ⟨gr, 0, none⟩)] w fun e w' => e = .returned (.int .i64 (L.room d)) ∧ Up w w' :=
  ref6_Room (bothR h) hok hp
set_option maxHeartbeats 4000000 in
theorem law6_same (h : Hold W w (both g a q c d gl L ql cl gd vL vW d gr L qr cr rest)) (hok : d.Ok) (hn : L.recs.length ≤ 90000) (hp : L.pages ≤ 1000000) :
    Calls Try.prog 24 #[.pointer (some ⟨gl, 0, none⟩), .pointer (some ⟨gr, 0, none⟩)] w fun e w' => e = .returned (.bool true) ∧ Up w w' := by
  have hD := h
  obtain ⟨R0, hR0⟩ : ∃ R0, L.room d = R0 := ⟨_, rfl⟩
  have HB := Lib.hid (fun (w' : World) (hu : Up w w') => h.next hu)
  have HRR := Lib.hid (fun (w' : World) (hu : Up w w') => recs_all (h.next hu) (k := 7) (e := 9) (q := qr) (c := cr) (rs := L.recs) rfl)
  have HC := Lib.hid (fun (w' : World) (hu : Up w w') => wal_Records (h.next hu) 1 rfl 2 rfl (by omega))
  obtain ⟨m, hm⟩ : ∃ m, L.recs.length = m := ⟨_, rfl⟩
  have HM := Lib.hid hm
  have CSu0 := Lib.hid (fun (w' : World) (hu : Up w w') => tSure (h.next hu))
  have CPg0 := Lib.hid (fun (w' : World) (hu : Up w w') => tPages (h.next hu))
  have CHa0 := Lib.hid (fun (w' : World) (hu : Up w w') => tHalf (h.next hu))
  have CAg0 := Lib.hid (fun (w' : World) (hu : Up w w') => tAge (h.next hu))
  have CRo0 := Lib.hid (fun (w' : World) (hu : Up w w') => hR0 ▸ wal_Room (h.next hu) 1 rfl 0 rfl hok hp)
  have CRd0 := Lib.hid (fun (w' : World) (hu : Up w w') => hR0 ▸ dRoom (h.next hu) hok hp)
  have CE0 := Lib.hid (fun (w' : World) (qn : Option Addr) (cn : Nat) (h1 : RecsAt w' qn L.recs) (h2 : RecsAt w' qr L.recs) => zSame2 (q := qn) (q' := qr) (c := cn) (c' := cr) L.recs hm hm h1 h2 (by omega))
  obtain ⟨a0, a1, a2, a3, a4, a5, a6, a7, e0, e1, e2, e3, e4, e5, e6, e7⟩ := RowAt.c8 (hD.get 6 rfl)
  rw [hm] at a4
  clear h hR0 hm hok hn hp
  go_enter Try.func24, Try.ntmps24
  go_upto_region 1 with fail
  refine wp_region_ssa (by kernel_rfl) (by kernel_rfl) (by kernel_rfl) ?_
  refine wpAnyS_quiet 0 1 50 55 (by rfl) (by kernel_rfl) (fun _ _ _ _ _ h => h) (by kernel_rfl) (by kernel_rfl) ?_
  apply Exists.intro
  refine ⟨fun w1 hw1 => ?_, ?_⟩
  · skip
    have hne := later_ne w1
    simp only [List.drop_succ_cons, List.drop_zero, List.take_succ_cons, List.take_zero]
    repeat (go_big_quiet_step (first
      | ((with_reducible refine calls_at 30 ?_); with_reducible exact Calls.later (CE.out _))
      | ((with_reducible refine calls_at 56 ?_); with_reducible exact Calls.later_same (CSu.out _))
      | ((with_reducible refine calls_at 33 ?_); with_reducible exact Calls.later_same (CPg.out _))
      | ((with_reducible refine calls_at 34 ?_); with_reducible exact Calls.later (CRo.out _))
      | ((with_reducible refine calls_at 48 ?_); with_reducible exact Calls.later (CRd.out _))
      | ((with_reducible refine calls_at 31 ?_); with_reducible exact Calls.later_same (CHa.out _))
      | ((with_reducible refine calls_at 32 ?_); with_reducible exact Calls.later_same (CAg.out _))))
    exact wpQuiet_nil rfl
  refine wpAnyS_quiet 2 4 46 55 (by rfl) (by kernel_rfl) (fun _ _ _ _ _ h => h) (by kernel_rfl) (by kernel_rfl) ?_
  apply Exists.intro
  refine ⟨fun w1 hw1 => ?_, ?_⟩
  · have l4 := Later.of_base a4 hw1
    have hne := later_ne w1
    simp only [List.drop_succ_cons, List.drop_zero, List.take_succ_cons, List.take_zero]
    repeat (go_big_quiet_step (first
      | ((with_reducible refine calls_at 30 ?_); with_reducible exact Calls.later (CE.out _))
      | ((with_reducible refine calls_at 56 ?_); with_reducible exact Calls.later_same (CSu.out _))
      | ((with_reducible refine calls_at 33 ?_); with_reducible exact Calls.later_same (CPg.out _))
      | ((with_reducible refine calls_at 34 ?_); with_reducible exact Calls.later (CRo.out _))
      | ((with_reducible refine calls_at 48 ?_); with_reducible exact Calls.later (CRd.out _))
      | ((with_reducible refine calls_at 31 ?_); with_reducible exact Calls.later_same (CHa.out _))
      | ((with_reducible refine calls_at 32 ?_); with_reducible exact Calls.later_same (CAg.out _))))
    exact wpQuiet_nil rfl
  refine wpAnyS_one 1 45 (by kernel_rfl) (by kernel_rfl) (by kernel_rfl) ?_
  intro w2 hw2
  simp only [List.drop_succ_cons, List.drop_zero, List.take_succ_cons, List.take_zero]
  have HC2 := Lib.hid (HC.out w2 hw2)
  go_wp2_with ((with_reducible refine HC2.out.mono ?_); rintro e w3 ⟨qn, cn, rfl, hR⟩)
  refine ⟨hR.up, ?_⟩
  have hu3 : Up w w3 := Up.trans hw2 hR.up
  have HRN := Lib.hid (recs_all hR (k := 0) (e := 9) (q := qn) (c := cn) (rs := L.recs) rfl)
  have HU3 := Lib.hid hu3
  clear HC2 HC hR
  rw [HM.out]
  refine wpAnyS_quiet 6 45 0 55 (by rfl) (by kernel_rfl) (fun _ _ _ _ _ h => h) (by kernel_rfl) (by kernel_rfl) ?_
  apply Exists.intro
  refine ⟨fun w1 hw1 => ?_, ?_⟩
  · have hz : Up w w1 := Up.trans HU3.out hw1
    have l1 := Later.of_base a1 hz
    have l2 := Later.of_base a2 hz
    have l3 := Later.of_base a3 hz
    have l6 := Later.of_base a6 hz
    have CE := Lib.hid (fun (u : Later w1) => CE0.out u.world qn cn (HRN.out.up (Up.trans hw1 u.up)) (HRR.out u.world (Up.trans hz u.up)))
    have CSu := Lib.hid (fun (u : Later w1) => CSu0.out u.world (Up.trans hz u.up))
    have CPg := Lib.hid (fun (u : Later w1) => CPg0.out u.world (Up.trans hz u.up))
    have CHa := Lib.hid (fun (u : Later w1) => CHa0.out u.world (Up.trans hz u.up))
    have CAg := Lib.hid (fun (u : Later w1) => CAg0.out u.world (Up.trans hz u.up))
    have CRo := Lib.hid (fun (u : Later w1) => CRo0.out u.world (Up.trans hz u.up))
    have CRd := Lib.hid (fun (u : Later w1) => CRd0.out u.world (Up.trans hz u.up))
    have hne := later_ne w1
    simp only [List.drop_succ_cons, List.drop_zero, List.take_succ_cons, List.take_zero]
    repeat (go_big_quiet_step (first
      | ((with_reducible refine calls_at 30 ?_); with_reducible exact Calls.later (CE.out _))
      | ((with_reducible refine calls_at 56 ?_); with_reducible exact Calls.later_same (CSu.out _))
      | ((with_reducible refine calls_at 33 ?_); with_reducible exact Calls.later_same (CPg.out _))
      | ((with_reducible refine calls_at 34 ?_); with_reducible exact Calls.later (CRo.out _))
      | ((with_reducible refine calls_at 48 ?_); with_reducible exact Calls.later (CRd.out _))
      | ((with_reducible refine calls_at 31 ?_); with_reducible exact Calls.later_same (CHa.out _))
      | ((with_reducible refine calls_at 32 ?_); with_reducible exact Calls.later_same (CAg.out _))))
    exact wpQuiet_nil rfl
  refine wpAnyS_done (by kernel_rfl) ?_
  intro w7 hu7
  have hu := Up.trans hu3 hu7
  go_wp2_with fail
  go_ret
  exact ⟨rfl, hu⟩
end Go.Proofs.Ytokpkkjgagbpfaa
namespace Bw
open Go Go.RowKit
set_option linter.unusedVariables false
theorem InvAB.need {L : LogD} {d : DiskD} (h : InvAB L d) (hn : d.n ≤ 19) : needW (frameW (L.recs.drop L.written)).size ≤ 9 ∧ L.pages ≤ 9 := by
  have hH : d.halfN ≤ 9 := by unfold DiskD.halfN; omega
  rcases h with ⟨s, h⟩ | h
  · have := h.fits; omega
  · have h1 := h.wr
    have h2 := h.pH
    have hd : L.recs.drop L.written = [] := by rw [h1, List.drop_length]
    rw [hd]
    exact ⟨by decide, by omega⟩
structure DoesF (L : LogD) (d : DiskD) : Prop where
  ok : d.Ok
  len : L.recs.length ≤ 90000
  pages : L.pages ≤ 1000000
  wl : d.W.length ≤ 1000
  need : d.W.length + needW (frameW (L.recs.drop L.written)).size ≤ 1000
  turn : ∀ s, L.turnE d s = 0 → d.W.length + needW (frameW [s]).size ≤ 1000
theorem SafeI.does {L : LogD} {d : DiskD} {n k : Nat} (h : SafeI L d n k) (hk : k ≤ 1000) (hn : n ≤ 19) : DoesF L d := by
  have h1 := h.inv.wlen
  have h2 := h.inv.need (by rw [h.n]; exact hn)
  have h3 := h.len
  have h4 : d.halfN ≤ 9 := by unfold DiskD.halfN; rw [h.n]; omega
  exact ⟨h.inv.ok, by omega, by omega, by omega, by omega, fun s hs => by have := (turn_zero hs).2.2; omega⟩
/-- Nothing, as a thing in memory. -/
def nilR : Res := ⟨fun _ => False, fun _ => True, fun _ _ _ => trivial, fun _ h => h.elim⟩
theorem nilHold (w : World) : Hold w w [nilR] := ⟨Up.refl w, fun R hR => by obtain rfl := List.mem_singleton.1 hR; exact ⟨trivial, fun k hk => hk.elim⟩, List.pairwise_singleton _ _⟩
end Bw
namespace Go.Proofs.Ytokpkkjgagbpfaa
open Go.RowKit Bw
set_option linter.unusedVariables false
set_option maxRecDepth 100000
variable {W w : World} {g a c gl cl gd gr cr : Nat} {q : Option Nat} {ql qr : Option Addr} {vL vW : Value} {d d1 d' : DiskD} {L L1 L' : LogD} {rest : List Res}
theorem dNew (n : Nat) (h1 : 1 ≤ n) (h2 : n ≤ 1024) (h : Hold W w (diskR g a q c d1 :: rest)) :
    Calls Try.prog 11 #[.int .i64 (n : Int)] w fun e w' => ∃ gd vL vW, e = .returned (.tuple #[.pointer (some ⟨gd, 0, none⟩), .int .i64 0]) ∧ Hold W w' (diskR g a q c d1 :: rowR gd vL [vW] :: rL vL (initD n) :: rW vW (initD n).W :: rest) :=
  (ref4_New_body n h1 h2 (nilHold w)).mono fun e w' ⟨gd, vL, vW, he, hh⟩ => ⟨gd, vL, vW, he, by
    have h3 := hh.sub (l' := [rowR gd vL [vW], rL vL (initD n), rW vW (initD n).W]) (List.sublist_cons_self _ _)
    exact (h.join h3).perm (List.Perm.cons _ List.perm_append_comm)⟩
theorem dOpen (h : Hold W w (trio g a q c d1 gl L1 ql cl (rowR gd vL [vW] :: rL vL d :: rW vW d.W :: rest))) (hok : d.Ok) (hl : d.W.length ≤ 1000) (hE : openLE d = 0) (h1 : openL d = L') :
    Calls Try.prog 13 #[.pointer (some ⟨gd, 0, none⟩)] w fun e w' => ∃ gr, e = .returned (.tuple #[.pointer (some ⟨gr, 0, none⟩), .int .i64 0]) ∧ ∃ qr cr, Hold W w' (both g a q c d1 gl L1 ql cl gd vL vW d gr L' qr cr rest) := by
  subst h1
  have h2 : Hold W w (refs (diskR g a q c d1) gd vL vW d (logRow gl (.pointer (some ⟨g, 0, none⟩)) L1 ql cl :: recsR ql cl L1.recs :: rest)) := h.perm (List.Perm.cons _ (List.Perm.append_right rest (List.perm_append_comm (l₁ := [logRow gl (.pointer (some ⟨g, 0, none⟩)) L1 ql cl, recsR ql cl L1.recs]) (l₂ := [rowR gd vL [vW], rL vL d, rW vW d.W]))))
  exact (ref6_Open h2 hok hl hE).mono fun e w' ⟨gr, he, qr, cr, hh⟩ => ⟨gr, he, qr, cr, rBoth hh⟩
theorem dropLogs (h : Hold W w (both g a q c d1 gl L1 ql cl gd vL vW d gr L qr cr rest)) : Hold W w (diskR g a q c d1 :: rowR gd vL [vW] :: rL vL d :: rW vW d.W :: rest) :=
  h.sub (.cons_cons _ (.cons _ (.cons _ (.cons_cons _ (.cons_cons _ (.cons_cons _ (.cons _ (.cons _ (List.Sublist.refl _)))))))))
theorem bCrash (F : List Int) (M : Nat) (fa : Option Addr) (fc : Nat) (hF : IntsAt W fa F) (hM : F.length = M) (hM2 : M ≤ 1000) (h : Hold W w (both g a q c d1 gl L1 ql cl gd vL vW d gr L qr cr rest)) (hc : c ≤ 200000) (hw : d1.W.length ≤ 512) (h1 : d1.crashD F = d') :
    Calls Try.prog 22 #[.pointer (some ⟨g, 0, none⟩), .slice fa M fc] w fun e w' => e = .returned (.tuple #[]) ∧ Hold W w' (both g a none c d' gl L1 ql cl gd vL vW d gr L qr cr rest) :=
  pCrash F M fa fc hF hM hM2 h hc hw h1
theorem dCrash (F : List Int) (M : Nat) (fa : Option Addr) (fc : Nat) (hF : IntsAt W fa F) (hM : F.length = M) (hM2 : M ≤ 1000) (h : Hold W w (both g a q c d1 gl L1 ql cl gd vL vW d gr L qr cr rest)) (hok : d.Ok) (hl : d.W.length ≤ 1000) (h1 : d.crashD F = d') :
    Calls Try.prog 23 #[.pointer (some ⟨gd, 0, none⟩), .slice fa M fc] w fun e w' => e = .returned (.tuple #[]) ∧ ∃ vW', Hold W w' (both g a q c d1 gl L1 ql cl gd vL vW' d' gr L qr cr rest) := by
  subst h1 hM
  refine (ref4_Crash (bothR h) hok hl F fa fc hF hM2).mono fun e w' ⟨he, vW', hh⟩ => ⟨he, vW', ?_⟩
  have h2 := rBoth hh
  exact h2
theorem bAppend (s : ByteArray) (N E : Int) (h : Hold W w (both g a q c d1 gl L1 ql cl gd vL vW d gr L qr cr rest)) (f : LogFit L1 d1 c) (hs : s.size ≤ 1099511627776) (h1 : L1.append d1 s = L') (h2 : L1.appendN d1 s = N) (h3 : L1.appendE d1 s = E) :
    Calls Try.prog 14 #[.pointer (some ⟨gl, 0, none⟩), .string s] w fun e w' => e = .returned (.tuple #[.int .i64 N, .int .i64 E]) ∧ ∃ ql' cl', Hold W w' (both g a q c d1 gl L' ql' cl' gd vL vW d gr L qr cr rest) :=
  pAppend s N E h f hs h1 h2 h3
theorem bWrite (E : Int) (h : Hold W w (both g a q c d1 gl L1 ql cl gd vL vW d gr L qr cr rest)) (f : LogFit L1 d1 c) (h1 : L1.write = L') (h2 : L1.writeD d1 = d') (h3 : L1.writeE = E) :
    Calls Try.prog 16 #[.pointer (some ⟨gl, 0, none⟩)] w fun e w' => e = .returned (.int .i64 E) ∧ ∃ q' c', c' ≤ c + 1000 ∧ Hold W w' (both g a q' c' d' gl L' ql cl gd vL vW d gr L qr cr rest) :=
  pWrite E h f h1 h2 h3
theorem bSync (h : Hold W w (both g a q c d1 gl L1 ql cl gd vL vW d gr L qr cr rest)) (f : LogFit L1 d1 c) (h1 : L1.sync = L') (h2 : d1.syncD = d') :
    Calls Try.prog 18 #[.pointer (some ⟨gl, 0, none⟩)] w fun e w' => e = .returned (.tuple #[]) ∧ ∃ ql' cl', Hold W w' (both g a none c d' gl L' ql' cl' gd vL vW d gr L qr cr rest) :=
  pSync h f h1 h2
theorem bTurn (s : ByteArray) (E : Int) (h : Hold W w (both g a q c d1 gl L1 ql cl gd vL vW d gr L qr cr rest)) (f : LogFit L1 d1 c) (hs : s.size ≤ 1099511627776) (h1 : L1.turn d1 s = L') (h2 : L1.turnD d1 s = d') (h3 : L1.turnE d1 s = E) :
    Calls Try.prog 20 #[.pointer (some ⟨gl, 0, none⟩), .string s] w fun e w' => e = .returned (.int .i64 E) ∧ ∃ q' c', c' ≤ c + 1000 ∧ Hold W w' (both g a q' c' d' gl L' ql cl gd vL vW d gr L qr cr rest) :=
  pTurn s E h f hs h1 h2 h3
theorem bRaw (p : Int) (S : ByteArray) (h : Hold W w (both g a q c d1 gl L1 ql cl gd vL vW d gr L qr cr rest)) (hc : c ≤ 1099511627776) (h1 : d1.rawD p = S) :
    Calls Try.prog 25 #[.pointer (some ⟨g, 0, none⟩), .int .i64 p] w fun e w' => e = .returned (.string S) ∧ Hold W w' (both g a q c d1 gl L1 ql cl gd vL vW d gr L qr cr rest) := by
  subst h1
  exact (hRaw h 0 rfl hc p).mono fun e w' ⟨he, _, hh⟩ => ⟨he, hh⟩
theorem dRaw2 (p : Int) (S : ByteArray) (h : Hold W w (both g a q c d1 gl L1 ql cl gd vL vW d gr L qr cr rest)) (hok : d.Ok) (hl : d.W.length ≤ 1000) (h1 : d.rawD p = S) :
    Calls Try.prog 26 #[.pointer (some ⟨gd, 0, none⟩), .int .i64 p] w fun e w' => e = .returned (.string S) ∧ w = w' := by
  subst h1
  exact (dRaw p h hok hl).mono fun e w' ⟨he, hh⟩ => ⟨he, hh.symm⟩
end Go.Proofs.Ytokpkkjgagbpfaa
namespace Go.Proofs.Ytokpkkjgagbpfaa.does
open Go.RowKit Bw
set_option linter.unusedVariables false
set_option maxRecDepth 100000
theorem dropRow {W w : World} {g a c gl cl gd gr cr : Nat} {q : Option Nat} {ql qr : Option Addr} {vL vW : Value} {d d1 : DiskD} {L L1 : LogD} {R S : Res} (h : Hold W w (both g a q c d1 gl L1 ql cl gd vL vW d gr L qr cr [R, S])) : Hold W w (both g a q c d1 gl L1 ql cl gd vL vW d gr L qr cr [R]) :=
  h.sub (.cons_cons _ (.cons_cons _ (.cons_cons _ (.cons_cons _ (.cons_cons _ (.cons_cons _ (.cons_cons _ (.cons_cons _ (.cons_cons _ (List.nil_sublist _))))))))))
set_option maxHeartbeats 8000000 in
set_option maxRecDepth 100000 in
theorem law (P0 : Int) (a0 : Option Addr) (n0 m0 : Nat) (f : Nat → OpD) (pa : Nat → Option Addr) (ca : Nat → Nat) (hn0 : n0 ≤ 9223372036854775807) (W : World) (hO : OpsAt W a0 n0 f pa ca) :
    Calls Try.prog 3 #[.int .i64 P0, .slice a0 n0 m0] W fun e w' => e = .returned (.bool true) ∧ Below W.heap.size W w' := by
  have hD := Hold.start W
  obtain ⟨k0, hm, hm16⟩ : ∃ m : Nat, bits .and .i64 P0 15 = (m : Int) ∧ m < 16 := by
    have h1 := Int.emod_nonneg P0 (show (16 : Int) ≠ 0 by omega)
    have h2 := Int.emod_lt_of_pos P0 (show (0 : Int) < 16 by omega)
    exact ⟨(P0 % 16).toNat, by rw [bits_15]; omega, by omega⟩
  have CX := Lib.hid law6_fixed
  have CC := Lib.hid (law6_Cut a0 n0 m0 f pa ca hn0 hO)
  obtain ⟨mo, hmo⟩ : ∃ mo, min n0 40 = mo := ⟨_, rfl⟩
  rw [hmo] at CC
  have HO := Lib.hid (fun i (hi : i < mo) => hO i (by omega))
  have hmo40 : mo ≤ 40 := by omega
  clear hO hmo
  go_enter Try.func3, Try.ntmps3
  have e1 : (4 : Int) + (k0 : Int) = ((4 + k0 : Nat) : Int) := by omega
  have hn1 : 4 ≤ 4 + k0 := by omega
  have hn16 : 4 + k0 ≤ 19 := by omega
  have N1 := Lib.hid (fun (w : World) (l : List Res) (h : Hold W w l) => show Calls Try.prog 10 #[.int .i64 ((4 : Int) + (k0 : Int))] w _ from e1 ▸ tNew (4 + k0) (by omega) (by omega) h)
  have N2 := Lib.hid (fun (w : World) (g a : Nat) (l : List Res) (h : Hold W w (diskR g a none 0 (initD (4 + k0)) :: l)) => show Calls Try.prog 11 #[.int .i64 ((4 : Int) + (k0 : Int))] w _ from e1 ▸ dNew (4 + k0) (by omega) (by omega) h)
  clear e1
  obtain ⟨NN, hNN⟩ : ∃ NN : Int, (4 : Int) + (k0 : Int) = NN := ⟨_, rfl⟩
  have hNn : NN = ((4 + k0 : Nat) : Int) := by omega
  have HNN := Lib.hid hNN
  generalize hnn : 4 + k0 = n at *
  have HNI := Lib.hid hNn
  clear hnn hNn hNN
  obtain ⟨o1, o2, -⟩ := open_new hn1 (show n ≤ 1024 by omega)
  have O1 := Lib.hid o1
  have O2 := Lib.hid o2
  clear o1 o2
  go_upto_region 2 with ((with_reducible refine CC.out.mono ?_); rintro e w0 ⟨bo, co, rfl, hw⟩; clear hD; have hD := hw; clear hw CC)
  go_upto_region 3 with ((with_reducible refine (N1.out _ _ hD).mono ?_); rintro e w1 ⟨g, a, rfl, hw⟩; clear hD; have hD := hw; clear hw N1)
  go_upto_region 4 with ((with_reducible refine (N2.out _ _ _ _ hD).mono ?_); rintro e w2 ⟨gd, vL, vW0, rfl, hw⟩; clear hD; have hD := hw; clear hw N2)
  go_upto_region 7 with ((with_reducible refine (pOpen hD (by omega) (initD_ok (by omega) (by omega)) O1.out O2.out).mono ?_); rintro e w2 ⟨gl, rfl, ql, cl, hw⟩; clear hD; have hD := hw; clear hw)
  go_upto_region 8 with ((with_reducible refine (dOpen hD (initD_ok (by omega) (by omega)) (Nat.zero_le _) O1.out O2.out).mono ?_); rintro e w3 ⟨gr, rfl, qr, cr, hw⟩; clear hD; have hD := hw; clear hw)
  obtain ⟨OPS, hOPS⟩ : ∃ R : Res, ownZ 39 3 (.slice (some ⟨bo, 0, none⟩) mo co) mo (opsC f pa ca mo) = R := ⟨_, rfl⟩
  rw [hOPS] at hD
  have HOP := Lib.hid (fun (w : World) (i : Nat) (hi : i < mo) (h : OPS.holds w) => op_cells (b := bo) (c := co) (f := f) (pa := pa) (ca := ca) (by rw [hOPS]; exact h) hi)
  clear hOPS
  rw [HNN.out, HNI.out]
  go_wp2_with fail
  go_loopw [11, 12, 13, 14, 15] (fun v11 v12 v13 v14 v15 wr => ∃ (k gl c : Nat) (q : Option Nat) (L : LogD) (d : DiskD) (ql : Option Addr) (cl : Nat) (vW : Value) (gr : Nat) (qr : Option Addr) (cr : Nat), v11 = .pointer (some ⟨gl, 0, none⟩) ∧ v12 = .int .i64 0 ∧ v13 = .pointer (some ⟨gr, 0, none⟩) ∧ v14 = .int .i64 0 ∧ v15 = .int .i64 (k : Int) ∧ k ≤ mo ∧ c ≤ 1000 * k ∧ SafeI L d n k ∧ Hold W wr (both g a q c d gl L ql cl gd vL vW d gr L qr cr [OPS])) (fun _ _ _ _ v _ => mo - (intOf v).toNat)
  case atStart => exact ⟨0, gl, 0, none, newL, initD n, ql, cl, vW0, gr, qr, cr, rfl, rfl, rfl, rfl, rfl, by omega, by omega, safe_new hn1 (by omega), hD⟩
  case round =>
  clear hD
  obtain ⟨k, gl, c, q, L, d, ql, cl, vW, gr, qr, cr, rfl, rfl, rfl, rfl, rfl, hk, hc, hI, hD⟩ := hrel
  by_cases hkn : k < mo
  · have j0 : (0 : Int) ≤ (k : Int) := by omega
    have j1 : (k : Int) < (mo : Int) := by omega
    obtain ⟨c1, c2, c3⟩ := HOP.out wr k hkn (hD.get 8 rfl)
    obtain ⟨⟨-, hsz, hfc, hfl, -, hIA⟩, -⟩ := HO.out k hkn
    have hx700 := cutB_size 700 (f k).s
    have HFI := Lib.hid (ints_take hIA (min (f k).f.length 60))
    have HFM := Lib.hid (show ((f k).f.take (min (f k).f.length 60)).length = min (f k).f.length 60 by rw [List.length_take]; omega)
    have hM60 : min (f k).f.length 60 ≤ 60 := by omega
    generalize (f k).f.take (min (f k).f.length 60) = FS at *
    generalize min (f k).f.length 60 = M at *
    generalize cutB 700 (f k).s = X at *
    generalize hP : pa k = P at *
    generalize ca k = C at *
    generalize (f k).k = Fk at *
    have hXz : X.size ≤ 700 := by omega
    have hXz1 : X.size ≤ 1099511627776 := by omega
    have HFit := Lib.hid (fun c (hc : c ≤ 100000) => hI.fit (by omega) hc)
    have HD1 := Lib.hid (hI.does (by omega) hn16)
    clear hx700 hIA hsz hfc hfl hP
    by_cases k0' : Fk = 0
    · obtain ⟨s1, -⟩ := step_append hI X
      obtain ⟨L2, hL2⟩ : ∃ L2, L.append d X = L2 := ⟨_, rfl⟩
      obtain ⟨E0, hE0⟩ : ∃ E0, L.appendE d X = E0 := ⟨_, rfl⟩
      obtain ⟨N0, hN0⟩ : ∃ N0, L.appendN d X = N0 := ⟨_, rfl⟩
      rw [hL2] at s1
      have H1 := Lib.hid s1
      have HD2 := Lib.hid (s1.does (by omega) hn16)
      have HS := Lib.hid (show L.append d X = L2 ∧ L.appendN d X = N0 ∧ L.appendE d X = E0 from ⟨hL2, hN0, hE0⟩)
      have b0 : (Fk == 0) = true := by rw [k0']; rfl
      clear s1 hL2 hE0 hN0 hI k0'
      go_upto_region 14 with fail
      clear c1 c2 c3
      replace hD : Hold W (wr.alloc (.cells #[.int .i64 Fk, .string X, .slice P M C] 39)) (both g a q c d gl L ql cl gd vL vW d gr L qr cr [OPS, rowR wr.heap.size (.int .i64 Fk) [.string X, .slice P M C]]) := hD.madeRow (.int .i64 Fk) [.string X, .slice P M C] 39
      generalize wr.heap.size = g5 at *
      generalize wr.alloc _ = w5 at *
      obtain ⟨x0, x1, x2, y0, y1, y2⟩ := RowAt.c3 (hD.get 9 rfl)
      go_upto_region 23 with (first
        | ((with_reducible refine calls_at 14 ?_); (with_reducible refine (bAppend X N0 E0 hD (HFit.out c (by omega)) hXz1 HS.out.1 HS.out.2.1 HS.out.2.2).mono ?_); rintro e w12 ⟨rfl, ql2, cl2, hw⟩; clear hD; have hD := hw; clear hw; clear x0 x1 x2 y0 y1 y2; obtain ⟨x0, x1, x2, y0, y1, y2⟩ := RowAt.c3 (hD.get 9 rfl))
        | ((with_reducible refine calls_at 15 ?_); (with_reducible refine (dAppend X N0 E0 0 hD (HFit.out 0 (by omega)) hXz1 HS.out.1 HS.out.2.1 HS.out.2.2).mono ?_); rintro e w13 ⟨rfl, qr2, cr2, hw⟩; clear hD; have hD := hw; clear hw; clear x0 x1 x2 y0 y1 y2; obtain ⟨x0, x1, x2, y0, y1, y2⟩ := RowAt.c3 (hD.get 9 rfl)))
      clear x0 x1 x2 y0 y1 y2
      have HSM := Lib.hid (law6_same hD HD2.out.ok HD2.out.len HD2.out.pages)
      go_upto_region 33 with ((with_reducible refine calls_at 24 ?_); (with_reducible refine HSM.out.mono ?_); rintro e w40 ⟨rfl, hu⟩; replace hD := hD.next hu; clear hu)
      clear HSM
      go_wp2_with fail
      go_loopw [22] (fun v22 wr => ∃ p : Nat, v22 = .int .i64 (p : Int) ∧ p ≤ n ∧ Hold W wr (both g a q c d gl L2 ql2 cl2 gd vL vW d gr L2 qr2 cr2 [OPS, rowR g5 (.int .i64 Fk) [.string X, .slice P M C]])) (fun v _ => n - (intOf v).toNat)
      case atStart => exact ⟨0, rfl, Nat.zero_le _, hD⟩
      case round =>
        clear hD
        obtain ⟨p, rfl, hp, hD⟩ := hrel
        by_cases hpn : p < n
        · have hpn' : (p : Int) < (n : Int) := by omega
          obtain ⟨SS, hSS⟩ : ∃ SS, DiskD.rawD d (p : Int) = SS := ⟨_, rfl⟩
          have HSS := Lib.hid hSS
          clear hSS
          go_wp2_with (first
            | ((with_reducible refine calls_at 25 ?_); (with_reducible refine (bRaw (p : Int) SS hD (by omega) HSS.out).mono ?_); rintro e w41 ⟨rfl, hw⟩; clear hD; have hD := hw; clear hw)
            | ((with_reducible refine calls_at 26 ?_); (with_reducible refine (dRaw2 (p : Int) SS hD HD2.out.ok HD2.out.wl HSS.out).mono ?_); rintro e w42 ⟨rfl, rfl⟩))
          exact ⟨⟨p + 1, rfl, by omega, hD⟩, by simp [intOf]; omega⟩
        · have hpn' : ¬ (p : Int) < (n : Int) := by omega
          go_wp2_with fail
          exact ⟨⟨k + 1, gl, c, q, L2, d, ql2, cl2, vW, gr, qr2, cr2, rfl, rfl, rfl, rfl, rfl, by omega, by omega, H1.out, dropRow hD⟩, by simp [intOf]; omega⟩
    · have b0 : (Fk == 0) = false := by simpa using k0'
      by_cases k1' : Fk = 1
      · obtain ⟨s1, -⟩ := step_write hI (by omega)
        obtain ⟨L2, hL2⟩ : ∃ L2, L.write = L2 := ⟨_, rfl⟩
        obtain ⟨d2, hd2⟩ : ∃ d2, L.writeD d = d2 := ⟨_, rfl⟩
        obtain ⟨E0, hE0⟩ : ∃ E0, L.writeE = E0 := ⟨_, rfl⟩
        rw [hL2, hd2] at s1
        have H1 := Lib.hid s1
        have HD2 := Lib.hid (s1.does (by omega) hn16)
        have HS := Lib.hid (show L.write = L2 ∧ L.writeD d = d2 ∧ L.writeE = E0 from ⟨hL2, hd2, hE0⟩)
        have b1 : (Fk == 1) = true := by rw [k1']; rfl
        clear s1 hL2 hE0 hd2 hI k0' k1'
        go_upto_region 14 with fail
        clear c1 c2 c3
        replace hD : Hold W (wr.alloc (.cells #[.int .i64 Fk, .string X, .slice P M C] 39)) (both g a q c d gl L ql cl gd vL vW d gr L qr cr [OPS, rowR wr.heap.size (.int .i64 Fk) [.string X, .slice P M C]]) := hD.madeRow (.int .i64 Fk) [.string X, .slice P M C] 39
        generalize wr.heap.size = g5 at *
        generalize wr.alloc _ = w5 at *
        obtain ⟨x0, x1, x2, y0, y1, y2⟩ := RowAt.c3 (hD.get 9 rfl)
        go_upto_region 31 with (first
          | ((with_reducible refine calls_at 16 ?_); (with_reducible refine (bWrite E0 hD (HFit.out c (by omega)) HS.out.1 HS.out.2.1 HS.out.2.2).mono ?_); rintro e w12 ⟨rfl, q2, c2, hc2, hw⟩; clear hD; have hD := hw; clear hw; clear x0 x1 x2 y0 y1 y2; obtain ⟨x0, x1, x2, y0, y1, y2⟩ := RowAt.c3 (hD.get 9 rfl))
          | ((with_reducible refine calls_at 17 ?_); (with_reducible refine (dWrite E0 0 hD (HFit.out 0 (by omega)) HD1.out.need HS.out.1 HS.out.2.1 HS.out.2.2).mono ?_); rintro e w13 ⟨rfl, vW2, hw⟩; clear hD; have hD := hw; clear hw; clear x0 x1 x2 y0 y1 y2; obtain ⟨x0, x1, x2, y0, y1, y2⟩ := RowAt.c3 (hD.get 9 rfl)))
        clear x0 x1 x2 y0 y1 y2
        have HSM := Lib.hid (law6_same hD HD2.out.ok HD2.out.len HD2.out.pages)
        go_upto_region 33 with ((with_reducible refine calls_at 24 ?_); (with_reducible refine HSM.out.mono ?_); rintro e w40 ⟨rfl, hu⟩; replace hD := hD.next hu; clear hu)
        clear HSM
        go_wp2_with fail
        go_loopw [22] (fun v22 wr => ∃ p : Nat, v22 = .int .i64 (p : Int) ∧ p ≤ n ∧ Hold W wr (both g a q2 c2 d2 gl L2 ql cl gd vL vW2 d2 gr L2 qr cr [OPS, rowR g5 (.int .i64 Fk) [.string X, .slice P M C]])) (fun v _ => n - (intOf v).toNat)
        case atStart => exact ⟨0, rfl, Nat.zero_le _, hD⟩
        case round =>
          clear hD
          obtain ⟨p, rfl, hp, hD⟩ := hrel
          by_cases hpn : p < n
          · have hpn' : (p : Int) < (n : Int) := by omega
            obtain ⟨SS, hSS⟩ : ∃ SS, DiskD.rawD d2 (p : Int) = SS := ⟨_, rfl⟩
            have HSS := Lib.hid hSS
            clear hSS
            go_wp2_with (first
              | ((with_reducible refine calls_at 25 ?_); (with_reducible refine (bRaw (p : Int) SS hD (by omega) HSS.out).mono ?_); rintro e w41 ⟨rfl, hw⟩; clear hD; have hD := hw; clear hw)
              | ((with_reducible refine calls_at 26 ?_); (with_reducible refine (dRaw2 (p : Int) SS hD HD2.out.ok HD2.out.wl HSS.out).mono ?_); rintro e w42 ⟨rfl, rfl⟩))
            exact ⟨⟨p + 1, rfl, by omega, hD⟩, by simp [intOf]; omega⟩
          · have hpn' : ¬ (p : Int) < (n : Int) := by omega
            go_wp2_with fail
            exact ⟨⟨k + 1, gl, c2, q2, L2, d2, ql, cl, vW2, gr, qr, cr, rfl, rfl, rfl, rfl, rfl, by omega, by omega, H1.out, dropRow hD⟩, by simp [intOf]; omega⟩
      · have b1 : (Fk == 1) = false := by simpa using k1'
        by_cases k2' : Fk = 2
        · obtain ⟨s1, -⟩ := step_sync hI (by omega)
          obtain ⟨L2, hL2⟩ : ∃ L2, L.sync = L2 := ⟨_, rfl⟩
          obtain ⟨d2, hd2⟩ : ∃ d2, d.syncD = d2 := ⟨_, rfl⟩
          rw [hL2, hd2] at s1
          have H1 := Lib.hid s1
          have HD2 := Lib.hid (s1.does (by omega) hn16)
          have HS := Lib.hid (show L.sync = L2 ∧ d.syncD = d2 from ⟨hL2, hd2⟩)
          have b2 : (Fk == 2) = true := by rw [k2']; rfl
          clear s1 hL2 hd2 hI k0' k1' k2'
          go_upto_region 14 with fail
          clear c1 c2 c3
          replace hD : Hold W (wr.alloc (.cells #[.int .i64 Fk, .string X, .slice P M C] 39)) (both g a q c d gl L ql cl gd vL vW d gr L qr cr [OPS, rowR wr.heap.size (.int .i64 Fk) [.string X, .slice P M C]]) := hD.madeRow (.int .i64 Fk) [.string X, .slice P M C] 39
          generalize wr.heap.size = g5 at *
          generalize wr.alloc _ = w5 at *
          obtain ⟨x0, x1, x2, y0, y1, y2⟩ := RowAt.c3 (hD.get 9 rfl)
          go_upto_region 31 with (first
            | ((with_reducible refine calls_at 18 ?_); (with_reducible refine (bSync hD (HFit.out c (by omega)) HS.out.1 HS.out.2).mono ?_); rintro e w12 ⟨rfl, ql2, cl2, hw⟩; clear hD; have hD := hw; clear hw; clear x0 x1 x2 y0 y1 y2; obtain ⟨x0, x1, x2, y0, y1, y2⟩ := RowAt.c3 (hD.get 9 rfl))
            | ((with_reducible refine calls_at 19 ?_); (with_reducible refine (dSync 0 hD (HFit.out 0 (by omega)) HD1.out.wl HS.out.1 HS.out.2).mono ?_); rintro e w13 ⟨rfl, vW2, qr2, cr2, hw⟩; clear hD; have hD := hw; clear hw; clear x0 x1 x2 y0 y1 y2; obtain ⟨x0, x1, x2, y0, y1, y2⟩ := RowAt.c3 (hD.get 9 rfl)))
          clear x0 x1 x2 y0 y1 y2
          have HSM := Lib.hid (law6_same hD HD2.out.ok HD2.out.len HD2.out.pages)
          go_upto_region 33 with ((with_reducible refine calls_at 24 ?_); (with_reducible refine HSM.out.mono ?_); rintro e w40 ⟨rfl, hu⟩; replace hD := hD.next hu; clear hu)
          clear HSM
          go_wp2_with fail
          go_loopw [22] (fun v22 wr => ∃ p : Nat, v22 = .int .i64 (p : Int) ∧ p ≤ n ∧ Hold W wr (both g a none c d2 gl L2 ql2 cl2 gd vL vW2 d2 gr L2 qr2 cr2 [OPS, rowR g5 (.int .i64 Fk) [.string X, .slice P M C]])) (fun v _ => n - (intOf v).toNat)
          case atStart => exact ⟨0, rfl, Nat.zero_le _, hD⟩
          case round =>
            clear hD
            obtain ⟨p, rfl, hp, hD⟩ := hrel
            by_cases hpn : p < n
            · have hpn' : (p : Int) < (n : Int) := by omega
              obtain ⟨SS, hSS⟩ : ∃ SS, DiskD.rawD d2 (p : Int) = SS := ⟨_, rfl⟩
              have HSS := Lib.hid hSS
              clear hSS
              go_wp2_with (first
                | ((with_reducible refine calls_at 25 ?_); (with_reducible refine (bRaw (p : Int) SS hD (by omega) HSS.out).mono ?_); rintro e w41 ⟨rfl, hw⟩; clear hD; have hD := hw; clear hw)
                | ((with_reducible refine calls_at 26 ?_); (with_reducible refine (dRaw2 (p : Int) SS hD HD2.out.ok HD2.out.wl HSS.out).mono ?_); rintro e w42 ⟨rfl, rfl⟩))
              exact ⟨⟨p + 1, rfl, by omega, hD⟩, by simp [intOf]; omega⟩
            · have hpn' : ¬ (p : Int) < (n : Int) := by omega
              go_wp2_with fail
              exact ⟨⟨k + 1, gl, c, none, L2, d2, ql2, cl2, vW2, gr, qr2, cr2, rfl, rfl, rfl, rfl, rfl, by omega, by omega, H1.out, dropRow hD⟩, by simp [intOf]; omega⟩
        · have b2 : (Fk == 2) = false := by simpa using k2'
          by_cases k3' : Fk = 3
          · obtain ⟨s1, -⟩ := step_turn hI X
            obtain ⟨L2, hL2⟩ : ∃ L2, L.turn d X = L2 := ⟨_, rfl⟩
            obtain ⟨d2, hd2⟩ : ∃ d2, L.turnD d X = d2 := ⟨_, rfl⟩
            obtain ⟨E0, hE0⟩ : ∃ E0, L.turnE d X = E0 := ⟨_, rfl⟩
            rw [hL2, hd2] at s1
            have H1 := Lib.hid s1
            have HD2 := Lib.hid (s1.does (by omega) hn16)
            have HS := Lib.hid (show L.turn d X = L2 ∧ L.turnD d X = d2 ∧ L.turnE d X = E0 from ⟨hL2, hd2, hE0⟩)
            have b3 : (Fk == 3) = true := by rw [k3']; rfl
            clear s1 hL2 hE0 hd2 hI k0' k1' k2' k3'
            go_upto_region 14 with fail
            clear c1 c2 c3
            replace hD : Hold W (wr.alloc (.cells #[.int .i64 Fk, .string X, .slice P M C] 39)) (both g a q c d gl L ql cl gd vL vW d gr L qr cr [OPS, rowR wr.heap.size (.int .i64 Fk) [.string X, .slice P M C]]) := hD.madeRow (.int .i64 Fk) [.string X, .slice P M C] 39
            generalize wr.heap.size = g5 at *
            generalize wr.alloc _ = w5 at *
            obtain ⟨x0, x1, x2, y0, y1, y2⟩ := RowAt.c3 (hD.get 9 rfl)
            go_upto_region 30 with fail
            clear x0 x1 x2 y0 y1 y2
            refine wp_region_two Up (Keeps (RowIs g5 (.int .i64 Fk) [.string X, .slice P M C])) (keeps_ok rowIs_up) (by kernel_rfl) (by kernel_rfl) (by kernel_rfl) ?_
            replace hD := hD.next ((Up.refl w5).drew)
            have hp1 : RowIs g5 (.int .i64 Fk) [.string X, .slice P M C] w5.drew := hD.get 9 rfl
            generalize w5.drew = w6 at *
            refine wpAnyTS_quiet 0 3 7 183 (by rfl) (by kernel_rfl) (fun _ _ _ _ _ h => h) (by kernel_rfl) (by kernel_rfl) ?_
            apply Exists.intro
            refine ⟨fun w2' hw2 => ?_, ?_⟩
            · have hne := laterR_ne (R := Up) rok_upQ w2'
              obtain ⟨b0', b1', b2', -⟩ := RowAt.c3 (hw2 hp1)
              have l1 := laterU b1'
              clear b0' b1' b2'
              simp only [List.drop_succ_cons, List.drop_zero, List.take_succ_cons, List.take_zero]
              repeat (go_big_quiet_step (fail))
              exact wpQuiet_nil rfl
            refine wpAnyTS_quiet 4 3 4 183 (by rfl) (by kernel_rfl) (fun _ _ _ _ _ h => h) (by kernel_rfl) (by kernel_rfl) ?_
            apply Exists.intro
            refine ⟨fun w2' hw2 => ?_, ?_⟩
            · have hne := laterR_ne (R := Up) rok_upQ w2'
              obtain ⟨b0', b1', b2', -⟩ := RowAt.c3 (hw2 hp1)
              have l1 := laterU b1'
              clear b0' b1' b2'
              simp only [List.drop_succ_cons, List.drop_zero, List.take_succ_cons, List.take_zero]
              repeat (go_big_quiet_step (fail))
              exact wpQuiet_nil rfl
            refine wpAnyTS_some 3 [] 3 (by rfl) (by kernel_rfl) (by kernel_rfl) ?_
            intro w2 hu2
            replace hD := hD.next hu2
            replace hp1 := rowIs_up hu2 hp1
            clear hu2
            refine ⟨?_, trivial⟩
            simp only [List.drop_succ_cons, List.drop_zero, List.take_succ_cons, List.take_zero]
            go_wp2_with ((with_reducible refine calls_at 20 ?_); (with_reducible refine (bTurn X E0 hD (HFit.out c (by omega)) hXz1 HS.out.1 HS.out.2.1 HS.out.2.2).mono ?_); rintro e w12 ⟨rfl, q2, c2, hc2, hw⟩; clear hD; have hD := hw; clear hw)
            refine ⟨.inr fun _ => hD.get 9 rfl, ?_⟩
            clear hp1
            have hp1 : RowIs g5 (.int .i64 Fk) [.string X, .slice P M C] w12 := hD.get 9 rfl
            refine wpAnyTS_some 7 [] 2 (by rfl) (by kernel_rfl) (by kernel_rfl) ?_
            intro w2 hu2
            replace hD := hD.next hu2
            replace hp1 := rowIs_up hu2 hp1
            clear hu2
            refine ⟨?_, trivial⟩
            simp only [List.drop_succ_cons, List.drop_zero, List.take_succ_cons, List.take_zero]
            go_wp2_with ((with_reducible refine calls_at 21 ?_); (with_reducible refine (dTurn X E0 0 hD (HFit.out 0 (by omega)) hXz1 (HD1.out.turn X) HS.out.1 HS.out.2.1 HS.out.2.2).mono ?_); rintro e w13 ⟨rfl, vW2, hw⟩; clear hD; have hD := hw; clear hw)
            refine ⟨.inr fun _ => hD.get 9 rfl, ?_⟩
            clear hp1
            have hp1 : RowIs g5 (.int .i64 Fk) [.string X, .slice P M C] w13 := hD.get 9 rfl
            refine wpAnyTS_quiet 8 2 0 183 (by rfl) (by kernel_rfl) (fun _ _ _ _ _ h => h) (by kernel_rfl) (by kernel_rfl) ?_
            apply Exists.intro
            refine ⟨fun w2' hw2 => ?_, ?_⟩
            · have hne := laterR_ne (R := Up) rok_upQ w2'
              obtain ⟨b0', b1', b2', -⟩ := RowAt.c3 (hw2 hp1)
              have l1 := laterU b1'
              clear b0' b1' b2'
              simp only [List.drop_succ_cons, List.drop_zero, List.take_succ_cons, List.take_zero]
              repeat (go_big_quiet_step (fail))
              exact wpQuiet_nil rfl
            refine wpAnyTS_done (by kernel_rfl) ?_
            intro w14 hu14
            replace hD := hD.next hu14
            clear hp1 hu14
            obtain ⟨x0, x1, x2, y0, y1, y2⟩ := RowAt.c3 (hD.get 9 rfl)
            clear x0 x1 x2 y0 y1 y2
            have HSM := Lib.hid (law6_same hD HD2.out.ok HD2.out.len HD2.out.pages)
            go_upto_region 33 with ((with_reducible refine calls_at 24 ?_); (with_reducible refine HSM.out.mono ?_); rintro e w40 ⟨rfl, hu⟩; replace hD := hD.next hu; clear hu)
            clear HSM
            go_wp2_with fail
            go_loopw [22] (fun v22 wr => ∃ p : Nat, v22 = .int .i64 (p : Int) ∧ p ≤ n ∧ Hold W wr (both g a q2 c2 d2 gl L2 ql cl gd vL vW2 d2 gr L2 qr cr [OPS, rowR g5 (.int .i64 Fk) [.string X, .slice P M C]])) (fun v _ => n - (intOf v).toNat)
            case atStart => exact ⟨0, rfl, Nat.zero_le _, hD⟩
            case round =>
              clear hD
              obtain ⟨p, rfl, hp, hD⟩ := hrel
              by_cases hpn : p < n
              · have hpn' : (p : Int) < (n : Int) := by omega
                obtain ⟨SS, hSS⟩ : ∃ SS, DiskD.rawD d2 (p : Int) = SS := ⟨_, rfl⟩
                have HSS := Lib.hid hSS
                clear hSS
                go_wp2_with (first
                  | ((with_reducible refine calls_at 25 ?_); (with_reducible refine (bRaw (p : Int) SS hD (by omega) HSS.out).mono ?_); rintro e w41 ⟨rfl, hw⟩; clear hD; have hD := hw; clear hw)
                  | ((with_reducible refine calls_at 26 ?_); (with_reducible refine (dRaw2 (p : Int) SS hD HD2.out.ok HD2.out.wl HSS.out).mono ?_); rintro e w42 ⟨rfl, rfl⟩))
                exact ⟨⟨p + 1, rfl, by omega, hD⟩, by simp [intOf]; omega⟩
              · have hpn' : ¬ (p : Int) < (n : Int) := by omega
                go_wp2_with fail
                exact ⟨⟨k + 1, gl, c2, q2, L2, d2, ql, cl, vW2, gr, qr, cr, rfl, rfl, rfl, rfl, rfl, by omega, by omega, H1.out, dropRow hD⟩, by simp [intOf]; omega⟩
          · have b3 : (Fk == 3) = false := by simpa using k3'
            obtain ⟨s0, s1, -⟩ := step_crash hI (by omega) FS
            obtain ⟨d2, hd2⟩ : ∃ d2, d.crashD FS = d2 := ⟨_, rfl⟩
            rw [hd2] at s0 s1
            obtain ⟨L2, hL2⟩ : ∃ L2, openL d2 = L2 := ⟨_, rfl⟩
            rw [hL2] at s1
            have H1 := Lib.hid s1
            have HD2 := Lib.hid (s1.does (by omega) hn16)
            have HS := Lib.hid (show d.crashD FS = d2 ∧ openLE d2 = 0 ∧ openL d2 = L2 from ⟨hd2, s0, hL2⟩)
            have WL := Lib.hid hI.inv.wlen
            clear s0 s1 hL2 hd2 hI k0' k1' k2' k3'
            go_upto_region 14 with fail
            clear c1 c2 c3
            replace hD : Hold W (wr.alloc (.cells #[.int .i64 Fk, .string X, .slice P M C] 39)) (both g a q c d gl L ql cl gd vL vW d gr L qr cr [OPS, rowR wr.heap.size (.int .i64 Fk) [.string X, .slice P M C]]) := hD.madeRow (.int .i64 Fk) [.string X, .slice P M C] 39
            generalize wr.heap.size = g5 at *
            generalize wr.alloc _ = w5 at *
            obtain ⟨x0, x1, x2, y0, y1, y2⟩ := RowAt.c3 (hD.get 9 rfl)
            go_upto_region 18 with (first
              | ((with_reducible refine calls_at 22 ?_); (with_reducible refine (bCrash FS M P C HFI.out HFM.out (by omega) hD (by omega) WL.out HS.out.1).mono ?_); rintro e w12 ⟨rfl, hw⟩; clear hD; have hD := hw; clear hw; clear x0 x1 x2 y0 y1 y2; obtain ⟨x0, x1, x2, y0, y1, y2⟩ := RowAt.c3 (hD.get 9 rfl))
              | ((with_reducible refine calls_at 23 ?_); (with_reducible refine (dCrash FS M P C HFI.out HFM.out (by omega) hD HD1.out.ok HD1.out.wl HS.out.1).mono ?_); rintro e w13 ⟨rfl, vW2, hw⟩; clear hD; have hD := hw; clear hw; clear x0 x1 x2 y0 y1 y2; obtain ⟨x0, x1, x2, y0, y1, y2⟩ := RowAt.c3 (hD.get 9 rfl)))
            clear x0 x1 x2 y0 y1 y2
            replace hD := dropLogs hD
            go_upto_region 31 with (first
              | ((with_reducible refine calls_at 12 ?_); (with_reducible refine (pOpen hD (by omega) HD2.out.ok HS.out.2.1 HS.out.2.2).mono ?_); rintro e w14 ⟨gl2, rfl, ql2, cl2, hw⟩; clear hD; have hD := hw; clear hw)
              | ((with_reducible refine calls_at 13 ?_); (with_reducible refine (dOpen hD HD2.out.ok HD2.out.wl HS.out.2.1 HS.out.2.2).mono ?_); rintro e w15 ⟨gr2, rfl, qr2, cr2, hw⟩; clear hD; have hD := hw; clear hw))
            obtain ⟨x0, x1, x2, y0, y1, y2⟩ := RowAt.c3 (hD.get 9 rfl)
            clear x0 x1 x2 y0 y1 y2
            have HSM := Lib.hid (law6_same hD HD2.out.ok HD2.out.len HD2.out.pages)
            go_upto_region 33 with ((with_reducible refine calls_at 24 ?_); (with_reducible refine HSM.out.mono ?_); rintro e w40 ⟨rfl, hu⟩; replace hD := hD.next hu; clear hu)
            clear HSM
            go_wp2_with fail
            go_loopw [22] (fun v22 wr => ∃ p : Nat, v22 = .int .i64 (p : Int) ∧ p ≤ n ∧ Hold W wr (both g a none c d2 gl2 L2 ql2 cl2 gd vL vW2 d2 gr2 L2 qr2 cr2 [OPS, rowR g5 (.int .i64 Fk) [.string X, .slice P M C]])) (fun v _ => n - (intOf v).toNat)
            case atStart => exact ⟨0, rfl, Nat.zero_le _, hD⟩
            case round =>
              clear hD
              obtain ⟨p, rfl, hp, hD⟩ := hrel
              by_cases hpn : p < n
              · have hpn' : (p : Int) < (n : Int) := by omega
                obtain ⟨SS, hSS⟩ : ∃ SS, DiskD.rawD d2 (p : Int) = SS := ⟨_, rfl⟩
                have HSS := Lib.hid hSS
                clear hSS
                go_wp2_with (first
                  | ((with_reducible refine calls_at 25 ?_); (with_reducible refine (bRaw (p : Int) SS hD (by omega) HSS.out).mono ?_); rintro e w41 ⟨rfl, hw⟩; clear hD; have hD := hw; clear hw)
                  | ((with_reducible refine calls_at 26 ?_); (with_reducible refine (dRaw2 (p : Int) SS hD HD2.out.ok HD2.out.wl HSS.out).mono ?_); rintro e w42 ⟨rfl, rfl⟩))
                exact ⟨⟨p + 1, rfl, by omega, hD⟩, by simp [intOf]; omega⟩
              · have hpn' : ¬ (p : Int) < (n : Int) := by omega
                go_wp2_with fail
                exact ⟨⟨k + 1, gl2, c, none, L2, d2, ql2, cl2, vW2, gr2, qr2, cr2, rfl, rfl, rfl, rfl, rfl, by omega, by omega, H1.out, dropRow hD⟩, by simp [intOf]; omega⟩
  · have j1 : ¬ (k : Int) < (mo : Int) := by omega
    clear hI
    go_wp2_with ((with_reducible refine (CX.out _).mono ?_); rintro e w9 ⟨rfl, hu⟩)
    go_ret
    exact ⟨rfl, hD.up.trans hu⟩
end Go.Proofs.Ytokpkkjgagbpfaa.does
namespace Go.Proofs.Ytokpkkjgagbpfaa.does
open Go.RowKit Bw
theorem row (P0 : Int) (_w0 : (Lit.int .i64 P0).wf = true) (a0 : Option Addr) (n0 m0 : Nat) (f : Nat → OpD) (pa : Nat → Option Addr) (ca : Nat → Nat) (hn0 : n0 ≤ 9223372036854775807) (W : World) (hO : OpsAt W a0 n0 f pa ca) :
    Calls Try.prog 3 #[.int .i64 P0, .slice a0 n0 m0] W fun e w' => e = .returned (.bool true) ∧ Below W.heap.size W w' := law P0 a0 n0 m0 f pa ca hn0 W hO
end Go.Proofs.Ytokpkkjgagbpfaa.does
