/- WalSafe: the walk. -/
import Derived.Test.YtokpkkjgagbpfaaWlCut
import Derived.Test.YtokpkkjgagbpfaaWlTurns
namespace Bw
set_option linter.unusedVariables false
def InvAB (L : LogD) (d : DiskD) : Prop := (∃ s, InvA L d s) ∨ InvB L d
theorem InvAB.fit {L : LogD} {d : DiskD} {c : Nat} (h : InvAB L d) (hc : c + 100000000 ≤ 1099511627776) (hA : L.age < 1099511627776) (hn : L.recs.length ≤ 90000) : LogFit L d c := by
  rcases h with ⟨s, h⟩ | h
  · exact h.fit hc hA hn
  · exact h.fit' hc hA hn
theorem InvAB.wlen {L : LogD} {d : DiskD} (h : InvAB L d) : d.W.length ≤ 512 := by
  rcases h with ⟨s, h⟩ | h
  · exact h.wlen
  · exact h.wlen
theorem InvAB.wr {L : LogD} {d : DiskD} (h : InvAB L d) : L.written ≤ L.recs.length := by
  rcases h with ⟨s, h⟩ | h
  · exact h.wr
  · have := h.wr; omega
theorem InvAB.ok {L : LogD} {d : DiskD} (h : InvAB L d) : d.Ok := by
  rcases h with ⟨s, h⟩ | h
  · exact h.ok
  · exact h.ok
structure SafeI (L : LogD) (d : DiskD) (n k : Nat) : Prop where
  inv : InvAB L d
  age : L.age ≤ 1 + (k : Int)
  len : L.recs.length ≤ 1 + k
  n : d.n = n
variable {L : LogD} {d : DiskD} {n k : Nat}
theorem safe_new {n : Nat} (h4 : 4 ≤ n) (hn : n ≤ 1024) : SafeI newL (initD n) n 0 := ⟨.inl ⟨0, (open_new h4 hn).2.2⟩, by decide, Nat.zero_le _, rfl⟩
theorem SafeI.fit (h : SafeI L d n k) (hk : k ≤ 1000) {c : Nat} (hc : c ≤ 100000) : LogFit L d c := h.inv.fit (by omega) (by have := h.age; omega) (by have := h.len; omega)
theorem step_append (h : SafeI L d n k) (S : ByteArray) : SafeI (L.append d S) d n (k + 1) ∧ (L.append d S).written = L.written ∧ (L.append d S).sure = L.sure ∧ (L.append d S).turned = L.turned ∧
    (L.appendE d S = 0 → (L.append d S).recs = L.recs ++ [S] ∧ L.appendN d S = (L.recs.length : Int) + 1) ∧ (L.appendE d S ≠ 0 → L.append d S = L) := by
  obtain ⟨b1, b2, b3, b4, b5, b6⟩ := append_age (L := L) (d := d) S
  have rr := append_recs (L := L) (d := d) S
  have hage := h.age
  have hlen := h.len
  refine ⟨⟨?_, by rw [b1]; omega, ?_, h.n⟩, b2, b3, b4, fun e => ⟨by rw [append_ok e], by unfold LogD.appendN; rw [if_pos e]; omega⟩, append_no⟩
  · rcases h.inv with ⟨s, hA⟩ | hB
    · exact .inl ⟨s, hA.append S⟩
    · have hw : L.why S ≠ 0 := fun e => by
        have := (why_zero e).2.2
        have := hB.t1
        omega
      have hE : L.appendE d S ≠ 0 := by unfold LogD.appendE; rw [if_pos hw]; exact hw
      rw [append_no hE]; exact .inr hB
  · rcases rr with e | e <;> rw [e]
    · omega
    · rw [List.length_append]; show L.recs.length + 1 ≤ _; omega
theorem step_write (h : SafeI L d n k) (hk : k ≤ 1000) : SafeI L.write (L.writeD d) n (k + 1) ∧ L.write.recs = L.recs ∧ L.write.sure = L.sure ∧ L.write.turned = L.turned ∧
    ((L.turned.size = 0 ∧ L.writeE = 0 ∧ L.write.written = L.recs.length) ∨ (L.turned.size ≠ 0 ∧ L.writeE = 9 ∧ L.write.written = L.written)) := by
  obtain ⟨c1, c2, c3, c4⟩ := write_which (l := L)
  have hage := h.age
  have hlen := h.len
  refine ⟨⟨?_, by rw [c2]; omega, by rw [write_recs]; omega, (writeD_n _ _).trans h.n⟩, write_recs L, c3, c4, ?_⟩
  · rcases h.inv with ⟨s, hA⟩ | hB
    · exact .inl ⟨s, hA.write (by omega)⟩
    · have hE : L.writeE ≠ 0 := by unfold LogD.writeE; rw [if_pos (by have := hB.t1; omega)]; decide
      have e1 : L.write = L := by unfold LogD.write; rw [if_neg hE]
      have e2 : L.writeD d = d := by unfold LogD.writeD; rw [if_neg hE]
      rw [e1, e2]; exact .inr hB
  · by_cases ht : L.turned.size = 0
    · obtain ⟨e1, e2, -⟩ := write_ok' (d := d) ht
      exact .inl ⟨ht, e1, by rw [e2]⟩
    · have hE : L.writeE = 9 := by unfold LogD.writeE; rw [if_pos ht]
      refine .inr ⟨ht, hE, ?_⟩
      unfold LogD.write; rw [if_neg (by rw [hE]; decide)]
theorem step_sync (h : SafeI L d n k) (hk : k ≤ 1000) : SafeI L.sync d.syncD n (k + 1) ∧ L.sync.turned.size = 0 ∧ L.sync.sure = L.sync.written ∧
    ((L.turned.size = 0 ∧ L.sync.recs = L.recs ∧ L.sync.written = L.written ∧ L.sync.turned = L.turned) ∨ (L.turned.size ≠ 0 ∧ L.sync.recs = [L.turned] ∧ L.sync.written = 1 ∧ L.sync.turned = ByteArray.empty)) := by
  have hage := h.age
  have hlen := h.len
  rcases h.inv with ⟨s, hA⟩ | hB
  · have e := sync_no hA.turned
    refine ⟨⟨.inl ⟨_, hA.sync⟩, by rw [e]; show L.age ≤ _; omega, by rw [e]; show L.recs.length ≤ _; omega, h.n⟩, by rw [e]; exact hA.turned, by rw [e], .inl ⟨hA.turned, by rw [e], by rw [e], by rw [e]⟩⟩
  · have e := sync_yes hB.t1
    refine ⟨⟨.inl ⟨_, hB.sync (by omega)⟩, by rw [e]; show L.age ≤ _; omega, by rw [e]; show 1 ≤ 1 + (k + 1); omega, h.n⟩, by rw [e]; rfl, by rw [e], .inr ⟨by have := hB.t1; omega, by rw [e], by rw [e], by rw [e]⟩⟩
theorem step_turn (h : SafeI L d n k) (S : ByteArray) : SafeI (L.turn d S) (L.turnD d S) n (k + 1) ∧ (L.turn d S).recs = L.recs ∧ (L.turn d S).written = L.written ∧ (L.turn d S).sure = L.sure ∧
    ((L.turnE d S = 0 ∧ L.turned.size = 0 ∧ L.recs.length ≤ L.sure ∧ (L.turn d S).turned = S) ∨ (L.turnE d S ≠ 0 ∧ (L.turn d S).turned = L.turned)) := by
  have hage := h.age
  have hlen := h.len
  by_cases hE : L.turnE d S = 0
  · obtain ⟨t1, t2, t3⟩ := turn_zero hE
    obtain ⟨y1, y2, y3⟩ := why_zero t1
    obtain ⟨e1, e2⟩ := turn_ok hE
    refine ⟨⟨?_, by rw [e1]; show L.age + 1 ≤ _; omega, by rw [e1]; show L.recs.length ≤ _; omega, (turnD_n _ _ _).trans h.n⟩, by rw [e1], by rw [e1], by rw [e1], .inl ⟨hE, y3, t2, by rw [e1]⟩⟩
    rcases h.inv with ⟨s, hA⟩ | hB
    · exact .inr (hA.turn hE)
    · have := hB.t1; omega
  · obtain ⟨e1, e2⟩ := turn_no hE
    rw [e1, e2]
    exact ⟨⟨h.inv, by omega, by omega, h.n⟩, rfl, rfl, rfl, .inr ⟨hE, rfl⟩⟩
theorem step_crash (h : SafeI L d n k) (hk : k ≤ 1000) (F : List Int) : openLE (d.crashD F) = 0 ∧ SafeI (openL (d.crashD F)) (d.crashD F) n (k + 1) ∧
    ((L.sure ≤ (openL (d.crashD F)).recs.length ∧ startsS (openL (d.crashD F)).recs (L.recs.take L.written) = true) ∨ (L.turned.size ≠ 0 ∧ (openL (d.crashD F)).recs = [L.turned])) := by
  have hage := h.age
  have hlen := h.len
  have hst : ∀ (R x : List ByteArray), L.recs.take L.written = R ++ x → startsS R (L.recs.take L.written) = true := fun R x e => by
    unfold startsS sameS
    rw [e, List.length_append, List.take_append_of_le_length (Nat.le_refl _), List.take_length]
    simp
  rcases h.inv with ⟨s, hA⟩ | hB
  · have cr := hA.crash F (by omega)
    obtain ⟨x, hx⟩ := cr.pre
    have hl := congrArg List.length hx
    rw [List.length_append, List.length_take] at hl
    exact ⟨cr.openE, ⟨.inl ⟨_, cr.inv⟩, by have := cr.age_le; omega, by omega, h.n⟩, .inl ⟨cr.sure, hst _ x hx⟩⟩
  · have cr := hB.crash F (by omega)
    refine ⟨cr.openE, ⟨.inl ⟨_, cr.inv⟩, by have := cr.age_le; omega, ?_, h.n⟩, ?_⟩
    · rcases cr.which with ⟨-, e⟩ | ⟨-, e⟩ <;> rw [e]
      · omega
      · show 1 ≤ _; omega
    · rcases cr.which with ⟨-, e⟩ | ⟨-, e⟩
      · rw [e]
        refine .inl ⟨by rw [hB.sure]; exact Nat.le_refl _, hst _ [] ?_⟩
        rw [hB.wr, List.take_length, List.append_nil]
      · exact .inr ⟨by have := hB.t1; omega, e⟩
theorem openL_same (d : DiskD) : (openL d).written = (openL d).recs.length ∧ (openL d).sure = (openL d).recs.length ∧ (openL d).turned = ByteArray.empty := ⟨rfl, rfl, rfl⟩
end Bw
namespace Go.Proofs.Ytokpkkjgagbpfaa
open Go.RowKit Bw
set_option linter.unusedVariables false
theorem zStartsB {w : World} {q q' : Option Addr} {c c' n m : Nat} (rs ts : List ByteArray) (v : Bool) (hn : rs.length = n) (hm : ts.length = m) (h : RecsAt w q rs) (h' : RecsAt w q' ts) (hn2 : n ≤ 1000000) (hm2 : m ≤ 1000000) (hc : m ≤ c') (hs : startsS rs ts = v) :
    Calls Try.prog 29 #[.slice q n c, .slice q' m c'] w fun e w' => e = .returned (.bool v) ∧ Up w w' := by
  subst hn hm hs
  exact law6_starts (c := c) rs ts h h' hn2 hm2 hc
theorem own_cap {w : World} {e : TypeId} {q : Option Addr} {c n : Nat} {xs : List Value} (h : (ownZ e 1 (.slice q n c) n xs).holds w) : n ≤ c := by
  have h' : w.ownsRow 0 e 1 (.slice q n c) n xs := h
  rcases h'.2 with ⟨h0, h1⟩ | ⟨g, cap, cur, he, hb, hg, hnc, -⟩
  · omega
  · injection he with h1 _ h3
    omega
/-- The cells of call i of those that were cut. -/
theorem op_cells {w : World} {b c m i : Nat} {f : Nat → OpD} {pa : Nat → Option Addr} {ca : Nat → Nat} (h : (ownZ 39 3 (.slice (some ⟨b, 0, none⟩) m c) m (opsC f pa ca m)).holds w) (hi : i < m) :
    w.cell? ⟨b, i * 3, none⟩ = some (.int .i64 (f i).k) ∧ w.cell? ⟨b, i * 3 + 1, none⟩ = some (.string (cutB 700 (f i).s)) ∧ w.cell? ⟨b, i * 3 + 2, none⟩ = some (.slice (pa i) (min (f i).f.length 60) (ca i)) := by
  have h' : w.ownsRow 0 39 3 (.slice (some ⟨b, 0, none⟩) m c) m (opsC f pa ca m) := h
  refine ⟨?_, ?_, ?_⟩
  · rw [World.ownsRow.cellAt h' (i * 3) (by omega)]
    have := opsC_get f pa ca i 0 (by omega) m hi
    rw [Nat.add_zero] at this
    rw [this]; rfl
  · rw [World.ownsRow.cellAt h' (i * 3 + 1) (by omega), opsC_get f pa ca i 1 (by omega) m hi]; rfl
  · rw [World.ownsRow.cellAt h' (i * 3 + 2) (by omega), opsC_get f pa ca i 2 (by omega) m hi]; rfl
theorem zSame2 {w : World} {q q' : Option Addr} {c c' n n' : Nat} (rs : List ByteArray) (hn : rs.length = n) (hn' : rs.length = n') (h : RecsAt w q rs) (h' : RecsAt w q' rs) (hn2 : n ≤ 1000000) :
    Calls Try.prog 30 #[.slice q n c, .slice q' n' c'] w fun e w' => e = .returned (.bool true) ∧ Up w w' := by
  subst hn hn'
  exact zSame rs rfl h h' hn2
/-- The same text alone, in a slice that is just built. -/
theorem sameNew {w : World} {q : Option Addr} {c n : Nat} {T : ByteArray} (h : RecsAt w q [T]) (hn : [T].length = n) (hn2 : n ≤ 1000000) :
    Calls Try.prog 30 #[.slice q n c, .slice (some ⟨w.heap.size, 0, none⟩) 1 1] (w.alloc (.cells #[.string T] 9)) fun e w' => e = .returned (.bool true) ∧ Up (w.alloc (.cells #[.string T] 9)) w' :=
  zSame2 [T] hn rfl (h.up ((Up.refl w).alloc _)) (recs_one (RowAt.made w 9 [.string T])) hn2
namespace safe
theorem dropRow {W w : World} {a b c d e f : Res} (h : Hold W w [a, b, c, d, e, f]) : Hold W w [a, b, c, d, e] := h.sub (.cons_cons _ (.cons_cons _ (.cons_cons _ (.cons_cons _ (.cons_cons _ (List.nil_sublist _))))))
/-- Behind Open and Records: the new log, its records told, the calls. -/
theorem turnOver {W w : World} {a b c d e f g h i : Res} (hh : Hold W w [a, b, c, d, e, f, g, h, i]) : Hold W w [a, b, c, g, d] :=
  (hh.sub (l' := [a, b, c, d, g]) (.cons_cons _ (.cons_cons _ (.cons_cons _ (.cons_cons _ (.cons _ (.cons _ (.cons_cons _ (List.nil_sublist _))))))))).perm (show ([a, b, c] ++ [d, g]).Perm ([a, b, c] ++ [g, d]) from List.Perm.append_left _ (List.Perm.swap _ _ _))
theorem pRecs {W w : World} {g a c gl cl : Nat} {q : Option Nat} {ql : Option Addr} {d : DiskD} {L : LogD} {rest : List Res} (n : Nat) (h : Hold W w (trio g a q c d gl L ql cl rest)) (hn : L.recs.length ≤ 90000) (hm : L.recs.length = n) :
    Calls Try.prog 28 #[.pointer (some ⟨gl, 0, none⟩)] w fun e w' => ∃ qr cr, e = .returned (.slice qr n cr) ∧ n ≤ cr ∧ Hold W w' (trio g a q c d gl L ql cl (recsR qr cr L.recs :: rest)) := by
  subst hm; exact tRecords h hn
set_option maxHeartbeats 8000000 in
set_option maxRecDepth 100000 in
theorem law (P0 : Int) (a0 : Option Addr) (n0 m0 : Nat) (f : Nat → OpD) (pa : Nat → Option Addr) (ca : Nat → Nat) (hn0 : n0 ≤ 9223372036854775807) (W : World) (hO : OpsAt W a0 n0 f pa ca) :
    Calls Try.prog 4 #[.int .i64 P0, .slice a0 n0 m0] W fun e w' => e = .returned (.bool true) ∧ Below W.heap.size W w' := by
  have hD := Hold.start W
  obtain ⟨inf, hi0', hz0, hz1, hz2⟩ := infoStr
  obtain ⟨k0, hm, hm16⟩ : ∃ m : Nat, bits .and .i64 P0 15 = (m : Int) ∧ m < 16 := by
    have h1 := Int.emod_nonneg P0 (show (16 : Int) ≠ 0 by omega)
    have h2 := Int.emod_lt_of_pos P0 (show (0 : Int) < 16 by omega)
    exact ⟨(P0 % 16).toNat, by rw [bits_15]; omega, by omega⟩
  have CX := Lib.hid law6_fixed
  have CC := Lib.hid (law6_Cut a0 n0 m0 f pa ca hn0 hO)
  obtain ⟨mo, hmo⟩ : ∃ mo, min n0 40 = mo := ⟨_, rfl⟩
  rw [hmo] at CC
  have HO := Lib.hid (fun i (hi : i < mo) => hO i (by omega))
  have hmo40 : mo ≤ 40 := by omega
  clear hO hmo
  go_enter Try.func4, Try.ntmps4
  have e1 : (4 : Int) + (k0 : Int) = ((4 + k0 : Nat) : Int) := by omega
  have hn1 : 4 ≤ 4 + k0 := by omega
  have hn16 : 4 + k0 ≤ 19 := by omega
  have N1 := Lib.hid (fun (w : World) (l : List Res) (h : Hold W w l) => show Calls Try.prog 10 #[.int .i64 ((4 : Int) + (k0 : Int))] w _ from e1 ▸ tNew (4 + k0) (by omega) (by omega) h)
  clear e1
  generalize hnn : 4 + k0 = n at *
  clear hnn
  obtain ⟨o1, o2, -⟩ := open_new hn1 (show n ≤ 1024 by omega)
  have O1 := Lib.hid o1
  have O2 := Lib.hid o2
  clear o1 o2
  go_upto_region 2 with ((with_reducible refine CC.out.mono ?_); rintro e w0 ⟨bo, co, rfl, hw⟩; clear hD; have hD := hw; clear hw CC)
  go_upto_region 3 with ((with_reducible refine (N1.out _ _ hD).mono ?_); rintro e w1 ⟨g, a, rfl, hw⟩; clear hD; have hD := hw; clear hw N1)
  go_upto_region 6 with ((with_reducible refine (pOpen hD (by omega) (initD_ok (by omega) (by omega)) O1.out O2.out).mono ?_); rintro e w2 ⟨gl, rfl, ql, cl, hw⟩; clear hD; have hD := hw; clear hw)
  go_upto_region 7 with fail
  replace hD := hD.madeZ 9 1
  obtain ⟨OPS, hOPS⟩ : ∃ R : Res, ownZ 39 3 (.slice (some ⟨bo, 0, none⟩) mo co) mo (opsC f pa ca mo) = R := ⟨_, rfl⟩
  rw [hOPS] at hD
  have HOP := Lib.hid (fun (w : World) (i : Nat) (hi : i < mo) (h : OPS.holds w) => op_cells (b := bo) (c := co) (f := f) (pa := pa) (ca := ca) (by rw [hOPS]; exact h) hi)
  clear hOPS
  replace hD : Hold W _ (trio g a none 0 (initD n) gl newL ql cl [OPS, recsR (some ⟨w2.heap.size, 0, none⟩) 0 newL.recs]) := hD
  generalize w2.heap.size = gi at *
  generalize w2.alloc _ = w3 at *
  go_wp2_with fail
  go_loopw [9, 10, 11, 12, 13, 14, 15] (fun v9 v10 v11 v12 v13 v14 v15 wr => ∃ (k gl c m : Nat) (q : Option Nat) (L : LogD) (d : DiskD) (ql : Option Addr) (cl : Nat) (qi : Option Addr) (ci : Nat), v9 = .pointer (some ⟨gl, 0, none⟩) ∧ v10 = .int .i64 0 ∧ v11 = .slice qi m ci ∧ L.recs.length = m ∧ v12 = .int .i64 (L.written : Int) ∧ v13 = .int .i64 (L.sure : Int) ∧ v14 = .string L.turned ∧ v15 = .int .i64 (k : Int) ∧ k ≤ mo ∧ c ≤ 1000 * k ∧ SafeI L d n k ∧ Hold W wr (trio g a q c d gl L ql cl [OPS, recsR qi ci L.recs])) (fun _ _ _ _ _ _ v _ => mo - (intOf v).toNat)
  case atStart => exact ⟨0, gl, 0, 0, none, newL, initD n, ql, cl, some ⟨gi, 0, none⟩, 0, rfl, rfl, rfl, rfl, rfl, rfl, rfl, rfl, by omega, by omega, safe_new hn1 (by omega), hD⟩
  case round =>
  clear hD
  obtain ⟨k, gl, c, m, q, L, d, ql, cl, qi, ci, rfl, rfl, rfl, hm2, rfl, rfl, rfl, rfl, hk, hc, hI, hD⟩ := hrel
  by_cases hkn : k < mo
  · have j0 : (0 : Int) ≤ (k : Int) := by omega
    have j1 : (k : Int) < (mo : Int) := by omega
    obtain ⟨c1, c2, c3⟩ := HOP.out wr k hkn (hD.get 3 rfl)
    obtain ⟨⟨-, hsz, hfc, hfl, -, hIA⟩, -⟩ := HO.out k hkn
    have hx700 := cutB_size 700 (f k).s
    have HFI := Lib.hid (ints_take hIA (min (f k).f.length 60))
    have HFM := Lib.hid (show ((f k).f.take (min (f k).f.length 60)).length = min (f k).f.length 60 by rw [List.length_take]; omega)
    have hM60 : min (f k).f.length 60 ≤ 60 := by omega
    generalize (f k).f.take (min (f k).f.length 60) = FS at *
    generalize min (f k).f.length 60 = M at *
    generalize cutB 700 (f k).s = X at *
    generalize hP : pa k = P at *
    generalize ca k = C at *
    generalize (f k).k = Fk at *
    have hXz : X.size ≤ 700 := by omega
    have hXz1 : X.size ≤ 1099511627776 := by omega
    have hcap := own_cap (hD.get 4 rfl)
    rw [hm2] at hcap
    have hlen := hI.len
    have hwr := hI.inv.wr
    rw [hm2] at hlen hwr
    have HFit := Lib.hid (fun c (hc : c ≤ 100000) => hI.fit (by omega) hc)
    have HLm := Lib.hid hm2
    have hm90 : m ≤ 90000 := by omega
    obtain ⟨wv, hwv⟩ : ∃ wv, L.written = wv := ⟨_, rfl⟩
    obtain ⟨sv, hsv⟩ : ∃ sv, L.sure = sv := ⟨_, rfl⟩
    obtain ⟨T, hT⟩ : ∃ T, L.turned = T := ⟨_, rfl⟩
    rw [hwv] at hwr
    simp only [hwv, hsv, hT]
    clear hx700 hIA hsz hfc hfl hP hm2
    by_cases k0' : Fk = 0
    · subst k0'
      obtain ⟨s1, s2, s3, s4, s5, s6⟩ := step_append hI X
      obtain ⟨L2, hL2⟩ : ∃ L2, L.append d X = L2 := ⟨_, rfl⟩
      obtain ⟨E0, hE0⟩ : ∃ E0, L.appendE d X = E0 := ⟨_, rfl⟩
      rw [hL2] at s1 s2 s3 s4 s5 s6
      rw [hE0] at s5 s6
      rw [hwv] at s2
      rw [hsv] at s3
      rw [hT] at s4
      have H1 := Lib.hid s1
      have H2 := Lib.hid s2
      have H3 := Lib.hid s3
      have H4 := Lib.hid s4
      by_cases e : E0 = 0
      · subst e
        obtain ⟨r1, r2⟩ := s5 rfl
        rw [HLm.out] at r2
        have HS := Lib.hid (show L.appendE d X = 0 ∧ L.appendN d X = (m : Int) + 1 ∧ L.append d X = L2 from ⟨hE0, r2, hL2⟩)
        have HR2 := Lib.hid r1
        clear s1 s2 s3 s4 s5 s6 r1 r2 hL2 hE0 hwv hsv hT hI
        go_upto_region 13 with fail
        replace hD := hD.madeRow (.int .i64 0) [.string X, .slice P M C] 39
        clear c1 c2 c3
        replace hD : Hold W (wr.alloc (.cells #[.int .i64 0, .string X, .slice P M C] 39)) [diskR g a q c d, logRow gl (.pointer (some ⟨g, 0, none⟩)) L ql cl, recsR ql cl L.recs, OPS, recsR qi ci L.recs, rowR wr.heap.size (.int .i64 0) [.string X, .slice P M C]] := hD
        generalize wr.heap.size = g5 at *
        generalize wr.alloc _ = w5 at *
        obtain ⟨x0, x1, x2, y0, y1, y2⟩ := RowAt.c3 (hD.get 5 rfl)
        go_upto_region 30 with ((with_reducible refine calls_at 14 ?_); (with_reducible refine (pAppend _ ((m : Int) + 1) 0 hD (HFit.out c (by omega)) hXz1 HS.out.2.2 HS.out.2.1 HS.out.1).mono ?_); rintro e w12 ⟨rfl, ql12, cl12, hw⟩; clear hD; have hD := hw; clear hw; clear x0 x1 x2 y0 y1 y2; obtain ⟨x0, x1, x2, y0, y1, y2⟩ := RowAt.c3 (hD.get 5 rfl))
        have hD3 : Hold W w12 [diskR g a q c d, logRow gl (.pointer (some ⟨g, 0, none⟩)) L2 ql12 cl12, recsR ql12 cl12 L2.recs, OPS, ownZ 9 1 (.slice qi m ci) m (strC L.recs), rowR g5 (.int .i64 0) [.string X, .slice P M C]] := by rw [← HLm.out]; exact hD
        clear hD
        go_upto_region 32 with ((with_reducible refine wpList_at 122 ?_); have hF := hD3.madeRow (.string X) [] 9; have r7 : RowAt _ w12.heap.size [.string X] := hF.get (R := rowR w12.heap.size (.string X) []) 6 rfl; refine wpList_appendZ rfl _ _ 49 rfl 9 inf (.string ⟨#[]⟩) 1 16 (by kernel_rfl) hi0' hz0 hz1 hz2 rfl (by decide) hF 4 _ (strC L.recs) m rfl rfl ⟨w12.heap.size, 0, none⟩ 1 [.string X] rfl rfl r7.addsAt (strC_one [X]) (by unfold maxLen; omega) (by omega) ?_; intro b9 c9 w6 hw9; clear hF r7)
        clear x0 x1 x2 y0 y1 y2
        have hD := own_more (lst := [diskR g a q c d, logRow gl (.pointer (some ⟨g, 0, none⟩)) L2 ql12 cl12, recsR ql12 cl12 L2.recs, OPS, ownZ 9 1 (.slice qi m ci) m (strC L.recs), rowR g5 (.int .i64 0) [.string X, .slice P M C]]) 4 HLm.out hw9 (show 4 < 6 by decide)
        replace hD : Hold W w6 [diskR g a q c d, logRow gl (.pointer (some ⟨g, 0, none⟩)) L2 ql12 cl12, recsR ql12 cl12 L2.recs, OPS, recsR (some ⟨b9, 0, none⟩) c9 (L.recs ++ [X]), rowR g5 (.int .i64 0) [.string X, .slice P M C]] := hD
        rw [← HR2.out] at hD
        clear hw9 hD3
        go_wp2_with fail
        exact ⟨⟨k + 1, gl, c, m + 1, _, L2, d, _, _, _, _, rfl, rfl, rfl, by rw [HR2.out, List.length_append, HLm.out]; rfl, by rw [H2.out], by rw [H3.out], by rw [H4.out], rfl, by omega, by omega, H1.out, dropRow hD⟩, by simp [intOf]; omega⟩
      · have e2 : (E0 == 0) = false := by simpa using e
        have hLL := s6 e
        obtain ⟨N0, hN0⟩ : ∃ N0, L.appendN d X = N0 := ⟨_, rfl⟩
        have HS := Lib.hid (show L.appendE d X = E0 ∧ L.appendN d X = N0 ∧ L.append d X = L2 from ⟨hE0, hN0, hL2⟩)
        have HR2 := Lib.hid (show L2.recs = L.recs by rw [hLL])
        clear s1 s2 s3 s4 s5 s6 hL2 hE0 hwv hsv hT hI hLL hN0
        go_upto_region 13 with fail
        replace hD := hD.madeRow (.int .i64 0) [.string X, .slice P M C] 39
        clear c1 c2 c3
        replace hD : Hold W (wr.alloc (.cells #[.int .i64 0, .string X, .slice P M C] 39)) [diskR g a q c d, logRow gl (.pointer (some ⟨g, 0, none⟩)) L ql cl, recsR ql cl L.recs, OPS, recsR qi ci L.recs, rowR wr.heap.size (.int .i64 0) [.string X, .slice P M C]] := hD
        generalize wr.heap.size = g5 at *
        generalize wr.alloc _ = w5 at *
        obtain ⟨x0, x1, x2, y0, y1, y2⟩ := RowAt.c3 (hD.get 5 rfl)
        go_upto_region 30 with ((with_reducible refine calls_at 14 ?_); (with_reducible refine (pAppend _ N0 E0 hD (HFit.out c (by omega)) hXz1 HS.out.2.2 HS.out.2.1 HS.out.1).mono ?_); rintro e w12 ⟨rfl, ql12, cl12, hw⟩; clear hD; have hD := hw; clear hw; clear x0 x1 x2 y0 y1 y2; obtain ⟨x0, x1, x2, y0, y1, y2⟩ := RowAt.c3 (hD.get 5 rfl))
        clear x0 x1 x2 y0 y1 y2
        go_wp2_with fail
        rw [← HR2.out] at hD
        exact ⟨⟨k + 1, gl, c, m, _, L2, d, _, _, _, _, rfl, rfl, rfl, by rw [HR2.out, HLm.out], by rw [H2.out], by rw [H3.out], by rw [H4.out], rfl, by omega, by omega, H1.out, dropRow hD⟩, by simp [intOf]; omega⟩
    · by_cases k1' : Fk = 1
      · subst k1'
        obtain ⟨s1, s2, s3, s4, s5⟩ := step_write hI (by omega)
        obtain ⟨L2, hL2⟩ : ∃ L2, L.write = L2 := ⟨_, rfl⟩
        rw [hL2] at s1 s2 s3 s4 s5
        rw [hsv] at s3
        rw [hT] at s4
        rw [hwv, HLm.out] at s5
        have H1 := Lib.hid s1
        have H2 := Lib.hid s2
        have H3 := Lib.hid s3
        have H4 := Lib.hid s4
        have HL2 := Lib.hid hL2
        rcases s5 with ⟨-, e1, e2⟩ | ⟨-, e1, e2⟩
        · have HE := Lib.hid e1
          have HW := Lib.hid e2
          clear s1 s2 s3 s4 e1 e2 hL2 hwv hsv hT hI
          go_upto_region 13 with fail
          replace hD := hD.madeRow (.int .i64 1) [.string X, .slice P M C] 39
          clear c1 c2 c3
          replace hD : Hold W (wr.alloc (.cells #[.int .i64 1, .string X, .slice P M C] 39)) [diskR g a q c d, logRow gl (.pointer (some ⟨g, 0, none⟩)) L ql cl, recsR ql cl L.recs, OPS, recsR qi ci L.recs, rowR wr.heap.size (.int .i64 1) [.string X, .slice P M C]] := hD
          generalize wr.heap.size = g5 at *
          generalize wr.alloc _ = w5 at *
          obtain ⟨x0, x1, x2, y0, y1, y2⟩ := RowAt.c3 (hD.get 5 rfl)
          go_wp2_with ((with_reducible refine calls_at 16 ?_); (with_reducible refine (pWrite 0 hD (HFit.out c (by omega)) HL2.out rfl HE.out).mono ?_); rintro e w12 ⟨rfl, q12, c12, hc12, hw⟩; clear hD; have hD := hw; clear hw; clear x0 x1 x2 y0 y1 y2)
          exact ⟨⟨k + 1, gl, c12, m, _, L2, _, _, _, _, _, rfl, rfl, rfl, by rw [H2.out, HLm.out], by rw [HW.out], by rw [H3.out], by rw [H4.out], rfl, by omega, by omega, H1.out, dropRow (H2.out ▸ hD)⟩, by simp [intOf]; omega⟩
        · have HE := Lib.hid e1
          have HW := Lib.hid e2
          clear s1 s2 s3 s4 e1 e2 hL2 hwv hsv hT hI
          go_upto_region 13 with fail
          replace hD := hD.madeRow (.int .i64 1) [.string X, .slice P M C] 39
          clear c1 c2 c3
          replace hD : Hold W (wr.alloc (.cells #[.int .i64 1, .string X, .slice P M C] 39)) [diskR g a q c d, logRow gl (.pointer (some ⟨g, 0, none⟩)) L ql cl, recsR ql cl L.recs, OPS, recsR qi ci L.recs, rowR wr.heap.size (.int .i64 1) [.string X, .slice P M C]] := hD
          generalize wr.heap.size = g5 at *
          generalize wr.alloc _ = w5 at *
          obtain ⟨x0, x1, x2, y0, y1, y2⟩ := RowAt.c3 (hD.get 5 rfl)
          go_wp2_with ((with_reducible refine calls_at 16 ?_); (with_reducible refine (pWrite 9 hD (HFit.out c (by omega)) HL2.out rfl HE.out).mono ?_); rintro e w12 ⟨rfl, q12, c12, hc12, hw⟩; clear hD; have hD := hw; clear hw; clear x0 x1 x2 y0 y1 y2)
          exact ⟨⟨k + 1, gl, c12, m, _, L2, _, _, _, _, _, rfl, rfl, rfl, by rw [H2.out, HLm.out], by rw [HW.out], by rw [H3.out], by rw [H4.out], rfl, by omega, by omega, H1.out, dropRow (H2.out ▸ hD)⟩, by simp [intOf]; omega⟩
      · by_cases k2' : Fk = 2
        · subst k2'
          obtain ⟨s1, s2, s3, s4⟩ := step_sync hI (by omega)
          obtain ⟨L2, hL2⟩ : ∃ L2, L.sync = L2 := ⟨_, rfl⟩
          rw [hL2] at s1 s2 s3 s4
          rw [hwv, hT] at s4
          have H1 := Lib.hid s1
          have H3 := Lib.hid s3
          have HL2 := Lib.hid hL2
          rcases s4 with ⟨e1, e2, e3, e4⟩ | ⟨e1, e2, e3, e4⟩
          · have hb := ba_empty e1
            have H2 := Lib.hid e2
            have HW := Lib.hid e3
            have H4 := Lib.hid e4
            clear s1 s2 s3 e1 e2 e3 e4 hL2 hwv hsv hT hI
            subst hb
            go_upto_region 13 with fail
            replace hD := hD.madeRow (.int .i64 2) [.string X, .slice P M C] 39
            clear c1 c2 c3
            replace hD : Hold W (wr.alloc (.cells #[.int .i64 2, .string X, .slice P M C] 39)) [diskR g a q c d, logRow gl (.pointer (some ⟨g, 0, none⟩)) L ql cl, recsR ql cl L.recs, OPS, recsR qi ci L.recs, rowR wr.heap.size (.int .i64 2) [.string X, .slice P M C]] := hD
            generalize wr.heap.size = g5 at *
            generalize wr.alloc _ = w5 at *
            obtain ⟨x0, x1, x2, y0, y1, y2⟩ := RowAt.c3 (hD.get 5 rfl)
            go_wp2_with ((with_reducible refine calls_at 18 ?_); (with_reducible refine (pSync hD (HFit.out c (by omega)) HL2.out rfl).mono ?_); rintro e w12 ⟨rfl, ql12, cl12, hw⟩; clear hD; have hD := hw; clear hw; clear x0 x1 x2 y0 y1 y2)
            exact ⟨⟨k + 1, gl, c, m, _, L2, _, _, _, _, _, rfl, rfl, rfl, by rw [H2.out, HLm.out], by rw [HW.out], by rw [H3.out, HW.out], by rw [H4.out], rfl, by omega, by omega, H1.out, dropRow (H2.out ▸ hD)⟩, by simp [intOf]; omega⟩
          · have t1 : T.toList.isEmpty = false := str_nonempty (by omega)
            have t2 : ¬ T.toList = [] := by intro h; rw [h] at t1; cases t1
            have H2 := Lib.hid e2
            have HW := Lib.hid e3
            have H4 := Lib.hid e4
            clear s1 s2 s3 e1 e2 e3 e4 hL2 hwv hsv hT hI
            go_upto_region 13 with fail
            replace hD := hD.madeRow (.int .i64 2) [.string X, .slice P M C] 39
            clear c1 c2 c3
            replace hD : Hold W (wr.alloc (.cells #[.int .i64 2, .string X, .slice P M C] 39)) [diskR g a q c d, logRow gl (.pointer (some ⟨g, 0, none⟩)) L ql cl, recsR ql cl L.recs, OPS, recsR qi ci L.recs, rowR wr.heap.size (.int .i64 2) [.string X, .slice P M C]] := hD
            generalize wr.heap.size = g5 at *
            generalize wr.alloc _ = w5 at *
            obtain ⟨x0, x1, x2, y0, y1, y2⟩ := RowAt.c3 (hD.get 5 rfl)
            go_upto_region 39 with ((with_reducible refine calls_at 18 ?_); (with_reducible refine (pSync hD (HFit.out c (by omega)) HL2.out rfl).mono ?_); rintro e w12 ⟨rfl, ql12, cl12, hw⟩; clear hD; have hD := hw; clear hw; clear x0 x1 x2 y0 y1 y2)
            replace hD := hD.builtAt 4 rfl 9 T
            replace hD : Hold W (w12.alloc (.cells #[.string T] 9)) [diskR g a none c d.syncD, logRow gl (.pointer (some ⟨g, 0, none⟩)) L2 ql12 cl12, recsR ql12 cl12 L2.recs, OPS, recsR (some ⟨w12.heap.size, 0, none⟩) 1 [T], rowR g5 (.int .i64 2) [.string X, .slice P M C]] := hD
            rw [show recsR (some ⟨w12.heap.size, 0, none⟩) 1 [T] = recsR (some ⟨w12.heap.size, 0, none⟩) 1 L2.recs by rw [H2.out]] at hD
            go_wp2_with fail
            exact ⟨⟨k + 1, gl, c, 1, _, L2, _, _, _, _, _, rfl, rfl, rfl, by rw [H2.out]; rfl, by rw [HW.out]; rfl, by rw [H3.out, HW.out]; rfl, by rw [H4.out]; rfl, rfl, by omega, by omega, H1.out, dropRow hD⟩, by simp [intOf]; omega⟩
        · by_cases k3' : Fk = 3
          · subst k3'
            obtain ⟨s1, s2, s3, s4, s5⟩ := step_turn hI X
            obtain ⟨L2, hL2⟩ : ∃ L2, L.turn d X = L2 := ⟨_, rfl⟩
            obtain ⟨E0, hE0⟩ : ∃ E0, L.turnE d X = E0 := ⟨_, rfl⟩
            rw [hL2] at s1 s2 s3 s4 s5
            rw [hE0, hT, HLm.out, hsv] at s5
            rw [hwv] at s3
            rw [hsv] at s4
            have H1 := Lib.hid s1
            have H2 := Lib.hid s2
            have HW := Lib.hid s3
            have H3 := Lib.hid s4
            have HS := Lib.hid (show L.turn d X = L2 ∧ L.turnE d X = E0 from ⟨hL2, hE0⟩)
            rcases s5 with ⟨e1, e2, e3, e4⟩ | ⟨e1, e4⟩
            · have hb := ba_empty e2
              have H4 := Lib.hid e4
              have hsm : ¬ (sv : Int) < (m : Int) := by omega
              clear s1 s2 s3 s4 hL2 hE0 hwv hsv hT hI e2 e3 e4
              subst hb
              subst e1
              go_upto_region 13 with fail
              replace hD := hD.madeRow (.int .i64 3) [.string X, .slice P M C] 39
              clear c1 c2 c3
              replace hD : Hold W (wr.alloc (.cells #[.int .i64 3, .string X, .slice P M C] 39)) [diskR g a q c d, logRow gl (.pointer (some ⟨g, 0, none⟩)) L ql cl, recsR ql cl L.recs, OPS, recsR qi ci L.recs, rowR wr.heap.size (.int .i64 3) [.string X, .slice P M C]] := hD
              generalize wr.heap.size = g5 at *
              generalize wr.alloc _ = w5 at *
              obtain ⟨x0, x1, x2, y0, y1, y2⟩ := RowAt.c3 (hD.get 5 rfl)
              go_wp2_with ((with_reducible refine calls_at 20 ?_); (with_reducible refine (pTurn X 0 hD (HFit.out c (by omega)) hXz1 HS.out.1 rfl HS.out.2).mono ?_); rintro e w12 ⟨rfl, q12, c12, hc12, hw⟩; clear hD; have hD := hw; clear hw; clear x0 x1 x2 y0 y1 y2; obtain ⟨x0, x1, x2, y0, y1, y2⟩ := RowAt.c3 (hD.get 5 rfl))
              exact ⟨⟨k + 1, gl, c12, m, _, L2, _, _, _, _, _, rfl, rfl, rfl, by rw [H2.out, HLm.out], by rw [HW.out], by rw [H3.out], by rw [H4.out], rfl, by omega, by omega, H1.out, dropRow (H2.out ▸ hD)⟩, by simp [intOf]; omega⟩
            · have b2 : (E0 == 0) = false := by simpa using e1
              have H4 := Lib.hid e4
              clear s1 s2 s3 s4 hL2 hE0 hwv hsv hT hI e4
              go_upto_region 13 with fail
              replace hD := hD.madeRow (.int .i64 3) [.string X, .slice P M C] 39
              clear c1 c2 c3
              replace hD : Hold W (wr.alloc (.cells #[.int .i64 3, .string X, .slice P M C] 39)) [diskR g a q c d, logRow gl (.pointer (some ⟨g, 0, none⟩)) L ql cl, recsR ql cl L.recs, OPS, recsR qi ci L.recs, rowR wr.heap.size (.int .i64 3) [.string X, .slice P M C]] := hD
              generalize wr.heap.size = g5 at *
              generalize wr.alloc _ = w5 at *
              obtain ⟨x0, x1, x2, y0, y1, y2⟩ := RowAt.c3 (hD.get 5 rfl)
              go_wp2_with ((with_reducible refine calls_at 20 ?_); (with_reducible refine (pTurn X E0 hD (HFit.out c (by omega)) hXz1 HS.out.1 rfl HS.out.2).mono ?_); rintro e w12 ⟨rfl, q12, c12, hc12, hw⟩; clear hD; have hD := hw; clear hw; clear x0 x1 x2 y0 y1 y2)
              exact ⟨⟨k + 1, gl, c12, m, _, L2, _, _, _, _, _, rfl, rfl, rfl, by rw [H2.out, HLm.out], by rw [HW.out], by rw [H3.out], by rw [H4.out], rfl, by omega, by omega, H1.out, dropRow (H2.out ▸ hD)⟩, by simp [intOf]; omega⟩
          · have b0 : (Fk == 0) = false := by simpa using k0'
            have b1 : (Fk == 1) = false := by simpa using k1'
            have b2 : (Fk == 2) = false := by simpa using k2'
            have b3 : (Fk == 3) = false := by simpa using k3'
            obtain ⟨s1, s2, s3⟩ := step_crash hI (by omega) FS
            obtain ⟨R, hR⟩ : ∃ R, openL (d.crashD FS) = R := ⟨_, rfl⟩
            obtain ⟨f1, f2, f3⟩ := openL_same (d.crashD FS)
            rw [hR] at s2 s3 f1 f2 f3
            rw [hsv, hwv, hT] at s3
            obtain ⟨mr, hmr⟩ : ∃ mr, R.recs.length = mr := ⟨_, rfl⟩
            have hrl := s2.len
            rw [hmr] at s3 f1 f2 hrl
            have HR1 := Lib.hid s2
            have HOE := Lib.hid s1
            have HRE := Lib.hid hR
            have HRM := Lib.hid hmr
            have HRN := Lib.hid (show R.recs.length ≤ 90000 by rw [hmr]; omega)
            have HRW := Lib.hid f1
            have HRS := Lib.hid f2
            have HRT := Lib.hid f3
            have WL := Lib.hid hI.inv.wlen
            have HTK := Lib.hid (show (L.recs.take wv).length = wv by rw [List.length_take, HLm.out]; omega)
            have hsl := fun w => slice_to qi m ci wv (by omega) w
            have HSL := Lib.hid hsl
            by_cases ho : sv ≤ mr ∧ startsS R.recs (L.recs.take wv) = true
            · obtain ⟨o1, o2⟩ := ho
              have o3 : (mr : Int) ≥ (sv : Int) := by omega
              have HO2 := Lib.hid o2
              clear s1 s2 s3 f1 f2 f3 hR hmr hwv hsv hT hI k0' k1' k2' k3' o1 o2 hsl
              go_upto_region 13 with fail
              replace hD := hD.madeRow (.int .i64 Fk) [.string X, .slice P M C] 39
              clear c1 c2 c3
              replace hD : Hold W (wr.alloc (.cells #[.int .i64 Fk, .string X, .slice P M C] 39)) [diskR g a q c d, logRow gl (.pointer (some ⟨g, 0, none⟩)) L ql cl, recsR ql cl L.recs, OPS, recsR qi ci L.recs, rowR wr.heap.size (.int .i64 Fk) [.string X, .slice P M C]] := hD
              generalize wr.heap.size = g5 at *
              generalize wr.alloc _ = w5 at *
              obtain ⟨x0, x1, x2, y0, y1, y2⟩ := RowAt.c3 (hD.get 5 rfl)
              go_upto_region 15 with ((with_reducible refine calls_at 22 ?_); (with_reducible refine (pCrash FS M P C HFI.out HFM.out (by omega) hD (by omega) WL.out rfl).mono ?_); rintro e w24 ⟨rfl, hw⟩; clear hD; have hD := hw; clear hw)
              clear x0 x1 x2 y0 y1 y2
              go_upto_region 20 with ((with_reducible refine calls_at 12 ?_); (with_reducible refine (pOpen hD (by omega) HR1.out.inv.ok HOE.out HRE.out).mono ?_); rintro e w25 ⟨gx, rfl, qx, cx, hw⟩; clear hD; have hD := hw; clear hw)
              go_upto_region 21 with ((with_reducible refine calls_at 28 ?_); (with_reducible refine (pRecs mr hD HRN.out HRM.out).mono ?_); rintro e w28 ⟨qr, cr, rfl, hcr, hw⟩; clear hD; have hD := hw; clear hw)
              have HA := Lib.hid ((recs_all hD (k := 7) (e := 9) (q := qi) (c := ci) (rs := L.recs) rfl).take wv)
              have HB := Lib.hid (recs_all hD (k := 3) (e := 9) (q := qr) (c := cr) (rs := R.recs) rfl)
              have hsl := HSL.out
              go_wp2_with ((with_reducible refine calls_at 29 ?_); (with_reducible refine (zStartsB R.recs (L.recs.take wv) true HRM.out HTK.out HB.out HA.out (by omega) (by omega) (by omega) HO2.out).mono ?_); rintro e w29 ⟨rfl, hu⟩; replace hD := hD.next hu; clear hu)
              exact ⟨⟨k + 1, gx, _, mr, _, R, _, _, _, _, _, rfl, rfl, rfl, HRM.out, by rw [HRW.out], by rw [HRS.out], by rw [HRT.out]; rfl, rfl, by omega, by omega, HR1.out, turnOver hD⟩, by simp [intOf]; omega⟩
            · have hq : T.size ≠ 0 ∧ R.recs = [T] := by
                rcases s3 with s3 | s3
                · exact absurd s3 ho
                · exact s3
              obtain ⟨q1, q2⟩ := hq
              have hmr1 : mr = 1 := by rw [← hmr, q2]; rfl
              have HQ2 := Lib.hid q2
              have HM1 := Lib.hid (show [T].length = mr from hmr1.symm)
              clear hmr1
              have t1 : T.toList.isEmpty = false := str_nonempty (by omega)
              have t2 : ¬ T.toList = [] := by intro h; rw [h] at t1; cases t1
              by_cases o1 : sv ≤ mr
              · have o3 : (mr : Int) ≥ (sv : Int) := by omega
                have HO2 := Lib.hid (show startsS R.recs (L.recs.take wv) = false by
                  cases e : startsS R.recs (L.recs.take wv)
                  · rfl
                  · exact absurd ⟨o1, e⟩ ho)
                clear s1 s2 s3 f1 f2 f3 hR hmr hwv hsv hT hI k0' k1' k2' k3' o1 q1 q2 hsl ho
                go_upto_region 13 with fail
                replace hD := hD.madeRow (.int .i64 Fk) [.string X, .slice P M C] 39
                clear c1 c2 c3
                replace hD : Hold W (wr.alloc (.cells #[.int .i64 Fk, .string X, .slice P M C] 39)) [diskR g a q c d, logRow gl (.pointer (some ⟨g, 0, none⟩)) L ql cl, recsR ql cl L.recs, OPS, recsR qi ci L.recs, rowR wr.heap.size (.int .i64 Fk) [.string X, .slice P M C]] := hD
                generalize wr.heap.size = g5 at *
                generalize wr.alloc _ = w5 at *
                obtain ⟨x0, x1, x2, y0, y1, y2⟩ := RowAt.c3 (hD.get 5 rfl)
                go_upto_region 15 with ((with_reducible refine calls_at 22 ?_); (with_reducible refine (pCrash FS M P C HFI.out HFM.out (by omega) hD (by omega) WL.out rfl).mono ?_); rintro e w24 ⟨rfl, hw⟩; clear hD; have hD := hw; clear hw)
                clear x0 x1 x2 y0 y1 y2
                go_upto_region 20 with ((with_reducible refine calls_at 12 ?_); (with_reducible refine (pOpen hD (by omega) HR1.out.inv.ok HOE.out HRE.out).mono ?_); rintro e w25 ⟨gx, rfl, qx, cx, hw⟩; clear hD; have hD := hw; clear hw)
                go_upto_region 21 with ((with_reducible refine calls_at 28 ?_); (with_reducible refine (pRecs mr hD HRN.out HRM.out).mono ?_); rintro e w28 ⟨qr, cr, rfl, hcr, hw⟩; clear hD; have hD := hw; clear hw)
                have HA := Lib.hid ((recs_all hD (k := 7) (e := 9) (q := qi) (c := ci) (rs := L.recs) rfl).take wv)
                have HB0 := Lib.hid (recs_all hD (k := 3) (e := 9) (q := qr) (c := cr) (rs := R.recs) rfl)
                have HB := Lib.hid (show RecsAt w28 qr [T] by rw [← HQ2.out]; exact HB0.out)
                have HSF := Lib.hid (fun (w : World) (hr : RecsAt w qr [T]) => sameNew (c := cr) hr HM1.out (by omega))
                have hsl := HSL.out
                go_wp2_with (first
                  | ((with_reducible refine calls_at 29 ?_); (with_reducible refine (zStartsB R.recs (L.recs.take wv) false HRM.out HTK.out HB0.out HA.out (by omega) (by omega) (by omega) HO2.out).mono ?_); rintro e w29 ⟨rfl, hu⟩; replace hD := hD.next hu; have HB2 := Lib.hid (HB.out.up hu); clear hu)
                  | ((with_reducible refine calls_at 30 ?_); (with_reducible refine (HSF.out _ HB2.out).mono ?_); rintro e w30 ⟨rfl, hu⟩; replace hD := (hD.next ((Up.refl _).alloc (.cells #[.string T] 9))).next hu; clear hu))
                exact ⟨⟨k + 1, gx, _, mr, _, R, _, _, _, _, _, rfl, rfl, rfl, HRM.out, by rw [HRW.out], by rw [HRS.out], by rw [HRT.out]; rfl, rfl, by omega, by omega, HR1.out, turnOver hD⟩, by simp [intOf]; omega⟩
              · have o3 : ¬ (mr : Int) ≥ (sv : Int) := by omega
                clear s1 s2 s3 f1 f2 f3 hR hmr hwv hsv hT hI k0' k1' k2' k3' o1 q1 q2 hsl ho
                go_upto_region 13 with fail
                replace hD := hD.madeRow (.int .i64 Fk) [.string X, .slice P M C] 39
                clear c1 c2 c3
                replace hD : Hold W (wr.alloc (.cells #[.int .i64 Fk, .string X, .slice P M C] 39)) [diskR g a q c d, logRow gl (.pointer (some ⟨g, 0, none⟩)) L ql cl, recsR ql cl L.recs, OPS, recsR qi ci L.recs, rowR wr.heap.size (.int .i64 Fk) [.string X, .slice P M C]] := hD
                generalize wr.heap.size = g5 at *
                generalize wr.alloc _ = w5 at *
                obtain ⟨x0, x1, x2, y0, y1, y2⟩ := RowAt.c3 (hD.get 5 rfl)
                go_upto_region 15 with ((with_reducible refine calls_at 22 ?_); (with_reducible refine (pCrash FS M P C HFI.out HFM.out (by omega) hD (by omega) WL.out rfl).mono ?_); rintro e w24 ⟨rfl, hw⟩; clear hD; have hD := hw; clear hw)
                clear x0 x1 x2 y0 y1 y2
                go_upto_region 20 with ((with_reducible refine calls_at 12 ?_); (with_reducible refine (pOpen hD (by omega) HR1.out.inv.ok HOE.out HRE.out).mono ?_); rintro e w25 ⟨gx, rfl, qx, cx, hw⟩; clear hD; have hD := hw; clear hw)
                go_upto_region 21 with ((with_reducible refine calls_at 28 ?_); (with_reducible refine (pRecs mr hD HRN.out HRM.out).mono ?_); rintro e w28 ⟨qr, cr, rfl, hcr, hw⟩; clear hD; have hD := hw; clear hw)
                have HB0 := Lib.hid (recs_all hD (k := 3) (e := 9) (q := qr) (c := cr) (rs := R.recs) rfl)
                have HB := Lib.hid (show RecsAt w28 qr [T] by rw [← HQ2.out]; exact HB0.out)
                have HSF := Lib.hid (fun (w : World) (hr : RecsAt w qr [T]) => sameNew (c := cr) hr HM1.out (by omega))
                go_wp2_with ((with_reducible refine calls_at 30 ?_); (with_reducible refine (HSF.out _ HB.out).mono ?_); rintro e w30 ⟨rfl, hu⟩; replace hD := (hD.next ((Up.refl _).alloc (.cells #[.string T] 9))).next hu; clear hu)
                exact ⟨⟨k + 1, gx, _, mr, _, R, _, _, _, _, _, rfl, rfl, rfl, HRM.out, by rw [HRW.out], by rw [HRS.out], by rw [HRT.out]; rfl, rfl, by omega, by omega, HR1.out, turnOver hD⟩, by simp [intOf]; omega⟩
  · have j1 : ¬ (k : Int) < (mo : Int) := by omega
    clear hI
    go_wp2_with ((with_reducible refine (CX.out _).mono ?_); rintro e w9 ⟨rfl, hu⟩)
    go_ret
    exact ⟨rfl, hD.up.trans hu⟩
end safe
end Go.Proofs.Ytokpkkjgagbpfaa
namespace Go.Proofs.Ytokpkkjgagbpfaa.safe
open Go.RowKit Bw
theorem row (P0 : Int) (_w0 : (Lit.int .i64 P0).wf = true) (a0 : Option Addr) (n0 m0 : Nat) (f : Nat → OpD) (pa : Nat → Option Addr) (ca : Nat → Nat) (hn0 : n0 ≤ 9223372036854775807) (W : World) (hO : OpsAt W a0 n0 f pa ca) :
    Calls Try.prog 4 #[.int .i64 P0, .slice a0 n0 m0] W fun e w' => e = .returned (.bool true) ∧ Below W.heap.size W w' := law P0 a0 n0 m0 f pa ca hn0 W hO
end Go.Proofs.Ytokpkkjgagbpfaa.safe
