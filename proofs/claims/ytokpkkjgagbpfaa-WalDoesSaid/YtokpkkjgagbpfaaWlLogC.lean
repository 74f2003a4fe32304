/- Layer 6: Write. -/
import Derived.Test.YtokpkkjgagbpfaaWlLogB
import Derived.Test.YtokpkkjgagbpfaaUpQ
namespace Bw
open Go Go.RowKit
set_option linter.unusedVariables false
/-- Where a slice of one-cell elements begins, from element k on. -/
def recQ (q : Option Addr) (c k : Nat) : Option Addr := if c = k then q else q.map (·.add (k * 1))
theorem strC_get (rs : List ByteArray) (i : Nat) (h : i < rs.length) : (strC rs)[i]? = some (.string rs[i]) := by
  simp [strC, h]
/-- All records but the first ones, as a slice that is only read. -/
theorem recs_at {W w : World} {l : List Res} {k : Nat} {e : TypeId} {q : Option Addr} {c : Nat} {rs : List ByteArray} (h : Hold W w l) (hk : l[k]? = some (ownZ e 1 (.slice q rs.length c) rs.length (strC rs))) (n : Nat) : RecsAt w (recQ q c n) (rs.drop n) := by
  have h' : w.ownsRow 0 e 1 (.slice q rs.length c) rs.length (strC rs) := h.get k hk
  intro hne
  have hlt : n < rs.length := by
    rcases Nat.lt_or_ge n rs.length with h | h
    · exact h
    · exact absurd (List.drop_eq_nil_of_le h) hne
  rcases h'.2 with ⟨h0, h1⟩ | ⟨g, cap, cur, he, hb, hg, hnc, -⟩
  · injection h0 with _ h0 _; omega
  · injection he with h1 _ h3
    subst h1 h3
    refine ⟨g, n, ?_, fun i hi => ?_⟩
    · unfold recQ
      rw [if_neg (by omega)]
      show some ((⟨g, 0, none⟩ : Addr).add (n * 1)) = _
      unfold Addr.add
      simp
      exact fun h => h.symm
    · rw [List.length_drop] at hi
      rw [World.ownsRow.cellAt h' (n + i) (by omega), strC_get rs (n + i) (by omega)]
      simp
/-- What holds stays. -/
def Keeps (P : World → Prop) (a b : World) : Prop := P a → P b
theorem keeps_ok {P : World → Prop} (hP : ∀ {a b}, Up a b → P a → P b) : TRok Up (Keeps P) := ⟨rok_upQ, ⟨fun _ h => h, fun h k x => k (h x)⟩, fun h x => hP h x⟩
theorem laterU {w : World} {p : Addr} {v : Value} (h : w.cell? p = some v) : ∀ u : LaterR Up w, u.world.cell? p = some v := fun u =>
  (Below.cell (p := p) u.up (World.block_lt_of_cell? w _ h)).trans h
/-- A log's row, and its records as a slice. -/
def RowRecs (gl : Nat) (v v1 v2 : Value) (vs : List Value) (q : Option Addr) (rs : List ByteArray) (w : World) : Prop := (∃ v3, RowAt w gl (v :: v1 :: v2 :: v3 :: vs)) ∧ RecsAt w q rs
theorem rowRecs_up {gl : Nat} {v v1 v2 : Value} {vs : List Value} {q : Option Addr} {rs : List ByteArray} {a b : World} (h : Up a b) (hp : RowRecs gl v v1 v2 vs q rs a) : RowRecs gl v v1 v2 vs q rs b := by
  obtain ⟨⟨v3, h1⟩, h2⟩ := hp
  exact ⟨⟨v3, h1.up h⟩, h2.up h⟩
theorem Calls.laterUp {P : Program} {f : FuncId} {args : Array Value} {W : World} {u : LaterR Up W} {v : Value} (h : Calls P f args u.world fun e w' => e = .returned v ∧ Up u.world w') :
    Calls P f args u.world fun e w' => e = .returned v ∧ ∃ u' : LaterR Up W, w' = u'.world :=
  h.mono fun _ w' ⟨he, hb⟩ => ⟨he, ⟨w', u.up.trans hb⟩, rfl⟩
theorem set_set_ne {α : Type _} (l : List α) {i j : Nat} (x y : α) (h : i ≠ j) : (l.set i x).set j y = (l.set j y).set i x := List.set_comm _ _ h
end Bw
namespace Go.Proofs.Ytokpkkjgagbpfaa
open Go.RowKit Bw
set_option linter.unusedVariables false
set_option maxRecDepth 100000
theorem slice_recs (q : Option Addr) (n c k : Nat) (hk : k ≤ n) (w : World) : (Instr.sliceAt 49 (.slice q n c) (some (.int .i64 (k : Int))) none none).run Try.prog w = .ok (.slice (recQ q c k) (n - k) (c - k)) w := by
  have hu : Try.prog.underlying 49 = some (.slice (Try.prog.elem 49)) := by kernel_rfl
  have h1 := run_sliceAt_slice (P := Try.prog) (w := w) 49 (.slice q n c) (some (.int .i64 (k : Int))) none none hu
  have h2 := run_slice_l (P := Try.prog) (w := w) 49 q n c hu .i64 (k : Int) (by omega) (by omega)
  have hs : (sizeOf (Try.prog.elem 49)).run Try.prog w = .ok 1 w := by kernel_rfl
  rw [hs] at h2
  exact h1.trans h2
abbrev recsR (q : Option Addr) (c : Nat) (rs : List ByteArray) : Res := ownZ 9 1 (.slice q rs.length c) rs.length (strC rs)
variable {W w : World} {l : List Res} {g a c gl cl : Nat} {q : Option Nat} {ql : Option Addr} {d : DiskD} {L : LogD}
set_option maxHeartbeats 2000000 in
theorem wal_Write (h : Hold W w l) (i : Nat) (hi : l[i]? = some (logRow gl (.pointer (some ⟨g, 0, none⟩)) L ql cl)) (j : Nat) (hj : l[j]? = some (diskR g a q c d)) (k : Nat) (hk : l[k]? = some (recsR ql cl L.recs)) (hij : i ≠ j) (hjk : j ≠ k) (hik : i ≠ k) (hc : c + 100000000 ≤ 1099511627776) (hok : d.Ok)
    (hA : 0 ≤ L.age ∧ L.age < 281474976710656) (hw : L.which ≤ 1) (hwr : L.written ≤ L.recs.length) (hs : ∀ x ∈ L.recs.drop L.written, x.size ≤ 100000) (hn : L.recs.length ≤ 100000) (hfit : L.pages + needW (frameW (L.recs.drop L.written)).size ≤ 1000) :
    Calls Try.prog 16 #[.pointer (some ⟨gl, 0, none⟩)] w fun e w' => e = .returned (.int .i64 L.writeE) ∧ ∃ q' c', c' ≤ c + 1000 ∧ Hold W w' ((l.set i (logRow gl (.pointer (some ⟨g, 0, none⟩)) L.write ql cl)).set j (diskR g a q' c' (L.writeD d))) := by
  have hrow := h.get i hi
  obtain ⟨which, age, pages, recs, written, sure, turned⟩ := L
  obtain ⟨a0, a1, a2, a3, a4, a5, a6, a7, e0, e1, e2, e3, e4, e5, e6, e7⟩ := RowAt.c8 hrow
  by_cases ht : turned.size = 0
  · have hb := ba_empty ht
    subst hb
    have hE : LogD.writeE ⟨which, age, pages, recs, written, sure, ByteArray.empty⟩ = 0 := by unfold LogD.writeE; rw [if_neg (by simp)]
    have hL : LogD.write ⟨which, age, pages, recs, written, sure, ByteArray.empty⟩ = ⟨which, age, pages + needW (frameW (recs.drop written)).size, recs, recs.length, sure, ByteArray.empty⟩ := by
      unfold LogD.write; rw [if_pos hE]; unfold frameW; rw [size_str]
    have hD : LogD.writeD ⟨which, age, pages, recs, written, sure, ByteArray.empty⟩ d = layD d age which pages (frameW (recs.drop written)) := by unfold LogD.writeD; rw [if_pos hE]
    rw [hE, hL, hD]
    clear hE hL hD
    have hra := recs_at h hk written
    have hdl : (recs.drop written).length = recs.length - written := List.length_drop
    simp only at hA hw hwr hs hn hfit
    have CF := Lib.hid (fun (w : World) (hra : RecsAt w (recQ ql cl written) (recs.drop written)) => hdl ▸ wal_framed (c := cl - written) (recs.drop written) hra hs (by omega))
    have hsl := fun w => slice_recs ql recs.length cl written hwr w
    have hneed : (frameW (recs.drop written)).size ≤ 1000 * 234 := by unfold needW at hfit; omega
    have HL := Lib.hid (fun (u : Later w) => wal_lay (h.next u.up) i hi j hj hij hc hok hA which pages hw (by omega) (frameW (recs.drop written)) (by omega) (by omega))
    generalize frameW (recs.drop written) = FW at *
    have HR3 := Lib.hid (fun (w : World) (l' : List Res) (h : Hold W w l') (hi' : l'[i]? = some (rowR gl (.pointer (some ⟨g, 0, none⟩)) [.int .i64 (which : Int), .int .i64 age, .int .i64 (pages : Int), .slice ql recs.length cl, .int .i64 (written : Int), .int .i64 (sure : Int), .string ByteArray.empty])) (hk' : l'[k]? = some (recsR ql cl recs)) => show RowRecs gl _ _ _ _ _ _ w from ⟨⟨_, h.get i hi'⟩, recs_at h hk' written⟩)
    have HR4 := Lib.hid (fun (w : World) (l' : List Res) (h : Hold W w l') (hk' : l'[k]? = some (recsR ql cl recs)) => recs_at h hk' written)
    have HK := Lib.hid hk
    have HJK := Lib.hid hjk
    have HIK := Lib.hid hik
    have HIL := Lib.hid (List.getElem?_eq_some_iff.1 hi).1
    have HRow := Lib.hid hrow
    have HP := Lib.hid (show RowRecs gl _ _ _ _ _ _ w from ⟨⟨_, hrow⟩, hra⟩)
    have HI := Lib.hid (show l[i]? = some (rowR gl (.pointer (some ⟨g, 0, none⟩)) [.int .i64 (which : Int), .int .i64 age, .int .i64 (pages : Int), .slice ql recs.length cl, .int .i64 (written : Int), .int .i64 (sure : Int), .string ByteArray.empty]) from hi)
    have HJ := Lib.hid hj
    obtain ⟨N, hN⟩ : ∃ N, needW FW.size = N := ⟨_, rfl⟩
    rw [hN] at HL hfit ⊢
    clear hjk hik hdl hra hs hk hrow h hi hj hN hneed ht
    generalize hnn : recs.length = n at a4 hwr hn hsl CF HI HRow HP HR3 ⊢
    have HN := Lib.hid hnn
    clear hnn
    go_enter Try.func16, Try.ntmps16
    go_upto_region 3 with fail
    refine wp_region_two Up (Keeps (RowRecs gl (.pointer (some ⟨g, 0, none⟩)) (.int .i64 (which : Int)) (.int .i64 age) [.slice ql n cl, .int .i64 (written : Int), .int .i64 (sure : Int), .string ByteArray.empty] (recQ ql cl written) (recs.drop written))) (keeps_ok rowRecs_up) (by kernel_rfl) (by kernel_rfl) (by kernel_rfl) ?_
    have hup : Up w w.drew := (Up.refl w).drew
    have hp1 := rowRecs_up hup HP.out
    replace hrow : RowAt w gl _ := HRow.out
    replace hrow := hrow.up hup
    clear a0 a1 a2 a3 a4 a5 a6 a7 e0 e1 e2 e3 e4 e5 e6 e7
    generalize w.drew = w1 at *
    refine wpAnyTS_quiet 0 3 25 43 (by rfl) (by kernel_rfl) (fun _ _ _ _ _ h => h) (by kernel_rfl) (by kernel_rfl) ?_
    apply Exists.intro
    refine ⟨fun w2' hw2 => ?_, ?_⟩
    · have hne := laterR_ne (R := Up) rok_upQ w2'
      obtain ⟨⟨v3, hr2⟩, hq2⟩ := hw2 hp1
      obtain ⟨b0, b1, b2, -, b4, b5, b6, b7, -⟩ := RowAt.c8 hr2
      have l1 := laterU b1
      have l4 := laterU b4
      have l5 := laterU b5
      have CF2 := Lib.hid (fun (u : LaterR Up w2') => CF.out u.world (hq2.up u.up))
      clear b0 b1 b2 b4 b5 b6 b7 hr2 hq2
      simp only [List.drop_zero, List.take_succ_cons, List.take_zero]
      repeat (go_big_quiet_step (first | (go_at_call 45; with_reducible exact Calls.laterUp (CF2.out _))))
      exact wpQuiet_nil rfl
    refine wpAnyTS_quiet 4 18 7 43 (by rfl) (by kernel_rfl) (fun _ _ _ _ _ h => h) (by kernel_rfl) (by kernel_rfl) ?_
    apply Exists.intro
    refine ⟨fun w2' hw2 => ?_, ?_⟩
    · have hne := laterR_ne (R := Up) rok_upQ w2'
      obtain ⟨⟨v3, hr2⟩, hq2⟩ := hw2 hp1
      obtain ⟨b0, b1, b2, -, b4, b5, b6, b7, -⟩ := RowAt.c8 hr2
      have l1 := laterU b1
      have l4 := laterU b4
      have l5 := laterU b5
      have CF2 := Lib.hid (fun (u : LaterR Up w2') => CF.out u.world (hq2.up u.up))
      clear b0 b1 b2 b4 b5 b6 b7 hr2 hq2
      simp only [List.drop_succ_cons, List.drop_zero, List.take_succ_cons, List.take_zero]
      repeat (go_big_quiet_step (first | (go_at_call 45; with_reducible exact Calls.laterUp (CF2.out _))))
      exact wpQuiet_nil rfl
    refine wpAnyTS_some 3 [22] 6 (by rfl) (by kernel_rfl) (by kernel_rfl) ?_
    intro w2 hu2
    replace hrow := hrow.up hu2
    replace hup := Up.trans hup hu2
    clear hu2
    refine ⟨?_, ?_, trivial⟩
    · simp only [List.drop_succ_cons, List.drop_zero, List.take_succ_cons, List.take_zero]
      obtain ⟨a0, a1, a2, a3, a4, a5, a6, a7, e0, e1, e2, e3, e4, e5, e6, e7⟩ := RowAt.c8 hrow
      go_wp2_with fail
      refine ⟨.inr fun h => h, ?_⟩
      clear a0 a1 a2 a3 a4 a5 a6 a7 e0 e1 e2 e3 e4 e5 e6 e7
      refine wpAnyTS_some 22 [] 5 (by rfl) (by kernel_rfl) (by kernel_rfl) ?_
      intro w2 hu2
      replace hrow := hrow.up hu2
      replace hup := Up.trans hup hu2
      clear hu2
      refine ⟨?_, trivial⟩
      simp only [List.drop_succ_cons, List.drop_zero, List.take_succ_cons, List.take_zero]
      obtain ⟨a0, a1, a2, a3, a4, a5, a6, a7, e0, e1, e2, e3, e4, e5, e6, e7⟩ := RowAt.c8 hrow
      go_wp2_with fail
      refine ⟨.inr fun h => h, ?_⟩
      clear a0 a1 a2 a3 a4 a5 a6 a7 e0 e1 e2 e3 e4 e5 e6 e7
      refine wpAnyTS_some 23 [] 4 (by rfl) (by kernel_rfl) (by kernel_rfl) ?_
      intro w2 hu2
      replace hrow := hrow.up hu2
      replace hup := Up.trans hup hu2
      clear hu2
      refine ⟨?_, trivial⟩
      simp only [List.drop_succ_cons, List.drop_zero, List.take_succ_cons, List.take_zero]
      have HL2 := HL.out ⟨w2, hup⟩
      go_wp2_with ((with_reducible refine HL2.mono ?_); rintro e w3 ⟨rfl, q3, hE⟩)
      have hi3 : (l.set j (diskR g a q3 (c + N) (layD d age which pages FW)))[i]? = some (rowR gl (.pointer (some ⟨g, 0, none⟩)) [.int .i64 (which : Int), .int .i64 age, .int .i64 (pages : Int), .slice ql n cl, .int .i64 (written : Int), .int .i64 (sure : Int), .string ByteArray.empty]) := by rw [List.getElem?_set_ne (Ne.symm hij)]; exact HI.out
      have hp3 := HR3.out w3 _ hE hi3 (by rw [List.getElem?_set_ne HJK.out]; exact HK.out)
      refine ⟨.inr fun _ => hp3, ?_⟩
      clear HL2 hp1 hup
      have hp1 := hp3
      replace hrow := hE.get i hi3
      clear hp3
      refine wpAnyTS_quiet 24 3 1 43 (by rfl) (by kernel_rfl) (fun _ _ _ _ _ h => h) (by kernel_rfl) (by kernel_rfl) ?_
      apply Exists.intro
      refine ⟨fun w2' hw2 => ?_, ?_⟩
      · have hne := laterR_ne (R := Up) rok_upQ w2'
        obtain ⟨⟨v3, hr2⟩, hq2⟩ := hw2 hp1
        obtain ⟨b0, b1, b2, -, b4, b5, b6, b7, -⟩ := RowAt.c8 hr2
        have l1 := laterU b1
        have l4 := laterU b4
        have l5 := laterU b5
        have CF2 := Lib.hid (fun (u : LaterR Up w2') => CF.out u.world (hq2.up u.up))
        clear b0 b1 b2 b4 b5 b6 b7 hr2 hq2
        simp only [List.drop_succ_cons, List.drop_zero, List.take_succ_cons, List.take_zero]
        repeat (go_big_quiet_step (first | (go_at_call 45; with_reducible exact Calls.laterUp (CF2.out _))))
        exact wpQuiet_nil rfl
      refine wpAnyTS_some 27 [] 0 (by rfl) (by kernel_rfl) (by kernel_rfl) ?_
      intro w2 hu2
      refine ⟨?_, trivial⟩
      simp only [List.drop_succ_cons, List.drop_zero, List.take_succ_cons, List.take_zero]
      replace hE := hE.next hu2
      obtain ⟨a0, a1, a2, a3, a4, a5, a6, a7, e0, e1, e2, e3, e4, e5, e6, e7⟩ := RowAt.c8 (hE.get i hi3)
      go_wp2_with fail
      replace hE := hE.putRow i hi3 3 (.int .i64 ((pages : Int) + (N : Int))) (.pointer (some ⟨g, 0, none⟩)) [.int .i64 (which : Int), .int .i64 age, .int .i64 ((pages : Int) + (N : Int)), .slice ql n cl, .int .i64 (written : Int), .int .i64 (sure : Int), .string ByteArray.empty] (by simp) rfl
      rw [set_set_ne _ _ _ (Ne.symm hij)] at hE
      have hil : i < l.length := HIL.out
      have hi4 : ((l.set i (rowR gl (.pointer (some ⟨g, 0, none⟩)) [.int .i64 (which : Int), .int .i64 age, .int .i64 ((pages : Int) + (N : Int)), .slice ql n cl, .int .i64 (written : Int), .int .i64 (sure : Int), .string ByteArray.empty])).set j (diskR g a q3 (c + N) (layD d age which pages FW)))[i]? = some (rowR gl (.pointer (some ⟨g, 0, none⟩)) [.int .i64 (which : Int), .int .i64 age, .int .i64 ((pages : Int) + (N : Int)), .slice ql n cl, .int .i64 (written : Int), .int .i64 (sure : Int), .string ByteArray.empty]) := by rw [List.getElem?_set_ne (Ne.symm hij), List.getElem?_set_self hil]
      refine ⟨.inr fun h => ⟨⟨_, hE.get i hi4⟩, ?_⟩, ?_⟩
      · exact (HR4.out _ _ hE (by rw [List.getElem?_set_ne HJK.out, List.getElem?_set_ne HIK.out]; exact HK.out))
      clear a0 a1 a2 a3 a4 a5 a6 a7 e0 e1 e2 e3 e4 e5 e6 e7 hp1
      generalize World.setCell _ _ _ = w5 at *
      refine wpAnyTS_done (by kernel_rfl) ?_
      intro w6 hu6
      replace hE := hE.next hu6
      obtain ⟨a0, a1, a2, a3, a4, a5, a6, a7, e0, e1, e2, e3, e4, e5, e6, e7⟩ := RowAt.c8 (hE.get i hi4)
      go_upto_region 5 with fail
      replace hE := hE.putRow i hi4 5 (.int .i64 (n : Int)) (.pointer (some ⟨g, 0, none⟩)) [.int .i64 (which : Int), .int .i64 age, .int .i64 ((pages : Int) + (N : Int)), .slice ql n cl, .int .i64 (n : Int), .int .i64 (sure : Int), .string ByteArray.empty] (by simp) rfl
      rw [set_set_ne _ _ _ (Ne.symm hij), List.set_set] at hE
      clear a0 a1 a2 a3 a4 a5 a6 a7 e0 e1 e2 e3 e4 e5 e6 e7 hi4 hi3
      generalize World.setCell _ _ _ = w7 at *
      go_wp2_with fail
      go_ret
      refine ⟨rfl, q3, c + N, by omega, ?_⟩
      have hz : ((pages + N : Nat) : Int) = (pages : Int) + (N : Int) := by omega
      show Hold W _ ((l.set i (rowR gl _ [.int .i64 (which : Int), .int .i64 age, .int .i64 ((pages + N : Nat) : Int), .slice ql recs.length cl, .int .i64 (n : Int), .int .i64 (sure : Int), .string ByteArray.empty])).set j _)
      rw [hz, HN.out]
      exact hE
    · simp only [List.drop_succ_cons, List.drop_zero, List.take_succ_cons, List.take_zero]
      obtain ⟨a0, a1, a2, a3, a4, a5, a6, a7, e0, e1, e2, e3, e4, e5, e6, e7⟩ := RowAt.c8 hrow
      go_wp2_with fail
      refine ⟨.inr fun h => h, ?_⟩
      clear a0 a1 a2 a3 a4 a5 a6 a7 e0 e1 e2 e3 e4 e5 e6 e7
      refine wpAnyTS_some 3 [23] 5 (by rfl) (by kernel_rfl) (by kernel_rfl) ?_
      intro w2 hu2
      replace hrow := hrow.up hu2
      replace hup := Up.trans hup hu2
      clear hu2
      refine ⟨?_, ?_, trivial⟩
      · simp only [List.drop_succ_cons, List.drop_zero, List.take_succ_cons, List.take_zero]
        obtain ⟨a0, a1, a2, a3, a4, a5, a6, a7, e0, e1, e2, e3, e4, e5, e6, e7⟩ := RowAt.c8 hrow
        go_wp2_with fail
        refine ⟨.inr fun h => h, ?_⟩
        clear a0 a1 a2 a3 a4 a5 a6 a7 e0 e1 e2 e3 e4 e5 e6 e7
        refine wpAnyTS_some 23 [] 4 (by rfl) (by kernel_rfl) (by kernel_rfl) ?_
        intro w2 hu2
        replace hrow := hrow.up hu2
        replace hup := Up.trans hup hu2
        clear hu2
        refine ⟨?_, trivial⟩
        simp only [List.drop_succ_cons, List.drop_zero, List.take_succ_cons, List.take_zero]
        have HL2 := HL.out ⟨w2, hup⟩
        go_wp2_with ((with_reducible refine HL2.mono ?_); rintro e w3 ⟨rfl, q3, hE⟩)
        have hi3 : (l.set j (diskR g a q3 (c + N) (layD d age which pages FW)))[i]? = some (rowR gl (.pointer (some ⟨g, 0, none⟩)) [.int .i64 (which : Int), .int .i64 age, .int .i64 (pages : Int), .slice ql n cl, .int .i64 (written : Int), .int .i64 (sure : Int), .string ByteArray.empty]) := by rw [List.getElem?_set_ne (Ne.symm hij)]; exact HI.out
        have hp3 := HR3.out w3 _ hE hi3 (by rw [List.getElem?_set_ne HJK.out]; exact HK.out)
        refine ⟨.inr fun _ => hp3, ?_⟩
        clear HL2 hp1 hup
        have hp1 := hp3
        replace hrow := hE.get i hi3
        clear hp3
        refine wpAnyTS_quiet 24 3 1 43 (by rfl) (by kernel_rfl) (fun _ _ _ _ _ h => h) (by kernel_rfl) (by kernel_rfl) ?_
        apply Exists.intro
        refine ⟨fun w2' hw2 => ?_, ?_⟩
        · have hne := laterR_ne (R := Up) rok_upQ w2'
          obtain ⟨⟨v3, hr2⟩, hq2⟩ := hw2 hp1
          obtain ⟨b0, b1, b2, -, b4, b5, b6, b7, -⟩ := RowAt.c8 hr2
          have l1 := laterU b1
          have l4 := laterU b4
          have l5 := laterU b5
          have CF2 := Lib.hid (fun (u : LaterR Up w2') => CF.out u.world (hq2.up u.up))
          clear b0 b1 b2 b4 b5 b6 b7 hr2 hq2
          simp only [List.drop_succ_cons, List.drop_zero, List.take_succ_cons, List.take_zero]
          repeat (go_big_quiet_step (first | (go_at_call 45; with_reducible exact Calls.laterUp (CF2.out _))))
          exact wpQuiet_nil rfl
        refine wpAnyTS_some 27 [] 0 (by rfl) (by kernel_rfl) (by kernel_rfl) ?_
        intro w2 hu2
        refine ⟨?_, trivial⟩
        simp only [List.drop_succ_cons, List.drop_zero, List.take_succ_cons, List.take_zero]
        replace hE := hE.next hu2
        obtain ⟨a0, a1, a2, a3, a4, a5, a6, a7, e0, e1, e2, e3, e4, e5, e6, e7⟩ := RowAt.c8 (hE.get i hi3)
        go_wp2_with fail
        replace hE := hE.putRow i hi3 3 (.int .i64 ((pages : Int) + (N : Int))) (.pointer (some ⟨g, 0, none⟩)) [.int .i64 (which : Int), .int .i64 age, .int .i64 ((pages : Int) + (N : Int)), .slice ql n cl, .int .i64 (written : Int), .int .i64 (sure : Int), .string ByteArray.empty] (by simp) rfl
        rw [set_set_ne _ _ _ (Ne.symm hij)] at hE
        have hil : i < l.length := HIL.out
        have hi4 : ((l.set i (rowR gl (.pointer (some ⟨g, 0, none⟩)) [.int .i64 (which : Int), .int .i64 age, .int .i64 ((pages : Int) + (N : Int)), .slice ql n cl, .int .i64 (written : Int), .int .i64 (sure : Int), .string ByteArray.empty])).set j (diskR g a q3 (c + N) (layD d age which pages FW)))[i]? = some (rowR gl (.pointer (some ⟨g, 0, none⟩)) [.int .i64 (which : Int), .int .i64 age, .int .i64 ((pages : Int) + (N : Int)), .slice ql n cl, .int .i64 (written : Int), .int .i64 (sure : Int), .string ByteArray.empty]) := by rw [List.getElem?_set_ne (Ne.symm hij), List.getElem?_set_self hil]
        refine ⟨.inr fun h => ⟨⟨_, hE.get i hi4⟩, ?_⟩, ?_⟩
        · exact (HR4.out _ _ hE (by rw [List.getElem?_set_ne HJK.out, List.getElem?_set_ne HIK.out]; exact HK.out))
        clear a0 a1 a2 a3 a4 a5 a6 a7 e0 e1 e2 e3 e4 e5 e6 e7 hp1
        generalize World.setCell _ _ _ = w5 at *
        refine wpAnyTS_done (by kernel_rfl) ?_
        intro w6 hu6
        replace hE := hE.next hu6
        obtain ⟨a0, a1, a2, a3, a4, a5, a6, a7, e0, e1, e2, e3, e4, e5, e6, e7⟩ := RowAt.c8 (hE.get i hi4)
        go_upto_region 5 with fail
        replace hE := hE.putRow i hi4 5 (.int .i64 (n : Int)) (.pointer (some ⟨g, 0, none⟩)) [.int .i64 (which : Int), .int .i64 age, .int .i64 ((pages : Int) + (N : Int)), .slice ql n cl, .int .i64 (n : Int), .int .i64 (sure : Int), .string ByteArray.empty] (by simp) rfl
        rw [set_set_ne _ _ _ (Ne.symm hij), List.set_set] at hE
        clear a0 a1 a2 a3 a4 a5 a6 a7 e0 e1 e2 e3 e4 e5 e6 e7 hi4 hi3
        generalize World.setCell _ _ _ = w7 at *
        go_wp2_with fail
        go_ret
        refine ⟨rfl, q3, c + N, by omega, ?_⟩
        have hz : ((pages + N : Nat) : Int) = (pages : Int) + (N : Int) := by omega
        show Hold W _ ((l.set i (rowR gl _ [.int .i64 (which : Int), .int .i64 age, .int .i64 ((pages + N : Nat) : Int), .slice ql recs.length cl, .int .i64 (n : Int), .int .i64 (sure : Int), .string ByteArray.empty])).set j _)
        rw [hz, HN.out]
        exact hE
      · simp only [List.drop_succ_cons, List.drop_zero, List.take_succ_cons, List.take_zero]
        have HL2 := HL.out ⟨w2, hup⟩
        go_wp2_with ((with_reducible refine HL2.mono ?_); rintro e w3 ⟨rfl, q3, hE⟩)
        have hi3 : (l.set j (diskR g a q3 (c + N) (layD d age which pages FW)))[i]? = some (rowR gl (.pointer (some ⟨g, 0, none⟩)) [.int .i64 (which : Int), .int .i64 age, .int .i64 (pages : Int), .slice ql n cl, .int .i64 (written : Int), .int .i64 (sure : Int), .string ByteArray.empty]) := by rw [List.getElem?_set_ne (Ne.symm hij)]; exact HI.out
        have hp3 := HR3.out w3 _ hE hi3 (by rw [List.getElem?_set_ne HJK.out]; exact HK.out)
        refine ⟨.inr fun _ => hp3, ?_⟩
        clear HL2 hp1 hup
        have hp1 := hp3
        replace hrow := hE.get i hi3
        clear hp3
        refine wpAnyTS_some 3 [] 4 (by rfl) (by kernel_rfl) (by kernel_rfl) ?_
        intro w2 hu2
        replace hrow := hrow.up hu2
        replace hE := hE.next hu2
        replace hp1 := rowRecs_up hu2 hp1
        clear hu2
        refine ⟨?_, trivial⟩
        simp only [List.drop_succ_cons, List.drop_zero, List.take_succ_cons, List.take_zero]
        obtain ⟨a0, a1, a2, a3, a4, a5, a6, a7, e0, e1, e2, e3, e4, e5, e6, e7⟩ := RowAt.c8 hrow
        go_wp2_with fail
        refine ⟨.inr fun h => h, ?_⟩
        clear a0 a1 a2 a3 a4 a5 a6 a7 e0 e1 e2 e3 e4 e5 e6 e7
        refine wpAnyTS_quiet 24 3 1 43 (by rfl) (by kernel_rfl) (fun _ _ _ _ _ h => h) (by kernel_rfl) (by kernel_rfl) ?_
        apply Exists.intro
        refine ⟨fun w2' hw2 => ?_, ?_⟩
        · have hne := laterR_ne (R := Up) rok_upQ w2'
          obtain ⟨⟨v3, hr2⟩, hq2⟩ := hw2 hp1
          obtain ⟨b0, b1, b2, -, b4, b5, b6, b7, -⟩ := RowAt.c8 hr2
          have l1 := laterU b1
          have l4 := laterU b4
          have l5 := laterU b5
          have CF2 := Lib.hid (fun (u : LaterR Up w2') => CF.out u.world (hq2.up u.up))
          clear b0 b1 b2 b4 b5 b6 b7 hr2 hq2
          simp only [List.drop_succ_cons, List.drop_zero, List.take_succ_cons, List.take_zero]
          repeat (go_big_quiet_step (first | (go_at_call 45; with_reducible exact Calls.laterUp (CF2.out _))))
          exact wpQuiet_nil rfl
        refine wpAnyTS_some 27 [] 0 (by rfl) (by kernel_rfl) (by kernel_rfl) ?_
        intro w2 hu2
        refine ⟨?_, trivial⟩
        simp only [List.drop_succ_cons, List.drop_zero, List.take_succ_cons, List.take_zero]
        replace hE := hE.next hu2
        obtain ⟨a0, a1, a2, a3, a4, a5, a6, a7, e0, e1, e2, e3, e4, e5, e6, e7⟩ := RowAt.c8 (hE.get i hi3)
        go_wp2_with fail
        replace hE := hE.putRow i hi3 3 (.int .i64 ((pages : Int) + (N : Int))) (.pointer (some ⟨g, 0, none⟩)) [.int .i64 (which : Int), .int .i64 age, .int .i64 ((pages : Int) + (N : Int)), .slice ql n cl, .int .i64 (written : Int), .int .i64 (sure : Int), .string ByteArray.empty] (by simp) rfl
        rw [set_set_ne _ _ _ (Ne.symm hij)] at hE
        have hil : i < l.length := HIL.out
        have hi4 : ((l.set i (rowR gl (.pointer (some ⟨g, 0, none⟩)) [.int .i64 (which : Int), .int .i64 age, .int .i64 ((pages : Int) + (N : Int)), .slice ql n cl, .int .i64 (written : Int), .int .i64 (sure : Int), .string ByteArray.empty])).set j (diskR g a q3 (c + N) (layD d age which pages FW)))[i]? = some (rowR gl (.pointer (some ⟨g, 0, none⟩)) [.int .i64 (which : Int), .int .i64 age, .int .i64 ((pages : Int) + (N : Int)), .slice ql n cl, .int .i64 (written : Int), .int .i64 (sure : Int), .string ByteArray.empty]) := by rw [List.getElem?_set_ne (Ne.symm hij), List.getElem?_set_self hil]
        refine ⟨.inr fun h => ⟨⟨_, hE.get i hi4⟩, ?_⟩, ?_⟩
        · exact (HR4.out _ _ hE (by rw [List.getElem?_set_ne HJK.out, List.getElem?_set_ne HIK.out]; exact HK.out))
        clear a0 a1 a2 a3 a4 a5 a6 a7 e0 e1 e2 e3 e4 e5 e6 e7 hp1
        generalize World.setCell _ _ _ = w5 at *
        refine wpAnyTS_done (by kernel_rfl) ?_
        intro w6 hu6
        replace hE := hE.next hu6
        obtain ⟨a0, a1, a2, a3, a4, a5, a6, a7, e0, e1, e2, e3, e4, e5, e6, e7⟩ := RowAt.c8 (hE.get i hi4)
        go_upto_region 5 with fail
        replace hE := hE.putRow i hi4 5 (.int .i64 (n : Int)) (.pointer (some ⟨g, 0, none⟩)) [.int .i64 (which : Int), .int .i64 age, .int .i64 ((pages : Int) + (N : Int)), .slice ql n cl, .int .i64 (n : Int), .int .i64 (sure : Int), .string ByteArray.empty] (by simp) rfl
        rw [set_set_ne _ _ _ (Ne.symm hij), List.set_set] at hE
        clear a0 a1 a2 a3 a4 a5 a6 a7 e0 e1 e2 e3 e4 e5 e6 e7 hi4 hi3
        generalize World.setCell _ _ _ = w7 at *
        go_wp2_with fail
        go_ret
        refine ⟨rfl, q3, c + N, by omega, ?_⟩
        have hz : ((pages + N : Nat) : Int) = (pages : Int) + (N : Int) := by omega
        show Hold W _ ((l.set i (rowR gl _ [.int .i64 (which : Int), .int .i64 age, .int .i64 ((pages + N : Nat) : Int), .slice ql recs.length cl, .int .i64 (n : Int), .int .i64 (sure : Int), .string ByteArray.empty])).set j _)
        rw [hz, HN.out]
        exact hE
  · have hte : turned.toList.isEmpty = false := str_nonempty ht
    have hte2 : ¬ turned.toList = [] := by intro h; rw [h] at hte; cases hte
    have hE : LogD.writeE ⟨which, age, pages, recs, written, sure, turned⟩ = 9 := by unfold LogD.writeE; rw [if_pos ht]
    have hL : LogD.write ⟨which, age, pages, recs, written, sure, turned⟩ = ⟨which, age, pages, recs, written, sure, turned⟩ := by unfold LogD.write; rw [if_neg (by rw [hE]; decide)]
    have hD : LogD.writeD ⟨which, age, pages, recs, written, sure, turned⟩ d = d := by unfold LogD.writeD; rw [if_neg (by rw [hE]; decide)]
    have hres : (l.set i (logRow gl (.pointer (some ⟨g, 0, none⟩)) ⟨which, age, pages, recs, written, sure, turned⟩ ql cl)).set j (diskR g a q c d) = l := by
      rw [set_same hi, set_same hj]
    have hH : Hold W w ((l.set i (logRow gl (.pointer (some ⟨g, 0, none⟩)) ⟨which, age, pages, recs, written, sure, turned⟩ ql cl)).set j (diskR g a q c d)) := by rw [hres]; exact h
    have HF := Lib.hid hH
    rw [hE, hL, hD]
    clear h hi hj hk hrow hres hH hL hD hE hs
    go_enter Try.func16, Try.ntmps16
    go_wp2_with fail
    go_ret
    exact ⟨rfl, q, c, by omega, HF.out⟩
end Go.Proofs.Ytokpkkjgagbpfaa
namespace Bw
open Go Go.RowKit
set_option linter.unusedVariables false
theorem recs_all {W w : World} {l : List Res} {k : Nat} {e : TypeId} {q : Option Addr} {c : Nat} {rs : List ByteArray} (h : Hold W w l) (hk : l[k]? = some (ownZ e 1 (.slice q rs.length c) rs.length (strC rs))) : RecsAt w q rs := by
  have h' : w.ownsRow 0 e 1 (.slice q rs.length c) rs.length (strC rs) := h.get k hk
  intro hne
  have hlt : 0 < rs.length := List.length_pos_iff.2 hne
  rcases h'.2 with ⟨h0, h1⟩ | ⟨g, cap, cur, he, hb, hg, hnc, -⟩
  · injection h0 with _ h0 _; omega
  · injection he with h1 _ h3
    subst h1 h3
    refine ⟨g, 0, rfl, fun i hi => ?_⟩
    rw [Nat.zero_add, World.ownsRow.cellAt h' i (by omega), strC_get rs i hi]
/-- A slice of one text that is built takes another one's place. -/
theorem Hold.builtAt {W w : World} {l : List Res} {R : Res} (h : Hold W w l) (k : Nat) (hk : l[k]? = some R) (e : TypeId) (s : ByteArray) :
    Hold W (w.alloc (.cells #[.string s] e)) (l.set k (ownZ e 1 (.slice (some ⟨w.heap.size, 0, none⟩) 1 1) 1 (strC [s]))) := by
  refine h.step k hk (ownZ e 1 _ 1 _) ⟨rfl, .inr ⟨w.heap.size, 1, _, rfl, Nat.zero_le _, heap_alloc_new w _, Nat.le_refl _, by unfold maxLen; omega, rfl, rfl⟩⟩ (fun k hk => ?_) ((AllS.refl _ w).alloc _)
  have hk' : (Value.slice (some ⟨w.heap.size, 0, none⟩) 1 1).ownBlock = some k := hk
  have : w.heap.size = k := by simpa [Value.ownBlock] using hk'
  exact .inr (by omega)
/-- A log's row: what is known of the disk and the turned record. -/
def RowEnds (gl : Nat) (v v7 : Value) (w : World) : Prop := ∃ v1 v2 v3 v4 v5 v6, RowAt w gl [v, v1, v2, v3, v4, v5, v6, v7]
theorem rowEnds_up {gl : Nat} {v v7 : Value} {a b : World} (h : Up a b) (hp : RowEnds gl v v7 a) : RowEnds gl v v7 b := by
  obtain ⟨v1, v2, v3, v4, v5, v6, h1⟩ := hp
  exact ⟨v1, v2, v3, v4, v5, v6, h1.up h⟩
end Bw
namespace Go.Proofs.Ytokpkkjgagbpfaa
open Go.RowKit Bw
set_option linter.unusedVariables false
set_option maxRecDepth 100000
variable {W w : World} {l : List Res} {g a c gl cl : Nat} {q : Option Nat} {ql : Option Addr} {d : DiskD} {L : LogD}
set_option maxHeartbeats 2000000 in
theorem wal_Sync (h : Hold W w l) (i : Nat) (hi : l[i]? = some (logRow gl (.pointer (some ⟨g, 0, none⟩)) L ql cl)) (j : Nat) (hj : l[j]? = some (diskR g a q c d)) (k : Nat) (hk : l[k]? = some (recsR ql cl L.recs)) (hij : i ≠ j) (hjk : j ≠ k) (hik : i ≠ k) (hc : c ≤ 1099511627776)
    (hw : L.which ≤ 1) (ht : L.turned.size ≤ 100000) :
    Calls Try.prog 18 #[.pointer (some ⟨gl, 0, none⟩)] w fun e w' => e = .returned (.tuple #[]) ∧ ∃ ql' cl', Hold W w' (((l.set i (logRow gl (.pointer (some ⟨g, 0, none⟩)) L.sync ql' cl')).set j (diskR g a none c d.syncD)).set k (recsR ql' cl' L.sync.recs)) := by
  have hrow := h.get i hi
  have hil : i < l.length := (List.getElem?_eq_some_iff.1 hi).1
  have hkl : k < l.length := (List.getElem?_eq_some_iff.1 hk).1
  obtain ⟨which, age, pages, recs, written, sure, turned⟩ := L
  obtain ⟨a0, a1, a2, a3, a4, a5, a6, a7, e0, e1, e2, e3, e4, e5, e6, e7⟩ := RowAt.c8 hrow
  have CS := Lib.hid (hSync h j hj hc)
  have hi2 : (l.set j (diskR g a none c d.syncD))[i]? = some (rowR gl (.pointer (some ⟨g, 0, none⟩)) [.int .i64 (which : Int), .int .i64 age, .int .i64 (pages : Int), .slice ql recs.length cl, .int .i64 (written : Int), .int .i64 (sure : Int), .string turned]) := by rw [List.getElem?_set_ne (Ne.symm hij)]; exact hi
  have hk2 : (l.set j (diskR g a none c d.syncD))[k]? = some (recsR ql cl recs) := by rw [List.getElem?_set_ne hjk]; exact hk
  have hset : ∀ R S : Res, ((l.set j (diskR g a none c d.syncD)).set i R).set k S = ((l.set i R).set j (diskR g a none c d.syncD)).set k S := fun R S => by rw [set_set_ne l _ _ (Ne.symm hij)]
  simp only at hw ht
  by_cases htz : turned.size = 0
  · have hb := ba_empty htz
    subst hb
    have hL : LogD.sync ⟨which, age, pages, recs, written, sure, ByteArray.empty⟩ = ⟨which, age, pages, recs, written, written, ByteArray.empty⟩ := by unfold LogD.sync; rw [if_neg (by simp)]
    rw [hL]
    have HI := Lib.hid hi2
    have HK := Lib.hid hk2
    have HS := Lib.hid hset
    clear hi hj hk hrow hi2 hk2 hset hL h
    go_enter Try.func18, Try.ntmps18
    go_upto_region 1 with ((with_reducible refine CS.out.mono ?_); rintro e wn ⟨rfl, hE⟩)
    clear a0 a1 a2 a3 a4 a5 a6 a7 e0 e1 e2 e3 e4 e5 e6 e7
    obtain ⟨a0, a1, a2, a3, a4, a5, a6, a7, e0, e1, e2, e3, e4, e5, e6, e7⟩ := RowAt.c8 (hE.get i HI.out)
    have hF := hE.putRow i HI.out 6 (.int .i64 (written : Int)) (.pointer (some ⟨g, 0, none⟩)) [.int .i64 (which : Int), .int .i64 age, .int .i64 (pages : Int), .slice ql recs.length cl, .int .i64 (written : Int), .int .i64 (written : Int), .string ByteArray.empty] (by simp) rfl
    have hF2 := hF
    go_wp2_with fail
    go_end0
    refine ⟨rfl, ql, cl, ?_⟩
    rw [← HS.out]
    have e1 : ((l.set j (diskR g a none c d.syncD)).set i (logRow gl (.pointer (some ⟨g, 0, none⟩)) ⟨which, age, pages, recs, written, written, ByteArray.empty⟩ ql cl)).set k (recsR ql cl recs) = (l.set j (diskR g a none c d.syncD)).set i (logRow gl (.pointer (some ⟨g, 0, none⟩)) ⟨which, age, pages, recs, written, written, ByteArray.empty⟩ ql cl) := set_same (by rw [List.getElem?_set_ne hik]; exact HK.out)
    rw [e1]
    exact hF
  · have hte : turned.toList.isEmpty = false := str_nonempty htz
    have hte2 : ¬ turned.toList = [] := by intro h; rw [h] at hte; cases hte
    have hL : LogD.sync ⟨which, age, pages, recs, written, sure, turned⟩ = ⟨1 - which, age, needW (frameW [turned]).size, [turned], 1, 1, ByteArray.empty⟩ := by
      unfold LogD.sync; rw [if_pos htz]; unfold frameW; rw [size_str]
    rw [hL]
    have hw2 : ((1 - which : Nat) : Int) = 1 - (which : Int) := by omega
    generalize turned = T at *
    obtain ⟨N, hN⟩ : ∃ N, needW (frameW [T]).size = N := ⟨_, rfl⟩
    have HN := Lib.hid hN
    have hfz : (frameW [T]).size ≤ 100003 * 1 := frameW_size [T] (fun x hx => by obtain rfl := List.mem_singleton.1 hx; exact ht)
    have HFZ := Lib.hid (show (frameW [T]).size ≤ 1099511627776 by omega)
    rw [hN]
    have hlj : (l.set j (diskR g a none c d.syncD)).length = l.length := List.length_set
    rw [← hlj] at hil hkl
    have HS := Lib.hid hset
    generalize l.set j (diskR g a none c d.syncD) = lj at *
    have HIL := Lib.hid hil
    have HKL := Lib.hid hkl
    have HI := Lib.hid hi2
    have HK := Lib.hid hk2
    have HIK := Lib.hid hik
    clear hi hj hk hrow hi2 hk2 hset hL h htz hN hlj hil hkl hik hij hjk hfz
    go_enter Try.func18, Try.ntmps18
    go_upto_region 1 with ((with_reducible refine CS.out.mono ?_); rintro e wn ⟨rfl, hE⟩)
    clear a0 a1 a2 a3 a4 a5 a6 a7 e0 e1 e2 e3 e4 e5 e6 e7
    obtain ⟨a0, a1, a2, a3, a4, a5, a6, a7, e0, e1, e2, e3, e4, e5, e6, e7⟩ := RowAt.c8 (hE.get i HI.out)
    go_upto_region 2 with fail
    refine wp_region_two Up (Keeps (RowEnds gl (.pointer (some ⟨g, 0, none⟩)) (.string T))) (keeps_ok rowEnds_up) (by kernel_rfl) (by kernel_rfl) (by kernel_rfl) ?_
    replace hE := hE.next ((Up.refl wn).drew)
    have hp1 : RowEnds gl (.pointer (some ⟨g, 0, none⟩)) (.string T) wn.drew := ⟨_, _, _, _, _, _, hE.get i HI.out⟩
    clear a0 a1 a2 a3 a4 a5 a6 a7 e0 e1 e2 e3 e4 e5 e6 e7
    generalize wn.drew = w1 at *
    refine wpAnyTS_quiet 0 6 16 51 (by rfl) (by kernel_rfl) (fun _ _ _ _ _ h => h) (by kernel_rfl) (by kernel_rfl) ?_
    apply Exists.intro
    refine ⟨fun w2' hw2 => ?_, ?_⟩
    · have hne := laterR_ne (R := Up) rok_upQ w2'
      obtain ⟨v1, v2, v3, v4, v5, v6, hr2⟩ := hw2 hp1
      obtain ⟨b0, b1, b2, b3, b4, b5, b6, b7, -⟩ := RowAt.c8 hr2
      have l7 := laterU b7
      clear b0 b1 b2 b3 b4 b5 b6 b7 hr2
      simp only [List.drop_zero, List.take_succ_cons, List.take_zero]
      repeat (go_big_quiet_step (fail))
      exact wpQuiet_nil rfl
    refine wpAnyTS_quiet 8 4 12 51 (by rfl) (by kernel_rfl) (fun _ _ _ _ _ h => h) (by kernel_rfl) (by kernel_rfl) ?_
    apply Exists.intro
    refine ⟨fun w2' hw2 => ?_, ?_⟩
    · have hne := laterR_ne (R := Up) rok_upQ w2'
      obtain ⟨v1, v2, v3, v4, v5, v6, hr2⟩ := hw2 hp1
      obtain ⟨b0, b1, b2, b3, b4, b5, b6, b7, -⟩ := RowAt.c8 hr2
      have l7 := laterU b7
      clear b0 b1 b2 b3 b4 b5 b6 b7 hr2
      simp only [List.drop_succ_cons, List.drop_zero, List.take_succ_cons, List.take_zero]
      repeat (go_big_quiet_step (fail))
      exact wpQuiet_nil rfl
    refine wpAnyTS_some 6 [12] 11 (by rfl) (by kernel_rfl) (by kernel_rfl) ?_
    intro w2 hu2
    replace hp1 := rowEnds_up hu2 hp1
    replace hE := hE.next hu2
    clear hu2
    refine ⟨?_, ?_, trivial⟩
    · simp only [List.drop_succ_cons, List.drop_zero, List.take_succ_cons, List.take_zero]
      obtain ⟨a0, a1, a2, a3, a4, a5, a6, a7, e0, e1, e2, e3, e4, e5, e6, e7⟩ := RowAt.c8 (hE.get i HI.out)
      go_wp2_with fail
      refine ⟨.inr fun h => h, ?_⟩
      clear a0 a1 a2 a3 a4 a5 a6 a7 e0 e1 e2 e3 e4 e5 e6 e7
      refine wpAnyTS_quiet 7 1 10 51 (by rfl) (by kernel_rfl) (fun _ _ _ _ _ h => h) (by kernel_rfl) (by kernel_rfl) ?_
      apply Exists.intro
      refine ⟨fun w2' hw2 => ?_, ?_⟩
      · have hne := laterR_ne (R := Up) rok_upQ w2'
        obtain ⟨v1, v2, v3, v4, v5, v6, hr2⟩ := hw2 hp1
        obtain ⟨b0, b1, b2, b3, b4, b5, b6, b7, -⟩ := RowAt.c8 hr2
        have l7 := laterU b7
        clear b0 b1 b2 b3 b4 b5 b6 b7 hr2
        simp only [List.drop_succ_cons, List.drop_zero, List.take_succ_cons, List.take_zero]
        repeat (go_big_quiet_step (fail))
        exact wpQuiet_nil rfl
      refine wpAnyTS_quiet 13 2 8 51 (by rfl) (by kernel_rfl) (fun _ _ _ _ _ h => h) (by kernel_rfl) (by kernel_rfl) ?_
      apply Exists.intro
      refine ⟨fun w2' hw2 => ?_, ?_⟩
      · have hne := laterR_ne (R := Up) rok_upQ w2'
        obtain ⟨v1, v2, v3, v4, v5, v6, hr2⟩ := hw2 hp1
        obtain ⟨b0, b1, b2, b3, b4, b5, b6, b7, -⟩ := RowAt.c8 hr2
        have l7 := laterU b7
        clear b0 b1 b2 b3 b4 b5 b6 b7 hr2
        simp only [List.drop_succ_cons, List.drop_zero, List.take_succ_cons, List.take_zero]
        repeat (go_big_quiet_step (fail))
        exact wpQuiet_nil rfl
      refine wpAnyTS_some 12 [15] 7 (by rfl) (by kernel_rfl) (by kernel_rfl) ?_
      intro w2 hu2
      replace hp1 := rowEnds_up hu2 hp1
      replace hE := hE.next hu2
      clear hu2
      refine ⟨?_, ?_, trivial⟩
      · simp only [List.drop_succ_cons, List.drop_zero, List.take_succ_cons, List.take_zero]
        obtain ⟨a0, a1, a2, a3, a4, a5, a6, a7, e0, e1, e2, e3, e4, e5, e6, e7⟩ := RowAt.c8 (hE.get i HI.out)
        go_wp2_with fail
        replace hE := hE.builtAt k HK.out 9 T
        refine ⟨.inr fun h => rowEnds_up ((Up.refl _).alloc _) h, ?_⟩
        clear a0 a1 a2 a3 a4 a5 a6 a7 e0 e1 e2 e3 e4 e5 e6 e7
        replace hp1 := rowEnds_up ((Up.refl w2).alloc (.cells #[.string T] 9)) hp1
        generalize w2.heap.size = gs at *
        generalize w2.alloc _ = wb at *
        refine wpAnyTS_some 15 [] 6 (by rfl) (by kernel_rfl) (by kernel_rfl) ?_
        intro w2 hu2
        replace hp1 := rowEnds_up hu2 hp1
        replace hE := hE.next hu2
        clear hu2
        refine ⟨?_, trivial⟩
        simp only [List.drop_succ_cons, List.drop_zero, List.take_succ_cons, List.take_zero]
        obtain ⟨a0, a1, a2, a3, a4, a5, a6, a7, e0, e1, e2, e3, e4, e5, e6, e7⟩ := RowAt.c8 (hE.get i (Eq.trans (List.getElem?_set_ne (Ne.symm HIK.out)) HI.out))
        go_wp2_with fail
        replace hE := hE.putRow i (Eq.trans (List.getElem?_set_ne (Ne.symm HIK.out)) HI.out) 1 (.int .i64 (1 - (which : Int))) (.pointer (some ⟨g, 0, none⟩)) [.int .i64 (1 - (which : Int)), .int .i64 age, .int .i64 (pages : Int), .slice ql recs.length cl, .int .i64 (written : Int), .int .i64 (sure : Int), .string T] (by simp) rfl
        have hp2 : RowEnds gl (.pointer (some ⟨g, 0, none⟩)) (.string T) _ := ⟨_, _, _, _, _, _, hE.get (R := rowR gl (.pointer (some ⟨g, 0, none⟩)) [.int .i64 (1 - (which : Int)), .int .i64 age, .int .i64 (pages : Int), .slice ql recs.length cl, .int .i64 (written : Int), .int .i64 (sure : Int), .string T]) i (by rw [List.getElem?_set_self (by first | exact HIL.out | (rw [List.length_set]; exact HIL.out))])⟩
        refine ⟨.inr fun _ => hp2, ?_⟩
        clear a0 a1 a2 a3 a4 a5 a6 a7 e0 e1 e2 e3 e4 e5 e6 e7 hp1
        have hp1 := hp2
        clear hp2
        try rw [List.set_set] at hE
        generalize World.setCell _ _ _ = wb at *
        rw [set_set_ne _ _ _ (Ne.symm HIK.out)] at hE
        replace hE : Hold W wb ((lj.set i (rowR gl (.pointer (some ⟨g, 0, none⟩)) [.int .i64 (1 - (which : Int)), .int .i64 age, .int .i64 (pages : Int), .slice ql recs.length cl, .int .i64 (written : Int), .int .i64 (sure : Int), .string T])).set k (recsR (some ⟨gs, 0, none⟩) 1 [T])) := hE
        refine wpAnyTS_quiet 16 2 4 51 (by rfl) (by kernel_rfl) (fun _ _ _ _ _ h => h) (by kernel_rfl) (by kernel_rfl) ?_
        apply Exists.intro
        refine ⟨fun w2' hw2 => ?_, ?_⟩
        · have hne := laterR_ne (R := Up) rok_upQ w2'
          obtain ⟨v1, v2, v3, v4, v5, v6, hr2⟩ := hw2 hp1
          obtain ⟨b0, b1, b2, b3, b4, b5, b6, b7, -⟩ := RowAt.c8 hr2
          have l7 := laterU b7
          clear b0 b1 b2 b3 b4 b5 b6 b7 hr2
          simp only [List.drop_succ_cons, List.drop_zero, List.take_succ_cons, List.take_zero]
          repeat (go_big_quiet_step (fail))
          exact wpQuiet_nil rfl
        refine wpAnyTS_some 18 [] 3 (by rfl) (by kernel_rfl) (by kernel_rfl) ?_
        intro w2 hu2
        replace hp1 := rowEnds_up hu2 hp1
        replace hE := hE.next hu2
        clear hu2
        refine ⟨?_, trivial⟩
        simp only [List.drop_succ_cons, List.drop_zero, List.take_succ_cons, List.take_zero]
        obtain ⟨a0, a1, a2, a3, a4, a5, a6, a7, e0, e1, e2, e3, e4, e5, e6, e7⟩ := RowAt.c8 (hE.get i (show ((lj.set i (rowR gl (.pointer (some ⟨g, 0, none⟩)) [.int .i64 (1 - (which : Int)), .int .i64 age, .int .i64 (pages : Int), .slice ql recs.length cl, .int .i64 (written : Int), .int .i64 (sure : Int), .string T])).set k (recsR (some ⟨gs, 0, none⟩) 1 [T]))[i]? = some (rowR gl (.pointer (some ⟨g, 0, none⟩)) [.int .i64 (1 - (which : Int)), .int .i64 age, .int .i64 (pages : Int), .slice ql recs.length cl, .int .i64 (written : Int), .int .i64 (sure : Int), .string T]) by rw [List.getElem?_set_ne (Ne.symm HIK.out), List.getElem?_set_self HIL.out]))
        go_wp2_with fail
        replace hE := hE.putRow i (show ((lj.set i (rowR gl (.pointer (some ⟨g, 0, none⟩)) [.int .i64 (1 - (which : Int)), .int .i64 age, .int .i64 (pages : Int), .slice ql recs.length cl, .int .i64 (written : Int), .int .i64 (sure : Int), .string T])).set k (recsR (some ⟨gs, 0, none⟩) 1 [T]))[i]? = some (rowR gl (.pointer (some ⟨g, 0, none⟩)) [.int .i64 (1 - (which : Int)), .int .i64 age, .int .i64 (pages : Int), .slice ql recs.length cl, .int .i64 (written : Int), .int .i64 (sure : Int), .string T]) by rw [List.getElem?_set_ne (Ne.symm HIK.out), List.getElem?_set_self HIL.out]) 4 (.slice (some ⟨gs, 0, none⟩) 1 1) (.pointer (some ⟨g, 0, none⟩)) [.int .i64 (1 - (which : Int)), .int .i64 age, .int .i64 (pages : Int), .slice (some ⟨gs, 0, none⟩) 1 1, .int .i64 (written : Int), .int .i64 (sure : Int), .string T] (by simp) rfl
        rw [set_set_ne _ _ _ (Ne.symm HIK.out), List.set_set] at hE
        have hp2 : RowEnds gl (.pointer (some ⟨g, 0, none⟩)) (.string T) _ := ⟨_, _, _, _, _, _, hE.get i (show ((lj.set i (rowR gl (.pointer (some ⟨g, 0, none⟩)) [.int .i64 (1 - (which : Int)), .int .i64 age, .int .i64 (pages : Int), .slice (some ⟨gs, 0, none⟩) 1 1, .int .i64 (written : Int), .int .i64 (sure : Int), .string T])).set k (recsR (some ⟨gs, 0, none⟩) 1 [T]))[i]? = some (rowR gl (.pointer (some ⟨g, 0, none⟩)) [.int .i64 (1 - (which : Int)), .int .i64 age, .int .i64 (pages : Int), .slice (some ⟨gs, 0, none⟩) 1 1, .int .i64 (written : Int), .int .i64 (sure : Int), .string T]) by rw [List.getElem?_set_ne (Ne.symm HIK.out), List.getElem?_set_self HIL.out])⟩
        refine ⟨.inr fun _ => hp2, ?_⟩
        clear a0 a1 a2 a3 a4 a5 a6 a7 e0 e1 e2 e3 e4 e5 e6 e7 hp1
        have hp1 := hp2
        clear hp2
        generalize World.setCell _ _ _ = wb at *
        refine wpAnyTS_quiet 19 2 1 51 (by rfl) (by kernel_rfl) (fun _ _ _ _ _ h => h) (by kernel_rfl) (by kernel_rfl) ?_
        apply Exists.intro
        refine ⟨fun w2' hw2 => ?_, ?_⟩
        · have hne := laterR_ne (R := Up) rok_upQ w2'
          obtain ⟨v1, v2, v3, v4, v5, v6, hr2⟩ := hw2 hp1
          obtain ⟨b0, b1, b2, b3, b4, b5, b6, b7, -⟩ := RowAt.c8 hr2
          have l7 := laterU b7
          clear b0 b1 b2 b3 b4 b5 b6 b7 hr2
          simp only [List.drop_succ_cons, List.drop_zero, List.take_succ_cons, List.take_zero]
          repeat (go_big_quiet_step (fail))
          exact wpQuiet_nil rfl
        refine wpAnyTS_some 21 [] 0 (by rfl) (by kernel_rfl) (by kernel_rfl) ?_
        intro w2 hu2
        replace hp1 := rowEnds_up hu2 hp1
        replace hE := hE.next hu2
        clear hu2
        refine ⟨?_, trivial⟩
        simp only [List.drop_succ_cons, List.drop_zero, List.take_succ_cons, List.take_zero]
        obtain ⟨a0, a1, a2, a3, a4, a5, a6, a7, e0, e1, e2, e3, e4, e5, e6, e7⟩ := RowAt.c8 (hE.get i (show ((lj.set i (rowR gl (.pointer (some ⟨g, 0, none⟩)) [.int .i64 (1 - (which : Int)), .int .i64 age, .int .i64 (pages : Int), .slice (some ⟨gs, 0, none⟩) 1 1, .int .i64 (written : Int), .int .i64 (sure : Int), .string T])).set k (recsR (some ⟨gs, 0, none⟩) 1 [T]))[i]? = some (rowR gl (.pointer (some ⟨g, 0, none⟩)) [.int .i64 (1 - (which : Int)), .int .i64 age, .int .i64 (pages : Int), .slice (some ⟨gs, 0, none⟩) 1 1, .int .i64 (written : Int), .int .i64 (sure : Int), .string T]) by rw [List.getElem?_set_ne (Ne.symm HIK.out), List.getElem?_set_self HIL.out]))
        go_wp2_with fail
        replace hE := hE.putRow i (show ((lj.set i (rowR gl (.pointer (some ⟨g, 0, none⟩)) [.int .i64 (1 - (which : Int)), .int .i64 age, .int .i64 (pages : Int), .slice (some ⟨gs, 0, none⟩) 1 1, .int .i64 (written : Int), .int .i64 (sure : Int), .string T])).set k (recsR (some ⟨gs, 0, none⟩) 1 [T]))[i]? = some (rowR gl (.pointer (some ⟨g, 0, none⟩)) [.int .i64 (1 - (which : Int)), .int .i64 age, .int .i64 (pages : Int), .slice (some ⟨gs, 0, none⟩) 1 1, .int .i64 (written : Int), .int .i64 (sure : Int), .string T]) by rw [List.getElem?_set_ne (Ne.symm HIK.out), List.getElem?_set_self HIL.out]) 5 (.int .i64 1) (.pointer (some ⟨g, 0, none⟩)) [.int .i64 (1 - (which : Int)), .int .i64 age, .int .i64 (pages : Int), .slice (some ⟨gs, 0, none⟩) 1 1, .int .i64 1, .int .i64 (sure : Int), .string T] (by simp) rfl
        rw [set_set_ne _ _ _ (Ne.symm HIK.out), List.set_set] at hE
        have hp2 : RowEnds gl (.pointer (some ⟨g, 0, none⟩)) (.string T) _ := ⟨_, _, _, _, _, _, hE.get i (show ((lj.set i (rowR gl (.pointer (some ⟨g, 0, none⟩)) [.int .i64 (1 - (which : Int)), .int .i64 age, .int .i64 (pages : Int), .slice (some ⟨gs, 0, none⟩) 1 1, .int .i64 1, .int .i64 (sure : Int), .string T])).set k (recsR (some ⟨gs, 0, none⟩) 1 [T]))[i]? = some (rowR gl (.pointer (some ⟨g, 0, none⟩)) [.int .i64 (1 - (which : Int)), .int .i64 age, .int .i64 (pages : Int), .slice (some ⟨gs, 0, none⟩) 1 1, .int .i64 1, .int .i64 (sure : Int), .string T]) by rw [List.getElem?_set_ne (Ne.symm HIK.out), List.getElem?_set_self HIL.out])⟩
        refine ⟨.inr fun _ => hp2, ?_⟩
        clear a0 a1 a2 a3 a4 a5 a6 a7 e0 e1 e2 e3 e4 e5 e6 e7 hp1
        have hp1 := hp2
        clear hp2
        generalize World.setCell _ _ _ = wb at *
        refine wpAnyTS_done (by kernel_rfl) ?_
        intro w6 hu6
        replace hE := hE.next hu6
        clear hu6 hp1
        have hrs := recs_all hE (show ((lj.set i (rowR gl (.pointer (some ⟨g, 0, none⟩)) [.int .i64 (1 - (which : Int)), .int .i64 age, .int .i64 (pages : Int), .slice (some ⟨gs, 0, none⟩) 1 1, .int .i64 1, .int .i64 (sure : Int), .string T])).set k (recsR (some ⟨gs, 0, none⟩) 1 [T]))[k]? = some (recsR (some ⟨gs, 0, none⟩) 1 [T]) from List.getElem?_set_self (by rw [List.length_set]; exact HKL.out))
        have CF := Lib.hid (show Calls Try.prog 45 #[.slice (some ⟨gs, 0, none⟩) 1 1] w6 _ from wal_framed (c := 1) [T] hrs (fun x hx => by obtain rfl := List.mem_singleton.1 hx; exact ht) (show 1 ≤ 100000 by decide))
        have CN := Lib.hid (fun w => HN.out ▸ wal_need (frameW [T]).size (HFZ.out) w)
        clear hrs
        obtain ⟨a0, a1, a2, a3, a4, a5, a6, a7, e0, e1, e2, e3, e4, e5, e6, e7⟩ := RowAt.c8 (hE.get i (show ((lj.set i (rowR gl (.pointer (some ⟨g, 0, none⟩)) [.int .i64 (1 - (which : Int)), .int .i64 age, .int .i64 (pages : Int), .slice (some ⟨gs, 0, none⟩) 1 1, .int .i64 1, .int .i64 (sure : Int), .string T])).set k (recsR (some ⟨gs, 0, none⟩) 1 [T]))[i]? = some (rowR gl (.pointer (some ⟨g, 0, none⟩)) [.int .i64 (1 - (which : Int)), .int .i64 age, .int .i64 (pages : Int), .slice (some ⟨gs, 0, none⟩) 1 1, .int .i64 1, .int .i64 (sure : Int), .string T]) by rw [List.getElem?_set_ne (Ne.symm HIK.out), List.getElem?_set_self HIL.out]))
        go_upto_region 4 with (first
          | ((with_reducible refine CF.out.mono ?_); rintro e w7 ⟨rfl, hu7⟩; replace hE := hE.next hu7; clear hu7 CF a0 a1 a2 a3 a4 a5 a6 a7 e0 e1 e2 e3 e4 e5 e6 e7; obtain ⟨a0, a1, a2, a3, a4, a5, a6, a7, e0, e1, e2, e3, e4, e5, e6, e7⟩ := RowAt.c8 (hE.get i (show ((lj.set i (rowR gl (.pointer (some ⟨g, 0, none⟩)) [.int .i64 (1 - (which : Int)), .int .i64 age, .int .i64 (pages : Int), .slice (some ⟨gs, 0, none⟩) 1 1, .int .i64 1, .int .i64 (sure : Int), .string T])).set k (recsR (some ⟨gs, 0, none⟩) 1 [T]))[i]? = some (rowR gl (.pointer (some ⟨g, 0, none⟩)) [.int .i64 (1 - (which : Int)), .int .i64 age, .int .i64 (pages : Int), .slice (some ⟨gs, 0, none⟩) 1 1, .int .i64 1, .int .i64 (sure : Int), .string T]) by rw [List.getElem?_set_ne (Ne.symm HIK.out), List.getElem?_set_self HIL.out])))
          | ((with_reducible refine (CN.out _).mono ?_); rintro e w8 ⟨rfl, rfl⟩))
        have hF := hE.putRow i (show ((lj.set i (rowR gl (.pointer (some ⟨g, 0, none⟩)) [.int .i64 (1 - (which : Int)), .int .i64 age, .int .i64 (pages : Int), .slice (some ⟨gs, 0, none⟩) 1 1, .int .i64 1, .int .i64 (sure : Int), .string T])).set k (recsR (some ⟨gs, 0, none⟩) 1 [T]))[i]? = some (rowR gl (.pointer (some ⟨g, 0, none⟩)) [.int .i64 (1 - (which : Int)), .int .i64 age, .int .i64 (pages : Int), .slice (some ⟨gs, 0, none⟩) 1 1, .int .i64 1, .int .i64 (sure : Int), .string T]) by rw [List.getElem?_set_ne (Ne.symm HIK.out), List.getElem?_set_self HIL.out]) 3 (.int .i64 (N : Int)) (.pointer (some ⟨g, 0, none⟩)) [.int .i64 (1 - (which : Int)), .int .i64 age, .int .i64 (N : Int), .slice (some ⟨gs, 0, none⟩) 1 1, .int .i64 1, .int .i64 (sure : Int), .string T] (by simp) rfl
        rw [set_set_ne _ _ _ (Ne.symm HIK.out), List.set_set] at hF
        replace hF := hF.putRow i (show ((lj.set i (rowR gl (.pointer (some ⟨g, 0, none⟩)) [.int .i64 (1 - (which : Int)), .int .i64 age, .int .i64 (N : Int), .slice (some ⟨gs, 0, none⟩) 1 1, .int .i64 1, .int .i64 (sure : Int), .string T])).set k (recsR (some ⟨gs, 0, none⟩) 1 [T]))[i]? = some (rowR gl (.pointer (some ⟨g, 0, none⟩)) [.int .i64 (1 - (which : Int)), .int .i64 age, .int .i64 (N : Int), .slice (some ⟨gs, 0, none⟩) 1 1, .int .i64 1, .int .i64 (sure : Int), .string T]) by rw [List.getElem?_set_ne (Ne.symm HIK.out), List.getElem?_set_self HIL.out]) 7 (.string ByteArray.empty) (.pointer (some ⟨g, 0, none⟩)) [.int .i64 (1 - (which : Int)), .int .i64 age, .int .i64 (N : Int), .slice (some ⟨gs, 0, none⟩) 1 1, .int .i64 1, .int .i64 (sure : Int), .string ByteArray.empty] (by simp) rfl
        rw [set_set_ne _ _ _ (Ne.symm HIK.out), List.set_set] at hF
        clear hE CN a0 a1 a2 a3 a4 a5 a6 a7 e0 e1 e2 e3 e4 e5 e6 e7
        replace hF : Hold W (World.setCell (World.setCell _ ⟨gl, 3, none⟩ (.int .i64 (N : Int))) ⟨gl, 7, none⟩ (.string ⟨#[]⟩)) _ := hF
        generalize World.setCell _ _ _ = wc at *
        obtain ⟨a0, a1, a2, a3, a4, a5, a6, a7, e0, e1, e2, e3, e4, e5, e6, e7⟩ := RowAt.c8 (hF.get i (show ((lj.set i (rowR gl (.pointer (some ⟨g, 0, none⟩)) [.int .i64 (1 - (which : Int)), .int .i64 age, .int .i64 (N : Int), .slice (some ⟨gs, 0, none⟩) 1 1, .int .i64 1, .int .i64 (sure : Int), .string ByteArray.empty])).set k (recsR (some ⟨gs, 0, none⟩) 1 [T]))[i]? = some (rowR gl (.pointer (some ⟨g, 0, none⟩)) [.int .i64 (1 - (which : Int)), .int .i64 age, .int .i64 (N : Int), .slice (some ⟨gs, 0, none⟩) 1 1, .int .i64 1, .int .i64 (sure : Int), .string ByteArray.empty]) by rw [List.getElem?_set_ne (Ne.symm HIK.out), List.getElem?_set_self HIL.out]))
        have hE := hF.putRow i (show ((lj.set i (rowR gl (.pointer (some ⟨g, 0, none⟩)) [.int .i64 (1 - (which : Int)), .int .i64 age, .int .i64 (N : Int), .slice (some ⟨gs, 0, none⟩) 1 1, .int .i64 1, .int .i64 (sure : Int), .string ByteArray.empty])).set k (recsR (some ⟨gs, 0, none⟩) 1 [T]))[i]? = some (rowR gl (.pointer (some ⟨g, 0, none⟩)) [.int .i64 (1 - (which : Int)), .int .i64 age, .int .i64 (N : Int), .slice (some ⟨gs, 0, none⟩) 1 1, .int .i64 1, .int .i64 (sure : Int), .string ByteArray.empty]) by rw [List.getElem?_set_ne (Ne.symm HIK.out), List.getElem?_set_self HIL.out]) 6 (.int .i64 1) (.pointer (some ⟨g, 0, none⟩)) [.int .i64 (1 - (which : Int)), .int .i64 age, .int .i64 (N : Int), .slice (some ⟨gs, 0, none⟩) 1 1, .int .i64 1, .int .i64 1, .string ByteArray.empty] (by simp) rfl
        rw [set_set_ne _ _ _ (Ne.symm HIK.out), List.set_set] at hE
        go_wp2_with fail
        go_end0
        refine ⟨rfl, some ⟨gs, 0, none⟩, 1, ?_⟩
        rw [← HS.out]
        show Hold W _ ((lj.set i (rowR gl _ [.int .i64 ((1 - which : Nat) : Int), .int .i64 age, .int .i64 (N : Int), .slice (some ⟨gs, 0, none⟩) 1 1, .int .i64 ((1 : Nat) : Int), .int .i64 ((1 : Nat) : Int), .string ByteArray.empty])).set k _)
        rw [hw2]
        exact hE
      · simp only [List.drop_succ_cons, List.drop_zero, List.take_succ_cons, List.take_zero]
        obtain ⟨a0, a1, a2, a3, a4, a5, a6, a7, e0, e1, e2, e3, e4, e5, e6, e7⟩ := RowAt.c8 (hE.get i HI.out)
        go_wp2_with fail
        replace hE := hE.putRow i HI.out 1 (.int .i64 (1 - (which : Int))) (.pointer (some ⟨g, 0, none⟩)) [.int .i64 (1 - (which : Int)), .int .i64 age, .int .i64 (pages : Int), .slice ql recs.length cl, .int .i64 (written : Int), .int .i64 (sure : Int), .string T] (by simp) rfl
        have hp2 : RowEnds gl (.pointer (some ⟨g, 0, none⟩)) (.string T) _ := ⟨_, _, _, _, _, _, hE.get (R := rowR gl (.pointer (some ⟨g, 0, none⟩)) [.int .i64 (1 - (which : Int)), .int .i64 age, .int .i64 (pages : Int), .slice ql recs.length cl, .int .i64 (written : Int), .int .i64 (sure : Int), .string T]) i (by rw [List.getElem?_set_self (by first | exact HIL.out | (rw [List.length_set]; exact HIL.out))])⟩
        refine ⟨.inr fun _ => hp2, ?_⟩
        clear a0 a1 a2 a3 a4 a5 a6 a7 e0 e1 e2 e3 e4 e5 e6 e7 hp1
        have hp1 := hp2
        clear hp2
        try rw [List.set_set] at hE
        generalize World.setCell _ _ _ = wb at *
        refine wpAnyTS_some 12 [] 6 (by rfl) (by kernel_rfl) (by kernel_rfl) ?_
        intro w2 hu2
        replace hp1 := rowEnds_up hu2 hp1
        replace hE := hE.next hu2
        clear hu2
        refine ⟨?_, trivial⟩
        simp only [List.drop_succ_cons, List.drop_zero, List.take_succ_cons, List.take_zero]
        obtain ⟨a0, a1, a2, a3, a4, a5, a6, a7, e0, e1, e2, e3, e4, e5, e6, e7⟩ := RowAt.c8 (hE.get i (show (lj.set i (rowR gl (.pointer (some ⟨g, 0, none⟩)) [.int .i64 (1 - (which : Int)), .int .i64 age, .int .i64 (pages : Int), .slice ql recs.length cl, .int .i64 (written : Int), .int .i64 (sure : Int), .string T]))[i]? = some (rowR gl (.pointer (some ⟨g, 0, none⟩)) [.int .i64 (1 - (which : Int)), .int .i64 age, .int .i64 (pages : Int), .slice ql recs.length cl, .int .i64 (written : Int), .int .i64 (sure : Int), .string T]) from List.getElem?_set_self HIL.out))
        go_wp2_with fail
        replace hE := hE.builtAt k (Eq.trans (List.getElem?_set_ne HIK.out) HK.out) 9 T
        refine ⟨.inr fun h => rowEnds_up ((Up.refl _).alloc _) h, ?_⟩
        clear a0 a1 a2 a3 a4 a5 a6 a7 e0 e1 e2 e3 e4 e5 e6 e7
        replace hp1 := rowEnds_up ((Up.refl w2).alloc (.cells #[.string T] 9)) hp1
        generalize w2.heap.size = gs at *
        generalize w2.alloc _ = wb at *
        replace hE : Hold W wb ((lj.set i (rowR gl (.pointer (some ⟨g, 0, none⟩)) [.int .i64 (1 - (which : Int)), .int .i64 age, .int .i64 (pages : Int), .slice ql recs.length cl, .int .i64 (written : Int), .int .i64 (sure : Int), .string T])).set k (recsR (some ⟨gs, 0, none⟩) 1 [T])) := hE
        refine wpAnyTS_quiet 16 2 4 51 (by rfl) (by kernel_rfl) (fun _ _ _ _ _ h => h) (by kernel_rfl) (by kernel_rfl) ?_
        apply Exists.intro
        refine ⟨fun w2' hw2 => ?_, ?_⟩
        · have hne := laterR_ne (R := Up) rok_upQ w2'
          obtain ⟨v1, v2, v3, v4, v5, v6, hr2⟩ := hw2 hp1
          obtain ⟨b0, b1, b2, b3, b4, b5, b6, b7, -⟩ := RowAt.c8 hr2
          have l7 := laterU b7
          clear b0 b1 b2 b3 b4 b5 b6 b7 hr2
          simp only [List.drop_succ_cons, List.drop_zero, List.take_succ_cons, List.take_zero]
          repeat (go_big_quiet_step (fail))
          exact wpQuiet_nil rfl
        refine wpAnyTS_some 18 [] 3 (by rfl) (by kernel_rfl) (by kernel_rfl) ?_
        intro w2 hu2
        replace hp1 := rowEnds_up hu2 hp1
        replace hE := hE.next hu2
        clear hu2
        refine ⟨?_, trivial⟩
        simp only [List.drop_succ_cons, List.drop_zero, List.take_succ_cons, List.take_zero]
        obtain ⟨a0, a1, a2, a3, a4, a5, a6, a7, e0, e1, e2, e3, e4, e5, e6, e7⟩ := RowAt.c8 (hE.get i (show ((lj.set i (rowR gl (.pointer (some ⟨g, 0, none⟩)) [.int .i64 (1 - (which : Int)), .int .i64 age, .int .i64 (pages : Int), .slice ql recs.length cl, .int .i64 (written : Int), .int .i64 (sure : Int), .string T])).set k (recsR (some ⟨gs, 0, none⟩) 1 [T]))[i]? = some (rowR gl (.pointer (some ⟨g, 0, none⟩)) [.int .i64 (1 - (which : Int)), .int .i64 age, .int .i64 (pages : Int), .slice ql recs.length cl, .int .i64 (written : Int), .int .i64 (sure : Int), .string T]) by rw [List.getElem?_set_ne (Ne.symm HIK.out), List.getElem?_set_self HIL.out]))
        go_wp2_with fail
        replace hE := hE.putRow i (show ((lj.set i (rowR gl (.pointer (some ⟨g, 0, none⟩)) [.int .i64 (1 - (which : Int)), .int .i64 age, .int .i64 (pages : Int), .slice ql recs.length cl, .int .i64 (written : Int), .int .i64 (sure : Int), .string T])).set k (recsR (some ⟨gs, 0, none⟩) 1 [T]))[i]? = some (rowR gl (.pointer (some ⟨g, 0, none⟩)) [.int .i64 (1 - (which : Int)), .int .i64 age, .int .i64 (pages : Int), .slice ql recs.length cl, .int .i64 (written : Int), .int .i64 (sure : Int), .string T]) by rw [List.getElem?_set_ne (Ne.symm HIK.out), List.getElem?_set_self HIL.out]) 4 (.slice (some ⟨gs, 0, none⟩) 1 1) (.pointer (some ⟨g, 0, none⟩)) [.int .i64 (1 - (which : Int)), .int .i64 age, .int .i64 (pages : Int), .slice (some ⟨gs, 0, none⟩) 1 1, .int .i64 (written : Int), .int .i64 (sure : Int), .string T] (by simp) rfl
        rw [set_set_ne _ _ _ (Ne.symm HIK.out), List.set_set] at hE
        have hp2 : RowEnds gl (.pointer (some ⟨g, 0, none⟩)) (.string T) _ := ⟨_, _, _, _, _, _, hE.get i (show ((lj.set i (rowR gl (.pointer (some ⟨g, 0, none⟩)) [.int .i64 (1 - (which : Int)), .int .i64 age, .int .i64 (pages : Int), .slice (some ⟨gs, 0, none⟩) 1 1, .int .i64 (written : Int), .int .i64 (sure : Int), .string T])).set k (recsR (some ⟨gs, 0, none⟩) 1 [T]))[i]? = some (rowR gl (.pointer (some ⟨g, 0, none⟩)) [.int .i64 (1 - (which : Int)), .int .i64 age, .int .i64 (pages : Int), .slice (some ⟨gs, 0, none⟩) 1 1, .int .i64 (written : Int), .int .i64 (sure : Int), .string T]) by rw [List.getElem?_set_ne (Ne.symm HIK.out), List.getElem?_set_self HIL.out])⟩
        refine ⟨.inr fun _ => hp2, ?_⟩
        clear a0 a1 a2 a3 a4 a5 a6 a7 e0 e1 e2 e3 e4 e5 e6 e7 hp1
        have hp1 := hp2
        clear hp2
        generalize World.setCell _ _ _ = wb at *
        refine wpAnyTS_quiet 19 2 1 51 (by rfl) (by kernel_rfl) (fun _ _ _ _ _ h => h) (by kernel_rfl) (by kernel_rfl) ?_
        apply Exists.intro
        refine ⟨fun w2' hw2 => ?_, ?_⟩
        · have hne := laterR_ne (R := Up) rok_upQ w2'
          obtain ⟨v1, v2, v3, v4, v5, v6, hr2⟩ := hw2 hp1
          obtain ⟨b0, b1, b2, b3, b4, b5, b6, b7, -⟩ := RowAt.c8 hr2
          have l7 := laterU b7
          clear b0 b1 b2 b3 b4 b5 b6 b7 hr2
          simp only [List.drop_succ_cons, List.drop_zero, List.take_succ_cons, List.take_zero]
          repeat (go_big_quiet_step (fail))
          exact wpQuiet_nil rfl
        refine wpAnyTS_some 21 [] 0 (by rfl) (by kernel_rfl) (by kernel_rfl) ?_
        intro w2 hu2
        replace hp1 := rowEnds_up hu2 hp1
        replace hE := hE.next hu2
        clear hu2
        refine ⟨?_, trivial⟩
        simp only [List.drop_succ_cons, List.drop_zero, List.take_succ_cons, List.take_zero]
        obtain ⟨a0, a1, a2, a3, a4, a5, a6, a7, e0, e1, e2, e3, e4, e5, e6, e7⟩ := RowAt.c8 (hE.get i (show ((lj.set i (rowR gl (.pointer (some ⟨g, 0, none⟩)) [.int .i64 (1 - (which : Int)), .int .i64 age, .int .i64 (pages : Int), .slice (some ⟨gs, 0, none⟩) 1 1, .int .i64 (written : Int), .int .i64 (sure : Int), .string T])).set k (recsR (some ⟨gs, 0, none⟩) 1 [T]))[i]? = some (rowR gl (.pointer (some ⟨g, 0, none⟩)) [.int .i64 (1 - (which : Int)), .int .i64 age, .int .i64 (pages : Int), .slice (some ⟨gs, 0, none⟩) 1 1, .int .i64 (written : Int), .int .i64 (sure : Int), .string T]) by rw [List.getElem?_set_ne (Ne.symm HIK.out), List.getElem?_set_self HIL.out]))
        go_wp2_with fail
        replace hE := hE.putRow i (show ((lj.set i (rowR gl (.pointer (some ⟨g, 0, none⟩)) [.int .i64 (1 - (which : Int)), .int .i64 age, .int .i64 (pages : Int), .slice (some ⟨gs, 0, none⟩) 1 1, .int .i64 (written : Int), .int .i64 (sure : Int), .string T])).set k (recsR (some ⟨gs, 0, none⟩) 1 [T]))[i]? = some (rowR gl (.pointer (some ⟨g, 0, none⟩)) [.int .i64 (1 - (which : Int)), .int .i64 age, .int .i64 (pages : Int), .slice (some ⟨gs, 0, none⟩) 1 1, .int .i64 (written : Int), .int .i64 (sure : Int), .string T]) by rw [List.getElem?_set_ne (Ne.symm HIK.out), List.getElem?_set_self HIL.out]) 5 (.int .i64 1) (.pointer (some ⟨g, 0, none⟩)) [.int .i64 (1 - (which : Int)), .int .i64 age, .int .i64 (pages : Int), .slice (some ⟨gs, 0, none⟩) 1 1, .int .i64 1, .int .i64 (sure : Int), .string T] (by simp) rfl
        rw [set_set_ne _ _ _ (Ne.symm HIK.out), List.set_set] at hE
        have hp2 : RowEnds gl (.pointer (some ⟨g, 0, none⟩)) (.string T) _ := ⟨_, _, _, _, _, _, hE.get i (show ((lj.set i (rowR gl (.pointer (some ⟨g, 0, none⟩)) [.int .i64 (1 - (which : Int)), .int .i64 age, .int .i64 (pages : Int), .slice (some ⟨gs, 0, none⟩) 1 1, .int .i64 1, .int .i64 (sure : Int), .string T])).set k (recsR (some ⟨gs, 0, none⟩) 1 [T]))[i]? = some (rowR gl (.pointer (some ⟨g, 0, none⟩)) [.int .i64 (1 - (which : Int)), .int .i64 age, .int .i64 (pages : Int), .slice (some ⟨gs, 0, none⟩) 1 1, .int .i64 1, .int .i64 (sure : Int), .string T]) by rw [List.getElem?_set_ne (Ne.symm HIK.out), List.getElem?_set_self HIL.out])⟩
        refine ⟨.inr fun _ => hp2, ?_⟩
        clear a0 a1 a2 a3 a4 a5 a6 a7 e0 e1 e2 e3 e4 e5 e6 e7 hp1
        have hp1 := hp2
        clear hp2
        generalize World.setCell _ _ _ = wb at *
        refine wpAnyTS_done (by kernel_rfl) ?_
        intro w6 hu6
        replace hE := hE.next hu6
        clear hu6 hp1
        have hrs := recs_all hE (show ((lj.set i (rowR gl (.pointer (some ⟨g, 0, none⟩)) [.int .i64 (1 - (which : Int)), .int .i64 age, .int .i64 (pages : Int), .slice (some ⟨gs, 0, none⟩) 1 1, .int .i64 1, .int .i64 (sure : Int), .string T])).set k (recsR (some ⟨gs, 0, none⟩) 1 [T]))[k]? = some (recsR (some ⟨gs, 0, none⟩) 1 [T]) from List.getElem?_set_self (by rw [List.length_set]; exact HKL.out))
        have CF := Lib.hid (show Calls Try.prog 45 #[.slice (some ⟨gs, 0, none⟩) 1 1] w6 _ from wal_framed (c := 1) [T] hrs (fun x hx => by obtain rfl := List.mem_singleton.1 hx; exact ht) (show 1 ≤ 100000 by decide))
        have CN := Lib.hid (fun w => HN.out ▸ wal_need (frameW [T]).size (HFZ.out) w)
        clear hrs
        obtain ⟨a0, a1, a2, a3, a4, a5, a6, a7, e0, e1, e2, e3, e4, e5, e6, e7⟩ := RowAt.c8 (hE.get i (show ((lj.set i (rowR gl (.pointer (some ⟨g, 0, none⟩)) [.int .i64 (1 - (which : Int)), .int .i64 age, .int .i64 (pages : Int), .slice (some ⟨gs, 0, none⟩) 1 1, .int .i64 1, .int .i64 (sure : Int), .string T])).set k (recsR (some ⟨gs, 0, none⟩) 1 [T]))[i]? = some (rowR gl (.pointer (some ⟨g, 0, none⟩)) [.int .i64 (1 - (which : Int)), .int .i64 age, .int .i64 (pages : Int), .slice (some ⟨gs, 0, none⟩) 1 1, .int .i64 1, .int .i64 (sure : Int), .string T]) by rw [List.getElem?_set_ne (Ne.symm HIK.out), List.getElem?_set_self HIL.out]))
        go_upto_region 4 with (first
          | ((with_reducible refine CF.out.mono ?_); rintro e w7 ⟨rfl, hu7⟩; replace hE := hE.next hu7; clear hu7 CF a0 a1 a2 a3 a4 a5 a6 a7 e0 e1 e2 e3 e4 e5 e6 e7; obtain ⟨a0, a1, a2, a3, a4, a5, a6, a7, e0, e1, e2, e3, e4, e5, e6, e7⟩ := RowAt.c8 (hE.get i (show ((lj.set i (rowR gl (.pointer (some ⟨g, 0, none⟩)) [.int .i64 (1 - (which : Int)), .int .i64 age, .int .i64 (pages : Int), .slice (some ⟨gs, 0, none⟩) 1 1, .int .i64 1, .int .i64 (sure : Int), .string T])).set k (recsR (some ⟨gs, 0, none⟩) 1 [T]))[i]? = some (rowR gl (.pointer (some ⟨g, 0, none⟩)) [.int .i64 (1 - (which : Int)), .int .i64 age, .int .i64 (pages : Int), .slice (some ⟨gs, 0, none⟩) 1 1, .int .i64 1, .int .i64 (sure : Int), .string T]) by rw [List.getElem?_set_ne (Ne.symm HIK.out), List.getElem?_set_self HIL.out])))
          | ((with_reducible refine (CN.out _).mono ?_); rintro e w8 ⟨rfl, rfl⟩))
        have hF := hE.putRow i (show ((lj.set i (rowR gl (.pointer (some ⟨g, 0, none⟩)) [.int .i64 (1 - (which : Int)), .int .i64 age, .int .i64 (pages : Int), .slice (some ⟨gs, 0, none⟩) 1 1, .int .i64 1, .int .i64 (sure : Int), .string T])).set k (recsR (some ⟨gs, 0, none⟩) 1 [T]))[i]? = some (rowR gl (.pointer (some ⟨g, 0, none⟩)) [.int .i64 (1 - (which : Int)), .int .i64 age, .int .i64 (pages : Int), .slice (some ⟨gs, 0, none⟩) 1 1, .int .i64 1, .int .i64 (sure : Int), .string T]) by rw [List.getElem?_set_ne (Ne.symm HIK.out), List.getElem?_set_self HIL.out]) 3 (.int .i64 (N : Int)) (.pointer (some ⟨g, 0, none⟩)) [.int .i64 (1 - (which : Int)), .int .i64 age, .int .i64 (N : Int), .slice (some ⟨gs, 0, none⟩) 1 1, .int .i64 1, .int .i64 (sure : Int), .string T] (by simp) rfl
        rw [set_set_ne _ _ _ (Ne.symm HIK.out), List.set_set] at hF
        replace hF := hF.putRow i (show ((lj.set i (rowR gl (.pointer (some ⟨g, 0, none⟩)) [.int .i64 (1 - (which : Int)), .int .i64 age, .int .i64 (N : Int), .slice (some ⟨gs, 0, none⟩) 1 1, .int .i64 1, .int .i64 (sure : Int), .string T])).set k (recsR (some ⟨gs, 0, none⟩) 1 [T]))[i]? = some (rowR gl (.pointer (some ⟨g, 0, none⟩)) [.int .i64 (1 - (which : Int)), .int .i64 age, .int .i64 (N : Int), .slice (some ⟨gs, 0, none⟩) 1 1, .int .i64 1, .int .i64 (sure : Int), .string T]) by rw [List.getElem?_set_ne (Ne.symm HIK.out), List.getElem?_set_self HIL.out]) 7 (.string ByteArray.empty) (.pointer (some ⟨g, 0, none⟩)) [.int .i64 (1 - (which : Int)), .int .i64 age, .int .i64 (N : Int), .slice (some ⟨gs, 0, none⟩) 1 1, .int .i64 1, .int .i64 (sure : Int), .string ByteArray.empty] (by simp) rfl
        rw [set_set_ne _ _ _ (Ne.symm HIK.out), List.set_set] at hF
        clear hE CN a0 a1 a2 a3 a4 a5 a6 a7 e0 e1 e2 e3 e4 e5 e6 e7
        replace hF : Hold W (World.setCell (World.setCell _ ⟨gl, 3, none⟩ (.int .i64 (N : Int))) ⟨gl, 7, none⟩ (.string ⟨#[]⟩)) _ := hF
        generalize World.setCell _ _ _ = wc at *
        obtain ⟨a0, a1, a2, a3, a4, a5, a6, a7, e0, e1, e2, e3, e4, e5, e6, e7⟩ := RowAt.c8 (hF.get i (show ((lj.set i (rowR gl (.pointer (some ⟨g, 0, none⟩)) [.int .i64 (1 - (which : Int)), .int .i64 age, .int .i64 (N : Int), .slice (some ⟨gs, 0, none⟩) 1 1, .int .i64 1, .int .i64 (sure : Int), .string ByteArray.empty])).set k (recsR (some ⟨gs, 0, none⟩) 1 [T]))[i]? = some (rowR gl (.pointer (some ⟨g, 0, none⟩)) [.int .i64 (1 - (which : Int)), .int .i64 age, .int .i64 (N : Int), .slice (some ⟨gs, 0, none⟩) 1 1, .int .i64 1, .int .i64 (sure : Int), .string ByteArray.empty]) by rw [List.getElem?_set_ne (Ne.symm HIK.out), List.getElem?_set_self HIL.out]))
        have hE := hF.putRow i (show ((lj.set i (rowR gl (.pointer (some ⟨g, 0, none⟩)) [.int .i64 (1 - (which : Int)), .int .i64 age, .int .i64 (N : Int), .slice (some ⟨gs, 0, none⟩) 1 1, .int .i64 1, .int .i64 (sure : Int), .string ByteArray.empty])).set k (recsR (some ⟨gs, 0, none⟩) 1 [T]))[i]? = some (rowR gl (.pointer (some ⟨g, 0, none⟩)) [.int .i64 (1 - (which : Int)), .int .i64 age, .int .i64 (N : Int), .slice (some ⟨gs, 0, none⟩) 1 1, .int .i64 1, .int .i64 (sure : Int), .string ByteArray.empty]) by rw [List.getElem?_set_ne (Ne.symm HIK.out), List.getElem?_set_self HIL.out]) 6 (.int .i64 1) (.pointer (some ⟨g, 0, none⟩)) [.int .i64 (1 - (which : Int)), .int .i64 age, .int .i64 (N : Int), .slice (some ⟨gs, 0, none⟩) 1 1, .int .i64 1, .int .i64 1, .string ByteArray.empty] (by simp) rfl
        rw [set_set_ne _ _ _ (Ne.symm HIK.out), List.set_set] at hE
        go_wp2_with fail
        go_end0
        refine ⟨rfl, some ⟨gs, 0, none⟩, 1, ?_⟩
        rw [← HS.out]
        show Hold W _ ((lj.set i (rowR gl _ [.int .i64 ((1 - which : Nat) : Int), .int .i64 age, .int .i64 (N : Int), .slice (some ⟨gs, 0, none⟩) 1 1, .int .i64 ((1 : Nat) : Int), .int .i64 ((1 : Nat) : Int), .string ByteArray.empty])).set k _)
        rw [hw2]
        exact hE
    · simp only [List.drop_succ_cons, List.drop_zero, List.take_succ_cons, List.take_zero]
      obtain ⟨a0, a1, a2, a3, a4, a5, a6, a7, e0, e1, e2, e3, e4, e5, e6, e7⟩ := RowAt.c8 (hE.get i HI.out)
      go_wp2_with fail
      replace hE := hE.builtAt k HK.out 9 T
      refine ⟨.inr fun h => rowEnds_up ((Up.refl _).alloc _) h, ?_⟩
      clear a0 a1 a2 a3 a4 a5 a6 a7 e0 e1 e2 e3 e4 e5 e6 e7
      replace hp1 := rowEnds_up ((Up.refl w2).alloc (.cells #[.string T] 9)) hp1
      generalize w2.heap.size = gs at *
      generalize w2.alloc _ = wb at *
      refine wpAnyTS_some 6 [] 10 (by rfl) (by kernel_rfl) (by kernel_rfl) ?_
      intro w2 hu2
      replace hp1 := rowEnds_up hu2 hp1
      replace hE := hE.next hu2
      clear hu2
      refine ⟨?_, trivial⟩
      simp only [List.drop_succ_cons, List.drop_zero, List.take_succ_cons, List.take_zero]
      obtain ⟨a0, a1, a2, a3, a4, a5, a6, a7, e0, e1, e2, e3, e4, e5, e6, e7⟩ := RowAt.c8 (hE.get i (Eq.trans (List.getElem?_set_ne (Ne.symm HIK.out)) HI.out))
      go_wp2_with fail
      refine ⟨.inr fun h => h, ?_⟩
      clear a0 a1 a2 a3 a4 a5 a6 a7 e0 e1 e2 e3 e4 e5 e6 e7
      refine wpAnyTS_quiet 7 1 9 51 (by rfl) (by kernel_rfl) (fun _ _ _ _ _ h => h) (by kernel_rfl) (by kernel_rfl) ?_
      apply Exists.intro
      refine ⟨fun w2' hw2 => ?_, ?_⟩
      · have hne := laterR_ne (R := Up) rok_upQ w2'
        obtain ⟨v1, v2, v3, v4, v5, v6, hr2⟩ := hw2 hp1
        obtain ⟨b0, b1, b2, b3, b4, b5, b6, b7, -⟩ := RowAt.c8 hr2
        have l7 := laterU b7
        clear b0 b1 b2 b3 b4 b5 b6 b7 hr2
        simp only [List.drop_succ_cons, List.drop_zero, List.take_succ_cons, List.take_zero]
        repeat (go_big_quiet_step (fail))
        exact wpQuiet_nil rfl
      refine wpAnyTS_quiet 13 2 7 51 (by rfl) (by kernel_rfl) (fun _ _ _ _ _ h => h) (by kernel_rfl) (by kernel_rfl) ?_
      apply Exists.intro
      refine ⟨fun w2' hw2 => ?_, ?_⟩
      · have hne := laterR_ne (R := Up) rok_upQ w2'
        obtain ⟨v1, v2, v3, v4, v5, v6, hr2⟩ := hw2 hp1
        obtain ⟨b0, b1, b2, b3, b4, b5, b6, b7, -⟩ := RowAt.c8 hr2
        have l7 := laterU b7
        clear b0 b1 b2 b3 b4 b5 b6 b7 hr2
        simp only [List.drop_succ_cons, List.drop_zero, List.take_succ_cons, List.take_zero]
        repeat (go_big_quiet_step (fail))
        exact wpQuiet_nil rfl
      refine wpAnyTS_some 15 [] 6 (by rfl) (by kernel_rfl) (by kernel_rfl) ?_
      intro w2 hu2
      replace hp1 := rowEnds_up hu2 hp1
      replace hE := hE.next hu2
      clear hu2
      refine ⟨?_, trivial⟩
      simp only [List.drop_succ_cons, List.drop_zero, List.take_succ_cons, List.take_zero]
      obtain ⟨a0, a1, a2, a3, a4, a5, a6, a7, e0, e1, e2, e3, e4, e5, e6, e7⟩ := RowAt.c8 (hE.get i (Eq.trans (List.getElem?_set_ne (Ne.symm HIK.out)) HI.out))
      go_wp2_with fail
      replace hE := hE.putRow i (Eq.trans (List.getElem?_set_ne (Ne.symm HIK.out)) HI.out) 1 (.int .i64 (1 - (which : Int))) (.pointer (some ⟨g, 0, none⟩)) [.int .i64 (1 - (which : Int)), .int .i64 age, .int .i64 (pages : Int), .slice ql recs.length cl, .int .i64 (written : Int), .int .i64 (sure : Int), .string T] (by simp) rfl
      have hp2 : RowEnds gl (.pointer (some ⟨g, 0, none⟩)) (.string T) _ := ⟨_, _, _, _, _, _, hE.get (R := rowR gl (.pointer (some ⟨g, 0, none⟩)) [.int .i64 (1 - (which : Int)), .int .i64 age, .int .i64 (pages : Int), .slice ql recs.length cl, .int .i64 (written : Int), .int .i64 (sure : Int), .string T]) i (by rw [List.getElem?_set_self (by first | exact HIL.out | (rw [List.length_set]; exact HIL.out))])⟩
      refine ⟨.inr fun _ => hp2, ?_⟩
      clear a0 a1 a2 a3 a4 a5 a6 a7 e0 e1 e2 e3 e4 e5 e6 e7 hp1
      have hp1 := hp2
      clear hp2
      try rw [List.set_set] at hE
      generalize World.setCell _ _ _ = wb at *
      rw [set_set_ne _ _ _ (Ne.symm HIK.out)] at hE
      replace hE : Hold W wb ((lj.set i (rowR gl (.pointer (some ⟨g, 0, none⟩)) [.int .i64 (1 - (which : Int)), .int .i64 age, .int .i64 (pages : Int), .slice ql recs.length cl, .int .i64 (written : Int), .int .i64 (sure : Int), .string T])).set k (recsR (some ⟨gs, 0, none⟩) 1 [T])) := hE
      refine wpAnyTS_quiet 16 2 4 51 (by rfl) (by kernel_rfl) (fun _ _ _ _ _ h => h) (by kernel_rfl) (by kernel_rfl) ?_
      apply Exists.intro
      refine ⟨fun w2' hw2 => ?_, ?_⟩
      · have hne := laterR_ne (R := Up) rok_upQ w2'
        obtain ⟨v1, v2, v3, v4, v5, v6, hr2⟩ := hw2 hp1
        obtain ⟨b0, b1, b2, b3, b4, b5, b6, b7, -⟩ := RowAt.c8 hr2
        have l7 := laterU b7
        clear b0 b1 b2 b3 b4 b5 b6 b7 hr2
        simp only [List.drop_succ_cons, List.drop_zero, List.take_succ_cons, List.take_zero]
        repeat (go_big_quiet_step (fail))
        exact wpQuiet_nil rfl
      refine wpAnyTS_some 18 [] 3 (by rfl) (by kernel_rfl) (by kernel_rfl) ?_
      intro w2 hu2
      replace hp1 := rowEnds_up hu2 hp1
      replace hE := hE.next hu2
      clear hu2
      refine ⟨?_, trivial⟩
      simp only [List.drop_succ_cons, List.drop_zero, List.take_succ_cons, List.take_zero]
      obtain ⟨a0, a1, a2, a3, a4, a5, a6, a7, e0, e1, e2, e3, e4, e5, e6, e7⟩ := RowAt.c8 (hE.get i (show ((lj.set i (rowR gl (.pointer (some ⟨g, 0, none⟩)) [.int .i64 (1 - (which : Int)), .int .i64 age, .int .i64 (pages : Int), .slice ql recs.length cl, .int .i64 (written : Int), .int .i64 (sure : Int), .string T])).set k (recsR (some ⟨gs, 0, none⟩) 1 [T]))[i]? = some (rowR gl (.pointer (some ⟨g, 0, none⟩)) [.int .i64 (1 - (which : Int)), .int .i64 age, .int .i64 (pages : Int), .slice ql recs.length cl, .int .i64 (written : Int), .int .i64 (sure : Int), .string T]) by rw [List.getElem?_set_ne (Ne.symm HIK.out), List.getElem?_set_self HIL.out]))
      go_wp2_with fail
      replace hE := hE.putRow i (show ((lj.set i (rowR gl (.pointer (some ⟨g, 0, none⟩)) [.int .i64 (1 - (which : Int)), .int .i64 age, .int .i64 (pages : Int), .slice ql recs.length cl, .int .i64 (written : Int), .int .i64 (sure : Int), .string T])).set k (recsR (some ⟨gs, 0, none⟩) 1 [T]))[i]? = some (rowR gl (.pointer (some ⟨g, 0, none⟩)) [.int .i64 (1 - (which : Int)), .int .i64 age, .int .i64 (pages : Int), .slice ql recs.length cl, .int .i64 (written : Int), .int .i64 (sure : Int), .string T]) by rw [List.getElem?_set_ne (Ne.symm HIK.out), List.getElem?_set_self HIL.out]) 4 (.slice (some ⟨gs, 0, none⟩) 1 1) (.pointer (some ⟨g, 0, none⟩)) [.int .i64 (1 - (which : Int)), .int .i64 age, .int .i64 (pages : Int), .slice (some ⟨gs, 0, none⟩) 1 1, .int .i64 (written : Int), .int .i64 (sure : Int), .string T] (by simp) rfl
      rw [set_set_ne _ _ _ (Ne.symm HIK.out), List.set_set] at hE
      have hp2 : RowEnds gl (.pointer (some ⟨g, 0, none⟩)) (.string T) _ := ⟨_, _, _, _, _, _, hE.get i (show ((lj.set i (rowR gl (.pointer (some ⟨g, 0, none⟩)) [.int .i64 (1 - (which : Int)), .int .i64 age, .int .i64 (pages : Int), .slice (some ⟨gs, 0, none⟩) 1 1, .int .i64 (written : Int), .int .i64 (sure : Int), .string T])).set k (recsR (some ⟨gs, 0, none⟩) 1 [T]))[i]? = some (rowR gl (.pointer (some ⟨g, 0, none⟩)) [.int .i64 (1 - (which : Int)), .int .i64 age, .int .i64 (pages : Int), .slice (some ⟨gs, 0, none⟩) 1 1, .int .i64 (written : Int), .int .i64 (sure : Int), .string T]) by rw [List.getElem?_set_ne (Ne.symm HIK.out), List.getElem?_set_self HIL.out])⟩
      refine ⟨.inr fun _ => hp2, ?_⟩
      clear a0 a1 a2 a3 a4 a5 a6 a7 e0 e1 e2 e3 e4 e5 e6 e7 hp1
      have hp1 := hp2
      clear hp2
      generalize World.setCell _ _ _ = wb at *
      refine wpAnyTS_quiet 19 2 1 51 (by rfl) (by kernel_rfl) (fun _ _ _ _ _ h => h) (by kernel_rfl) (by kernel_rfl) ?_
      apply Exists.intro
      refine ⟨fun w2' hw2 => ?_, ?_⟩
      · have hne := laterR_ne (R := Up) rok_upQ w2'
        obtain ⟨v1, v2, v3, v4, v5, v6, hr2⟩ := hw2 hp1
        obtain ⟨b0, b1, b2, b3, b4, b5, b6, b7, -⟩ := RowAt.c8 hr2
        have l7 := laterU b7
        clear b0 b1 b2 b3 b4 b5 b6 b7 hr2
        simp only [List.drop_succ_cons, List.drop_zero, List.take_succ_cons, List.take_zero]
        repeat (go_big_quiet_step (fail))
        exact wpQuiet_nil rfl
      refine wpAnyTS_some 21 [] 0 (by rfl) (by kernel_rfl) (by kernel_rfl) ?_
      intro w2 hu2
      replace hp1 := rowEnds_up hu2 hp1
      replace hE := hE.next hu2
      clear hu2
      refine ⟨?_, trivial⟩
      simp only [List.drop_succ_cons, List.drop_zero, List.take_succ_cons, List.take_zero]
      obtain ⟨a0, a1, a2, a3, a4, a5, a6, a7, e0, e1, e2, e3, e4, e5, e6, e7⟩ := RowAt.c8 (hE.get i (show ((lj.set i (rowR gl (.pointer (some ⟨g, 0, none⟩)) [.int .i64 (1 - (which : Int)), .int .i64 age, .int .i64 (pages : Int), .slice (some ⟨gs, 0, none⟩) 1 1, .int .i64 (written : Int), .int .i64 (sure : Int), .string T])).set k (recsR (some ⟨gs, 0, none⟩) 1 [T]))[i]? = some (rowR gl (.pointer (some ⟨g, 0, none⟩)) [.int .i64 (1 - (which : Int)), .int .i64 age, .int .i64 (pages : Int), .slice (some ⟨gs, 0, none⟩) 1 1, .int .i64 (written : Int), .int .i64 (sure : Int), .string T]) by rw [List.getElem?_set_ne (Ne.symm HIK.out), List.getElem?_set_self HIL.out]))
      go_wp2_with fail
      replace hE := hE.putRow i (show ((lj.set i (rowR gl (.pointer (some ⟨g, 0, none⟩)) [.int .i64 (1 - (which : Int)), .int .i64 age, .int .i64 (pages : Int), .slice (some ⟨gs, 0, none⟩) 1 1, .int .i64 (written : Int), .int .i64 (sure : Int), .string T])).set k (recsR (some ⟨gs, 0, none⟩) 1 [T]))[i]? = some (rowR gl (.pointer (some ⟨g, 0, none⟩)) [.int .i64 (1 - (which : Int)), .int .i64 age, .int .i64 (pages : Int), .slice (some ⟨gs, 0, none⟩) 1 1, .int .i64 (written : Int), .int .i64 (sure : Int), .string T]) by rw [List.getElem?_set_ne (Ne.symm HIK.out), List.getElem?_set_self HIL.out]) 5 (.int .i64 1) (.pointer (some ⟨g, 0, none⟩)) [.int .i64 (1 - (which : Int)), .int .i64 age, .int .i64 (pages : Int), .slice (some ⟨gs, 0, none⟩) 1 1, .int .i64 1, .int .i64 (sure : Int), .string T] (by simp) rfl
      rw [set_set_ne _ _ _ (Ne.symm HIK.out), List.set_set] at hE
      have hp2 : RowEnds gl (.pointer (some ⟨g, 0, none⟩)) (.string T) _ := ⟨_, _, _, _, _, _, hE.get i (show ((lj.set i (rowR gl (.pointer (some ⟨g, 0, none⟩)) [.int .i64 (1 - (which : Int)), .int .i64 age, .int .i64 (pages : Int), .slice (some ⟨gs, 0, none⟩) 1 1, .int .i64 1, .int .i64 (sure : Int), .string T])).set k (recsR (some ⟨gs, 0, none⟩) 1 [T]))[i]? = some (rowR gl (.pointer (some ⟨g, 0, none⟩)) [.int .i64 (1 - (which : Int)), .int .i64 age, .int .i64 (pages : Int), .slice (some ⟨gs, 0, none⟩) 1 1, .int .i64 1, .int .i64 (sure : Int), .string T]) by rw [List.getElem?_set_ne (Ne.symm HIK.out), List.getElem?_set_self HIL.out])⟩
      refine ⟨.inr fun _ => hp2, ?_⟩
      clear a0 a1 a2 a3 a4 a5 a6 a7 e0 e1 e2 e3 e4 e5 e6 e7 hp1
      have hp1 := hp2
      clear hp2
      generalize World.setCell _ _ _ = wb at *
      refine wpAnyTS_done (by kernel_rfl) ?_
      intro w6 hu6
      replace hE := hE.next hu6
      clear hu6 hp1
      have hrs := recs_all hE (show ((lj.set i (rowR gl (.pointer (some ⟨g, 0, none⟩)) [.int .i64 (1 - (which : Int)), .int .i64 age, .int .i64 (pages : Int), .slice (some ⟨gs, 0, none⟩) 1 1, .int .i64 1, .int .i64 (sure : Int), .string T])).set k (recsR (some ⟨gs, 0, none⟩) 1 [T]))[k]? = some (recsR (some ⟨gs, 0, none⟩) 1 [T]) from List.getElem?_set_self (by rw [List.length_set]; exact HKL.out))
      have CF := Lib.hid (show Calls Try.prog 45 #[.slice (some ⟨gs, 0, none⟩) 1 1] w6 _ from wal_framed (c := 1) [T] hrs (fun x hx => by obtain rfl := List.mem_singleton.1 hx; exact ht) (show 1 ≤ 100000 by decide))
      have CN := Lib.hid (fun w => HN.out ▸ wal_need (frameW [T]).size (HFZ.out) w)
      clear hrs
      obtain ⟨a0, a1, a2, a3, a4, a5, a6, a7, e0, e1, e2, e3, e4, e5, e6, e7⟩ := RowAt.c8 (hE.get i (show ((lj.set i (rowR gl (.pointer (some ⟨g, 0, none⟩)) [.int .i64 (1 - (which : Int)), .int .i64 age, .int .i64 (pages : Int), .slice (some ⟨gs, 0, none⟩) 1 1, .int .i64 1, .int .i64 (sure : Int), .string T])).set k (recsR (some ⟨gs, 0, none⟩) 1 [T]))[i]? = some (rowR gl (.pointer (some ⟨g, 0, none⟩)) [.int .i64 (1 - (which : Int)), .int .i64 age, .int .i64 (pages : Int), .slice (some ⟨gs, 0, none⟩) 1 1, .int .i64 1, .int .i64 (sure : Int), .string T]) by rw [List.getElem?_set_ne (Ne.symm HIK.out), List.getElem?_set_self HIL.out]))
      go_upto_region 4 with (first
        | ((with_reducible refine CF.out.mono ?_); rintro e w7 ⟨rfl, hu7⟩; replace hE := hE.next hu7; clear hu7 CF a0 a1 a2 a3 a4 a5 a6 a7 e0 e1 e2 e3 e4 e5 e6 e7; obtain ⟨a0, a1, a2, a3, a4, a5, a6, a7, e0, e1, e2, e3, e4, e5, e6, e7⟩ := RowAt.c8 (hE.get i (show ((lj.set i (rowR gl (.pointer (some ⟨g, 0, none⟩)) [.int .i64 (1 - (which : Int)), .int .i64 age, .int .i64 (pages : Int), .slice (some ⟨gs, 0, none⟩) 1 1, .int .i64 1, .int .i64 (sure : Int), .string T])).set k (recsR (some ⟨gs, 0, none⟩) 1 [T]))[i]? = some (rowR gl (.pointer (some ⟨g, 0, none⟩)) [.int .i64 (1 - (which : Int)), .int .i64 age, .int .i64 (pages : Int), .slice (some ⟨gs, 0, none⟩) 1 1, .int .i64 1, .int .i64 (sure : Int), .string T]) by rw [List.getElem?_set_ne (Ne.symm HIK.out), List.getElem?_set_self HIL.out])))
        | ((with_reducible refine (CN.out _).mono ?_); rintro e w8 ⟨rfl, rfl⟩))
      have hF := hE.putRow i (show ((lj.set i (rowR gl (.pointer (some ⟨g, 0, none⟩)) [.int .i64 (1 - (which : Int)), .int .i64 age, .int .i64 (pages : Int), .slice (some ⟨gs, 0, none⟩) 1 1, .int .i64 1, .int .i64 (sure : Int), .string T])).set k (recsR (some ⟨gs, 0, none⟩) 1 [T]))[i]? = some (rowR gl (.pointer (some ⟨g, 0, none⟩)) [.int .i64 (1 - (which : Int)), .int .i64 age, .int .i64 (pages : Int), .slice (some ⟨gs, 0, none⟩) 1 1, .int .i64 1, .int .i64 (sure : Int), .string T]) by rw [List.getElem?_set_ne (Ne.symm HIK.out), List.getElem?_set_self HIL.out]) 3 (.int .i64 (N : Int)) (.pointer (some ⟨g, 0, none⟩)) [.int .i64 (1 - (which : Int)), .int .i64 age, .int .i64 (N : Int), .slice (some ⟨gs, 0, none⟩) 1 1, .int .i64 1, .int .i64 (sure : Int), .string T] (by simp) rfl
      rw [set_set_ne _ _ _ (Ne.symm HIK.out), List.set_set] at hF
      replace hF := hF.putRow i (show ((lj.set i (rowR gl (.pointer (some ⟨g, 0, none⟩)) [.int .i64 (1 - (which : Int)), .int .i64 age, .int .i64 (N : Int), .slice (some ⟨gs, 0, none⟩) 1 1, .int .i64 1, .int .i64 (sure : Int), .string T])).set k (recsR (some ⟨gs, 0, none⟩) 1 [T]))[i]? = some (rowR gl (.pointer (some ⟨g, 0, none⟩)) [.int .i64 (1 - (which : Int)), .int .i64 age, .int .i64 (N : Int), .slice (some ⟨gs, 0, none⟩) 1 1, .int .i64 1, .int .i64 (sure : Int), .string T]) by rw [List.getElem?_set_ne (Ne.symm HIK.out), List.getElem?_set_self HIL.out]) 7 (.string ByteArray.empty) (.pointer (some ⟨g, 0, none⟩)) [.int .i64 (1 - (which : Int)), .int .i64 age, .int .i64 (N : Int), .slice (some ⟨gs, 0, none⟩) 1 1, .int .i64 1, .int .i64 (sure : Int), .string ByteArray.empty] (by simp) rfl
      rw [set_set_ne _ _ _ (Ne.symm HIK.out), List.set_set] at hF
      clear hE CN a0 a1 a2 a3 a4 a5 a6 a7 e0 e1 e2 e3 e4 e5 e6 e7
      replace hF : Hold W (World.setCell (World.setCell _ ⟨gl, 3, none⟩ (.int .i64 (N : Int))) ⟨gl, 7, none⟩ (.string ⟨#[]⟩)) _ := hF
      generalize World.setCell _ _ _ = wc at *
      obtain ⟨a0, a1, a2, a3, a4, a5, a6, a7, e0, e1, e2, e3, e4, e5, e6, e7⟩ := RowAt.c8 (hF.get i (show ((lj.set i (rowR gl (.pointer (some ⟨g, 0, none⟩)) [.int .i64 (1 - (which : Int)), .int .i64 age, .int .i64 (N : Int), .slice (some ⟨gs, 0, none⟩) 1 1, .int .i64 1, .int .i64 (sure : Int), .string ByteArray.empty])).set k (recsR (some ⟨gs, 0, none⟩) 1 [T]))[i]? = some (rowR gl (.pointer (some ⟨g, 0, none⟩)) [.int .i64 (1 - (which : Int)), .int .i64 age, .int .i64 (N : Int), .slice (some ⟨gs, 0, none⟩) 1 1, .int .i64 1, .int .i64 (sure : Int), .string ByteArray.empty]) by rw [List.getElem?_set_ne (Ne.symm HIK.out), List.getElem?_set_self HIL.out]))
      have hE := hF.putRow i (show ((lj.set i (rowR gl (.pointer (some ⟨g, 0, none⟩)) [.int .i64 (1 - (which : Int)), .int .i64 age, .int .i64 (N : Int), .slice (some ⟨gs, 0, none⟩) 1 1, .int .i64 1, .int .i64 (sure : Int), .string ByteArray.empty])).set k (recsR (some ⟨gs, 0, none⟩) 1 [T]))[i]? = some (rowR gl (.pointer (some ⟨g, 0, none⟩)) [.int .i64 (1 - (which : Int)), .int .i64 age, .int .i64 (N : Int), .slice (some ⟨gs, 0, none⟩) 1 1, .int .i64 1, .int .i64 (sure : Int), .string ByteArray.empty]) by rw [List.getElem?_set_ne (Ne.symm HIK.out), List.getElem?_set_self HIL.out]) 6 (.int .i64 1) (.pointer (some ⟨g, 0, none⟩)) [.int .i64 (1 - (which : Int)), .int .i64 age, .int .i64 (N : Int), .slice (some ⟨gs, 0, none⟩) 1 1, .int .i64 1, .int .i64 1, .string ByteArray.empty] (by simp) rfl
      rw [set_set_ne _ _ _ (Ne.symm HIK.out), List.set_set] at hE
      go_wp2_with fail
      go_end0
      refine ⟨rfl, some ⟨gs, 0, none⟩, 1, ?_⟩
      rw [← HS.out]
      show Hold W _ ((lj.set i (rowR gl _ [.int .i64 ((1 - which : Nat) : Int), .int .i64 age, .int .i64 (N : Int), .slice (some ⟨gs, 0, none⟩) 1 1, .int .i64 ((1 : Nat) : Int), .int .i64 ((1 : Nat) : Int), .string ByteArray.empty])).set k _)
      rw [hw2]
      exact hE
end Go.Proofs.Ytokpkkjgagbpfaa
namespace Bw
open Go Go.RowKit
set_option linter.unusedVariables false
theorem recs_one {w : World} {b : Nat} {s : ByteArray} (h : RowAt w b [.string s]) : RecsAt w (some ⟨b, 0, none⟩) [s] := fun _ => by
  refine ⟨b, 0, rfl, fun i hi => ?_⟩
  have h0 : i = 0 := by
    have h1 : i < 1 := hi
    omega
  subst h0
  exact h.cell 0 (by simp)
def RowIs (gl : Nat) (v : Value) (vs : List Value) (w : World) : Prop := RowAt w gl (v :: vs)
theorem rowIs_up {gl : Nat} {v : Value} {vs : List Value} {a b : World} (h : Up a b) (hp : RowIs gl v vs a) : RowIs gl v vs b := RowAt.up hp h
end Bw
namespace Go.Proofs.Ytokpkkjgagbpfaa
open Go.RowKit Bw
set_option linter.unusedVariables false
set_option maxRecDepth 100000
variable {W w : World} {l : List Res} {g a c gl cl : Nat} {q : Option Nat} {ql : Option Addr} {d : DiskD} {L : LogD}
set_option maxHeartbeats 4000000 in
theorem wal_Turn (h : Hold W w l) (i : Nat) (hi : l[i]? = some (logRow gl (.pointer (some ⟨g, 0, none⟩)) L ql cl)) (j : Nat) (hj : l[j]? = some (diskR g a q c d)) (hij : i ≠ j) (hc : c + 100000000 ≤ 1099511627776) (hok : d.Ok)
    (hA : 0 ≤ L.age ∧ L.age + 1 < 281474976710656) (hw : L.which ≤ 1) (s : ByteArray) (hs : s.size ≤ 1099511627776) :
    Calls Try.prog 20 #[.pointer (some ⟨gl, 0, none⟩), .string s] w fun e w' => e = .returned (.int .i64 (L.turnE d s)) ∧ ∃ q' c', c' ≤ c + 1000 ∧ Hold W w' ((l.set i (logRow gl (.pointer (some ⟨g, 0, none⟩)) (L.turn d s) ql cl)).set j (diskR g a q' c' (L.turnD d s))) := by
  have hrow := h.get i hi
  have CW := Lib.hid (wal_why h i hi s hs)
  obtain ⟨E0, hE0⟩ : ∃ E0, L.why s = E0 := ⟨_, rfl⟩
  rw [hE0] at CW
  by_cases hz : E0 = 0
  · by_cases hsu : L.sure < L.recs.length
    · have hE : L.turnE d s = 9 := by unfold LogD.turnE; rw [if_neg (by rw [hE0]; exact fun h => h hz), if_pos hsu]
      have hL : L.turn d s = L := by unfold LogD.turn; rw [if_neg (by rw [hE]; decide)]
      have hD : L.turnD d s = d := by unfold LogD.turnD; rw [if_neg (by rw [hE]; decide)]
      have hH : Hold W w ((l.set i (logRow gl (.pointer (some ⟨g, 0, none⟩)) L ql cl)).set j (diskR g a q c d)) := by
        rw [set_same hi, set_same hj]; exact h
      have HF := Lib.hid hH
      rw [hL, hD]
      clear hH hL hD
      rw [hE]
      obtain ⟨which, age, pages, recs, written, sure, turned⟩ := L
      obtain ⟨a0, a1, a2, a3, a4, a5, a6, a7, e0, e1, e2, e3, e4, e5, e6, e7⟩ := RowAt.c8 hrow
      subst hz
      have hsu' : (sure : Int) < (recs.length : Int) := by have : sure < recs.length := hsu; omega
      clear hrow hi hj h hE hE0
      go_enter Try.func20, Try.ntmps20
      go_upto_region 4 with ((with_reducible refine CW.out.mono ?_); rintro e wn ⟨rfl, rfl⟩)
      refine wp_region_later (by kernel_rfl) (by kernel_rfl) ?_
      have l4 := Later.cell_of a4
      have l6 := Later.cell_of a6
      have hne := later_ne w
      repeat (go_big_quiet_step (fail))
      refine wpQuiet_nil ?_
      rintro w9 ⟨u9, rfl⟩
      have hX := HF.out.next u9.up
      clear l4 l6 hne a0 a1 a2 a3 a4 a5 a6 a7 e0 e1 e2 e3 e4 e5 e6 e7 CW HF
      generalize u9.world = w9 at *
      go_wp2_with fail
      go_ret
      exact ⟨rfl, q, c, by omega, hX⟩
    · by_cases hbig : d.halfN < needW (frameL [s]).length
      · have hE : L.turnE d s = 6 := by unfold LogD.turnE; rw [if_neg (by rw [hE0]; exact fun h => h hz), if_neg hsu, if_pos hbig]
        have hL : L.turn d s = L := by unfold LogD.turn; rw [if_neg (by rw [hE]; decide)]
        have hD : L.turnD d s = d := by unfold LogD.turnD; rw [if_neg (by rw [hE]; decide)]
        have hres : (l.set i (logRow gl (.pointer (some ⟨g, 0, none⟩)) L ql cl)).set j (diskR g a q c d) = l := by rw [set_same hi, set_same hj]
        rw [hE, hL, hD]
        have HRes := Lib.hid hres
        clear hres hL hD
        have hF2 : frameL [s] = lst (frameW [s]) := by unfold frameW; rw [lst_str]
        rw [hF2, lst_length] at hbig
        have hs2 : s.size ≤ 100000 := by
          unfold LogD.why at hE0
          rcases Nat.lt_or_ge 100000 s.size with h | h
          · rw [if_pos (.inr h)] at hE0; subst hz; cases hE0
          · exact h
        obtain ⟨which, age, pages, recs, written, sure, turned⟩ := L
        obtain ⟨a0, a1, a2, a3, a4, a5, a6, a7, e0, e1, e2, e3, e4, e5, e6, e7⟩ := RowAt.c8 hrow
        subst hz
        have hsu' : ¬ (sure : Int) < (recs.length : Int) := by have : ¬ sure < recs.length := hsu; omega
        have hfz : (frameW [s]).size ≤ 100003 * 1 := frameW_size [s] (fun x hx => by obtain rfl := List.mem_singleton.1 hx; exact hs2)
        obtain ⟨N, hN⟩ : ∃ N, needW (frameW [s]).size = N := ⟨_, rfl⟩
        obtain ⟨H, hH⟩ : ∃ H, d.halfN = H := ⟨_, rfl⟩
        have hH512 : H ≤ 512 := by have := hok.n2; unfold DiskD.halfN at hH; omega
        have CS := Lib.hid (fun w (hh : Hold W w l) => hH ▸ wal_size hh i hi j hj hok)
        have CN := Lib.hid (fun w => hN ▸ wal_need (frameW [s]).size (by omega) w)
        have CFF := Lib.hid (fun (w : World) (b : Nat) (hr : RowAt w b [.string s]) => show Calls Try.prog 45 #[.slice (some ⟨b, 0, none⟩) 1 1] w _ from wal_framed (c := 1) [s] (recs_one hr) (fun x hx => by obtain rfl := List.mem_singleton.1 hx; exact hs2) (show 1 ≤ 100000 by decide))
        rw [hN, hH] at hbig
        have HX0 := Lib.hid h
        have HNN := Lib.hid hN
        have HHH := Lib.hid hH
        have HI := Lib.hid (show l[i]? = some (rowR gl (.pointer (some ⟨g, 0, none⟩)) [.int .i64 (which : Int), .int .i64 age, .int .i64 (pages : Int), .slice ql recs.length cl, .int .i64 (written : Int), .int .i64 (sure : Int), .string turned]) from hi)
        have HJ := Lib.hid hj
        clear hN hH
        clear hrow hi hj h hE hE0
        go_enter Try.func20, Try.ntmps20
        go_upto_region 4 with ((with_reducible refine CW.out.mono ?_); rintro e wn ⟨rfl, rfl⟩)
        refine wp_region_later (by kernel_rfl) (by kernel_rfl) ?_
        have l4 := Later.cell_of a4
        have l6 := Later.cell_of a6
        have hne := later_ne w
        repeat (go_big_quiet_step (fail))
        refine wpQuiet_nil ?_
        rintro w9 ⟨u9, rfl⟩
        have hX := HX0.out.next u9.up
        clear l4 l6 hne a0 a1 a2 a3 a4 a5 a6 a7 e0 e1 e2 e3 e4 e5 e6 e7 CW HX0
        generalize u9.world = w9 at *
        have rb := RowAt.made w9 9 [.string s]
        have CF := Lib.hid (CFF.out _ _ rb)
        clear rb
        have hbig' : (N : Int) > (H : Int) := by omega
        go_wp2_with (first
          | ((with_reducible refine CF.out.mono ?_); rintro e w10 ⟨rfl, hu10⟩; replace hX := (hX.next ((Up.refl _).alloc (.cells #[.string s] 9))).next hu10; clear CF hu10)
          | ((with_reducible refine (CN.out _).mono ?_); rintro e w11 ⟨rfl, rfl⟩)
          | ((with_reducible refine (CS.out _ hX).mono ?_); rintro e w12 ⟨rfl, rfl⟩))
        go_ret
        refine ⟨rfl, q, c, by omega, ?_⟩
        rw [HRes.out]
        exact hX
      · have hE : L.turnE d s = 0 := by unfold LogD.turnE; rw [if_neg (by rw [hE0]; exact fun h => h hz), if_neg hsu, if_neg hbig]
        have hL : L.turn d s = { L with age := L.age + 1, turned := s } := by unfold LogD.turn; rw [if_pos hE]
        have hD : L.turnD d s = layD d (L.age + 1) (1 - L.which) 0 (frameW [s]) := by unfold LogD.turnD; rw [if_pos hE]
        rw [hE, hL, hD]
        clear hL hD
        have hF2 : frameL [s] = lst (frameW [s]) := by unfold frameW; rw [lst_str]
        rw [hF2, lst_length] at hbig
        have hs2 : s.size ≤ 100000 := by
          unfold LogD.why at hE0
          rcases Nat.lt_or_ge 100000 s.size with h | h
          · rw [if_pos (.inr h)] at hE0; subst hz; cases hE0
          · exact h
        obtain ⟨which, age, pages, recs, written, sure, turned⟩ := L
        obtain ⟨a0, a1, a2, a3, a4, a5, a6, a7, e0, e1, e2, e3, e4, e5, e6, e7⟩ := RowAt.c8 hrow
        subst hz
        have hsu' : ¬ (sure : Int) < (recs.length : Int) := by have : ¬ sure < recs.length := hsu; omega
        have hfz : (frameW [s]).size ≤ 100003 * 1 := frameW_size [s] (fun x hx => by obtain rfl := List.mem_singleton.1 hx; exact hs2)
        obtain ⟨N, hN⟩ : ∃ N, needW (frameW [s]).size = N := ⟨_, rfl⟩
        obtain ⟨H, hH⟩ : ∃ H, d.halfN = H := ⟨_, rfl⟩
        have hH512 : H ≤ 512 := by have := hok.n2; unfold DiskD.halfN at hH; omega
        have CS := Lib.hid (fun w (hh : Hold W w l) => hH ▸ wal_size hh i hi j hj hok)
        have CN := Lib.hid (fun w => hN ▸ wal_need (frameW [s]).size (by omega) w)
        have CFF := Lib.hid (fun (w : World) (b : Nat) (hr : RowAt w b [.string s]) => show Calls Try.prog 45 #[.slice (some ⟨b, 0, none⟩) 1 1] w _ from wal_framed (c := 1) [s] (recs_one hr) (fun x hx => by obtain rfl := List.mem_singleton.1 hx; exact hs2) (show 1 ≤ 100000 by decide))
        rw [hN, hH] at hbig
        have HX0 := Lib.hid h
        have HNN := Lib.hid hN
        have HHH := Lib.hid hH
        have HI := Lib.hid (show l[i]? = some (rowR gl (.pointer (some ⟨g, 0, none⟩)) [.int .i64 (which : Int), .int .i64 age, .int .i64 (pages : Int), .slice ql recs.length cl, .int .i64 (written : Int), .int .i64 (sure : Int), .string turned]) from hi)
        have HJ := Lib.hid hj
        clear hN hH
        clear hrow hi hj h hE hE0
        go_enter Try.func20, Try.ntmps20
        go_upto_region 4 with ((with_reducible refine CW.out.mono ?_); rintro e wn ⟨rfl, rfl⟩)
        refine wp_region_later (by kernel_rfl) (by kernel_rfl) ?_
        have l4 := Later.cell_of a4
        have l6 := Later.cell_of a6
        have hne := later_ne w
        repeat (go_big_quiet_step (fail))
        refine wpQuiet_nil ?_
        rintro w9 ⟨u9, rfl⟩
        have hX := HX0.out.next u9.up
        clear l4 l6 hne a0 a1 a2 a3 a4 a5 a6 a7 e0 e1 e2 e3 e4 e5 e6 e7 CW HX0
        generalize u9.world = w9 at *
        have rb := RowAt.made w9 9 [.string s]
        have CF := Lib.hid (CFF.out _ _ rb)
        clear rb
        try simp only at hA hw
        have hbig' : ¬ (N : Int) > (H : Int) := by omega
        go_upto_region 8 with (first
          | ((with_reducible refine CF.out.mono ?_); rintro e w10 ⟨rfl, hu10⟩; replace hX := (hX.next ((Up.refl _).alloc (.cells #[.string s] 9))).next hu10; clear CF hu10)
          | ((with_reducible refine (CN.out _).mono ?_); rintro e w11 ⟨rfl, rfl⟩)
          | ((with_reducible refine (CS.out _ hX).mono ?_); rintro e w12 ⟨rfl, rfl⟩))
        obtain ⟨a0, a1, a2, a3, a4, a5, a6, a7, e0, e1, e2, e3, e4, e5, e6, e7⟩ := RowAt.c8 (hX.get i HI.out)
        go_upto_region 9 with fail
        replace hX := hX.putRow i HI.out 2 (.int .i64 (age + 1)) (.pointer (some ⟨g, 0, none⟩)) [.int .i64 (which : Int), .int .i64 (age + 1), .int .i64 (pages : Int), .slice ql recs.length cl, .int .i64 (written : Int), .int .i64 (sure : Int), .string turned] (by simp) rfl
        clear a0 a1 a2 a3 a4 a5 a6 a7 e0 e1 e2 e3 e4 e5 e6 e7
        generalize World.setCell _ _ _ = w13 at *
        have hil : i < l.length := (List.getElem?_eq_some_iff.1 HI.out).1
        have hia : (l.set i (rowR gl (.pointer (some ⟨g, 0, none⟩)) [.int .i64 (which : Int), .int .i64 (age + 1), .int .i64 (pages : Int), .slice ql recs.length cl, .int .i64 (written : Int), .int .i64 (sure : Int), .string turned]))[i]? = some (rowR gl (.pointer (some ⟨g, 0, none⟩)) [.int .i64 (which : Int), .int .i64 (age + 1), .int .i64 (pages : Int), .slice ql recs.length cl, .int .i64 (written : Int), .int .i64 (sure : Int), .string turned]) := List.getElem?_set_self hil
        have hja : (l.set i (rowR gl (.pointer (some ⟨g, 0, none⟩)) [.int .i64 (which : Int), .int .i64 (age + 1), .int .i64 (pages : Int), .slice ql recs.length cl, .int .i64 (written : Int), .int .i64 (sure : Int), .string turned]))[j]? = some (diskR g a q c d) := (List.getElem?_set_ne hij).trans HJ.out
        refine wp_region_two Up (Keeps (RowIs gl (.pointer (some ⟨g, 0, none⟩)) [.int .i64 (which : Int), .int .i64 (age + 1), .int .i64 (pages : Int), .slice ql recs.length cl, .int .i64 (written : Int), .int .i64 (sure : Int), .string turned])) (keeps_ok rowIs_up) (by kernel_rfl) (by kernel_rfl) (by kernel_rfl) ?_
        replace hX := hX.next ((Up.refl _).drew)
        have hp1 : RowIs gl (.pointer (some ⟨g, 0, none⟩)) [.int .i64 (which : Int), .int .i64 (age + 1), .int .i64 (pages : Int), .slice ql recs.length cl, .int .i64 (written : Int), .int .i64 (sure : Int), .string turned] w13.drew := hX.get i hia
        generalize w13.drew = w14 at *
        refine wpAnyTS_quiet 0 2 8 54 (by rfl) (by kernel_rfl) (fun _ _ _ _ _ h => h) (by kernel_rfl) (by kernel_rfl) ?_
        apply Exists.intro
        refine ⟨fun w2' hw2 => ?_, ?_⟩
        · have hne := laterR_ne (R := Up) rok_upQ w2'
          obtain ⟨b0, b1, b2, b3, b4, b5, b6, b7, -⟩ := RowAt.c8 (hw2 hp1)
          have l1 := laterU b1
          clear b0 b1 b2 b3 b4 b5 b6 b7
          simp only [List.drop_zero, List.take_succ_cons, List.take_zero]
          repeat (go_big_quiet_step (fail))
          exact wpQuiet_nil rfl
        refine wpAnyTS_quiet 4 5 3 54 (by rfl) (by kernel_rfl) (fun _ _ _ _ _ h => h) (by kernel_rfl) (by kernel_rfl) ?_
        apply Exists.intro
        refine ⟨fun w2' hw2 => ?_, ?_⟩
        · have hne := laterR_ne (R := Up) rok_upQ w2'
          obtain ⟨b0, b1, b2, b3, b4, b5, b6, b7, -⟩ := RowAt.c8 (hw2 hp1)
          have l1 := laterU b1
          clear b0 b1 b2 b3 b4 b5 b6 b7
          simp only [List.drop_succ_cons, List.drop_zero, List.take_succ_cons, List.take_zero]
          repeat (go_big_quiet_step (fail))
          exact wpQuiet_nil rfl
        refine wpAnyTS_some 2 [] 2 (by rfl) (by kernel_rfl) (by kernel_rfl) ?_
        intro w15 hu15
        refine ⟨?_, trivial⟩
        replace hX := (hX.next hu15).next ((Up.refl _).alloc (.cells #[.string s] 9))
        have rb := RowAt.made w15 9 [.string s]
        simp only [List.drop_succ_cons, List.drop_zero, List.take_succ_cons, List.take_zero]
        go_wp2_with fail
        refine ⟨.inr fun h => rowIs_up ((Up.refl _).alloc _) h, ?_⟩
        generalize w15.heap.size = gs at *
        generalize w15.alloc _ = w16 at *
        refine wpAnyTS_some 3 [] 1 (by rfl) (by kernel_rfl) (by kernel_rfl) ?_
        intro w17 hu17
        refine ⟨?_, trivial⟩
        replace hX := hX.next hu17
        replace rb := rb.up hu17
        have CF := Lib.hid (CFF.out _ _ rb)
        simp only [List.drop_succ_cons, List.drop_zero, List.take_succ_cons, List.take_zero]
        go_wp2_with ((with_reducible refine CF.out.mono ?_); rintro e w18 ⟨rfl, hu18⟩)
        refine ⟨.inr fun h => rowIs_up hu18 h, ?_⟩
        replace hX := hX.next hu18
        clear CF rb hu17 hu15 hu18 hp1
        refine wpAnyTS_some 9 [] 0 (by rfl) (by kernel_rfl) (by kernel_rfl) ?_
        intro w19 hu19
        refine ⟨?_, trivial⟩
        replace hX := hX.next hu19
        have hw1 : ((1 - which : Nat) : Int) = 1 - (which : Int) := by omega
        have hfz2 := hfz
        have hneed : needW (frameW [s]).size ≤ 512 := by rw [HNN.out]; omega
        have HL := wal_lay (L := ⟨which, age + 1, pages, recs, written, sure, turned⟩) hX i hia j hja hij hc hok (by constructor <;> (simp only; omega)) (1 - which) 0 (by omega) (by omega) (frameW [s]) (by omega) (by omega)
        rw [hw1] at HL
        have HL2 := Lib.hid (show Calls Try.prog 49 #[.pointer (some ⟨gl, 0, none⟩), .string (frameW [s]), .int .i64 (1 - (which : Int)), .int .i64 0] w19 _ from HL)
        clear HL
        simp only [List.drop_succ_cons, List.drop_zero, List.take_succ_cons, List.take_zero]
        go_wp2_with ((with_reducible refine HL2.out.mono ?_); rintro e w20 ⟨rfl, q3, hE⟩)
        have hib : ((l.set i (rowR gl (.pointer (some ⟨g, 0, none⟩)) [.int .i64 (which : Int), .int .i64 (age + 1), .int .i64 (pages : Int), .slice ql recs.length cl, .int .i64 (written : Int), .int .i64 (sure : Int), .string turned])).set j (diskR g a q3 (c + needW (frameW [s]).size) (layD d (age + 1) (1 - which) 0 (frameW [s]))))[i]? = some (rowR gl (.pointer (some ⟨g, 0, none⟩)) [.int .i64 (which : Int), .int .i64 (age + 1), .int .i64 (pages : Int), .slice ql recs.length cl, .int .i64 (written : Int), .int .i64 (sure : Int), .string turned]) := (List.getElem?_set_ne (Ne.symm hij)).trans hia
        refine ⟨.inr fun _ => hE.get i hib, ?_⟩
        refine wpAnyTS_done (by kernel_rfl) ?_
        intro w21 hu21
        replace hE := hE.next hu21
        clear HL2 hX hu19 hu21
        obtain ⟨a0, a1, a2, a3, a4, a5, a6, a7, e0, e1, e2, e3, e4, e5, e6, e7⟩ := RowAt.c8 (hE.get i hib)
        have hF := hE.putRow i hib 7 (.string s) (.pointer (some ⟨g, 0, none⟩)) [.int .i64 (which : Int), .int .i64 (age + 1), .int .i64 (pages : Int), .slice ql recs.length cl, .int .i64 (written : Int), .int .i64 (sure : Int), .string s] (by simp) rfl
        rw [set_set_ne _ _ _ (Ne.symm hij), List.set_set] at hF
        go_wp2_with fail
        go_ret
        exact ⟨rfl, q3, c + needW (frameW [s]).size, by omega, hF⟩
  · have hE : L.turnE d s = E0 := by unfold LogD.turnE; rw [if_pos (by rw [hE0]; exact hz), hE0]
    have hL : L.turn d s = L := by unfold LogD.turn; rw [if_neg (by rw [hE]; exact hz)]
    have hD : L.turnD d s = d := by unfold LogD.turnD; rw [if_neg (by rw [hE]; exact hz)]
    have hH : Hold W w ((l.set i (logRow gl (.pointer (some ⟨g, 0, none⟩)) L ql cl)).set j (diskR g a q c d)) := by
      rw [set_same hi, set_same hj]; exact h
    have HF := Lib.hid hH
    rw [hL, hD]
    clear hH hL hD
    rw [hE]
    have hz2 : (E0 != 0) = true := by simpa using hz
    clear hrow hi hj h hE hE0
    go_enter Try.func20, Try.ntmps20
    go_wp2_with ((with_reducible refine CW.out.mono ?_); rintro e wn ⟨rfl, rfl⟩)
    go_ret
    exact ⟨rfl, q, c, by omega, HF.out⟩
end Go.Proofs.Ytokpkkjgagbpfaa
