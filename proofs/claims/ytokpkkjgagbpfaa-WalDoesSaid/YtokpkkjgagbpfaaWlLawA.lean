/- Layer 6: Records, and the clone of a slice of records. -/
import Derived.Test.YtokpkkjgagbpfaaWlLogC
import Derived.Test.YtokpkkjgagbpfaaWlPlainA
import Derived.Test.YtokpkkjgagbpfaaOpenLaw
namespace Bw
open Go Go.RowKit
set_option linter.unusedVariables false
theorem pairwise_set {α : Type _} {P : α → α → Prop} {x : α} : ∀ {l : List α} (k : Nat), l.Pairwise P → (∀ y ∈ l, P y x ∧ P x y) → (l.set k x).Pairwise P
  | [], k, h, _ => by simp
  | y :: l, 0, h, hx => List.pairwise_cons.2 ⟨fun z hz => (hx z (List.mem_cons_of_mem _ hz)).2, (List.pairwise_cons.1 h).2⟩
  | y :: l, k + 1, h, hx => by
    obtain ⟨h1, h2⟩ := List.pairwise_cons.1 h
    refine List.pairwise_cons.2 ⟨fun z hz => ?_, pairwise_set k h2 fun z hz => hx z (List.mem_cons_of_mem _ hz)⟩
    rcases List.mem_or_eq_of_mem_set hz with hz | rfl
    · exact h1 z hz
    · exact (hx y List.mem_cons_self).1
/-- The last thing takes another one's place. -/
theorem Hold.lastAt {W w : World} {l : List Res} {R : Res} (h : Hold W w (l ++ [R])) (k : Nat) : Hold W w (l.set k R) := by
  obtain ⟨p1, -, p3⟩ := List.pairwise_append.1 h.apart
  refine ⟨h.up, fun T hT => ?_, pairwise_set k p1 fun y hy => ?_⟩
  · rcases List.mem_or_eq_of_mem_set hT with hT | rfl
    · exact h.all T (List.mem_append_left _ hT)
    · exact h.all T (List.mem_append_right _ List.mem_cons_self)
  · have := p3 y hy R List.mem_cons_self
    exact ⟨this, fun k hk hk' => this k hk' hk⟩
theorem RecsAt.cells {w : World} {q : Option Addr} {rs : List ByteArray} (h : RecsAt w q rs) : ∀ ad i u, q = some ad → (strC rs)[i]? = some u → w.cell? (ad.add i) = some u := by
  intro ad i u hq hu
  have hi : i < rs.length := by
    have := (List.getElem?_eq_some_iff.1 hu).1
    rwa [strC_length] at this
  obtain ⟨b, o, e, hc⟩ := h (fun e => by rw [e] at hi; exact absurd hi (by simp))
  rw [hq] at e
  injection e with e
  subst e
  have h1 := hc i hi
  rw [strC_get rs i hi] at hu
  rw [← hu, ← h1]
  congr 1
  unfold Addr.add
  simp
end Bw
namespace Go.Proofs.Ytokpkkjgagbpfaa
open Go.RowKit Bw
set_option linter.unusedVariables false
set_option maxRecDepth 100000
/-- A slice of records in new memory. -/
def ClonePost (w : World) (rs : List ByteArray) (e : Ending) (w' : World) : Prop := ∃ q c, e = .returned (.slice q rs.length c) ∧ Hold w w' [recsR q c rs]
set_option maxHeartbeats 1000000 in
theorem recs_Clone {w : World} {q : Option Addr} {c : Nat} (rs : List ByteArray) (h : RecsAt w q rs) (hn : rs.length ≤ 1000000) :
    Calls Try.prog 43 #[.slice q rs.length c] w (ClonePost w rs) := by
  have q22 : ∀ (w : World) (a : Option Addr) (n c n' c' : Nat), (binOp .eql 49 (.slice a n c) (.slice none n' c')).run Try.prog w = .ok (.bool a.isNone) w := fun w a n c n' c' => Lib.run_eql_slice_nil w _ _ a n c n' c' Try.underlying49
  cases q with
  | none =>
    have hz : rs = [] := by
      by_cases e : rs = []
      · exact e
      · obtain ⟨b, o, h1, -⟩ := h e
        cases h1
    subst hz
    clear h
    go_enter Try.func43, Try.ntmps43
    go_wp2_with fail
    go_ret
    exact ⟨none, 0, rfl, (Hold.start w).nilZ 9 1⟩
  | some a =>
    obtain ⟨inf, hi0', hz0, hz1, hz2⟩ := infoStr
    have hh := h.up ((Up.refl w).alloc (.cells #[] 9))
    have hD := (Hold.start w).madeZ 9 1
    generalize hm : rs.length = n at *
    have hlen : (strC rs).length = n * 1 := by rw [strC_length, hm, Nat.mul_one]
    have HM := Lib.hid hm
    clear hm h
    go_enter Try.func43, Try.ntmps43
    go_wp2_with ((with_reducible refine wpList_at 7 ?_); refine wpList_appendIn rfl _ _ 49 rfl 9 inf (.string ⟨#[]⟩) 1 16 (by kernel_rfl) hi0' hz0 hz1 hz2 rfl (by decide) hD 0 0 _ [] rfl rfl (some a) n c (strC rs) rfl hlen (fun e => by cases e) hh.cells (strC_one rs) (by unfold maxLen; omega) (by omega) ?_; intro q9 c9 w9 _ _ hw)
    go_ret
    refine ⟨q9, c9, ?_, ?_⟩
    · rw [HM.out]; rfl
    · rw [Nat.zero_add] at hw
      unfold recsR
      rw [HM.out]
      exact hw
variable {W w : World} {l : List Res} {g a c gl cl : Nat} {q : Option Nat} {ql : Option Addr} {d : DiskD} {L : LogD} {vD : Value}
theorem wal_Records (h : Hold W w l) (i : Nat) (hi : l[i]? = some (logRow gl vD L ql cl)) (k : Nat) (hk : l[k]? = some (recsR ql cl L.recs)) (hn : L.recs.length ≤ 1000000) :
    Calls Try.prog 28 #[.pointer (some ⟨gl, 0, none⟩)] w (ClonePost w L.recs) := by
  obtain ⟨a0, a1, a2, a3, a4, a5, a6, a7, e0, e1, e2, e3, e4, e5, e6, e7⟩ := RowAt.c8 (h.get i hi)
  have C := Lib.hid (recs_Clone (c := cl) L.recs (recs_all h hk) hn)
  clear h hi hk
  go_enter Try.func28, Try.ntmps28
  go_wp2_with ((with_reducible refine C.out.mono ?_); rintro e wn ⟨q9, c9, rfl, hw⟩)
  go_ret
  exact ⟨q9, c9, rfl, hw⟩
end Go.Proofs.Ytokpkkjgagbpfaa
namespace Go.Proofs.Ytokpkkjgagbpfaa
open Go.RowKit Bw
set_option linter.unusedVariables false
set_option maxRecDepth 100000
variable {W w : World} {l : List Res} {g a c gl cl : Nat} {q : Option Nat} {ql : Option Addr} {d : DiskD} {L : LogD}
set_option maxHeartbeats 4000000 in
theorem wal_Append (h : Hold W w l) (i : Nat) (hi : l[i]? = some (logRow gl (.pointer (some ⟨g, 0, none⟩)) L ql cl)) (j : Nat) (hj : l[j]? = some (diskR g a q c d)) (k : Nat) (hk : l[k]? = some (recsR ql cl L.recs)) (hij : i ≠ j) (hik : i ≠ k) (hok : d.Ok)
    (hwr : L.written ≤ L.recs.length) (hn : L.recs.length ≤ 90000) (hsm : ∀ x ∈ L.recs.drop L.written, x.size ≤ 100000) (hp : L.pages ≤ 1000000) (s : ByteArray) (hs : s.size ≤ 1099511627776) :
    Calls Try.prog 14 #[.pointer (some ⟨gl, 0, none⟩), .string s] w fun e w' => e = .returned (.tuple #[.int .i64 (L.appendN d s), .int .i64 (L.appendE d s)]) ∧ ∃ ql' cl', Hold W w' ((l.set i (logRow gl (.pointer (some ⟨g, 0, none⟩)) (L.append d s) ql' cl')).set k (recsR ql' cl' (L.append d s).recs)) := by
  have hrow := h.get i hi
  have CW := Lib.hid (wal_why h i hi s hs)
  obtain ⟨E0, hE0⟩ : ∃ E0, L.why s = E0 := ⟨_, rfl⟩
  rw [hE0] at CW
  by_cases hz : E0 = 0
  · by_cases hbig : L.room d < (needW (frameL (L.recs.drop L.written ++ [s])).length : Int)
    · have hE : L.appendE d s = 6 := by unfold LogD.appendE; rw [if_neg (by rw [hE0]; exact fun h => h hz), if_pos hbig]
      have hL : L.append d s = L := by unfold LogD.append; rw [if_neg (by rw [hE]; decide)]
      have hN : L.appendN d s = 0 := by unfold LogD.appendN; rw [if_neg (by rw [hE]; decide)]
      have hH : Hold W w ((l.set i (logRow gl (.pointer (some ⟨g, 0, none⟩)) L ql cl)).set k (recsR ql cl L.recs)) := by
        rw [set_same hi, set_same hk]; exact h
      have HF := Lib.hid hH
      have HRes := Lib.hid (show (l.set i (logRow gl (.pointer (some ⟨g, 0, none⟩)) L ql cl)).set k (recsR ql cl L.recs) = l by rw [set_same hi, set_same hk])
      rw [hE, hN, hL]
      clear hH hL hE hN
      have hF2 : frameL (L.recs.drop L.written ++ [s]) = lst (frameW (L.recs.drop L.written ++ [s])) := by unfold frameW; rw [lst_str]
      rw [hF2, lst_length] at hbig
      have hs2 : s.size ≤ 100000 := by
        unfold LogD.why at hE0
        rcases Nat.lt_or_ge 100000 s.size with h | h
        · rw [if_pos (.inr h)] at hE0; subst hz; cases hE0
        · exact h
      obtain ⟨which, age, pages, recs, written, sure, turned⟩ := L
      obtain ⟨a0, a1, a2, a3, a4, a5, a6, a7, e0, e1, e2, e3, e4, e5, e6, e7⟩ := RowAt.c8 hrow
      subst hz
      try simp only at hwr hn hsm hp hbig
      obtain ⟨inf, hi0', hz0, hz1, hz2⟩ := infoStr
      have hall : ∀ x ∈ recs.drop written ++ [s], x.size ≤ 100000 := fun x hx => by
        rcases List.mem_append.1 hx with hx | hx
        · exact hsm x hx
        · obtain rfl := List.mem_singleton.1 hx; exact hs2
      have hdl : (recs.drop written).length = recs.length - written := List.length_drop
      have hall2 : (recs.drop written ++ [s]).length = recs.length - written + 1 := by rw [List.length_append, hdl]; rfl
      have hfz : (frameW (recs.drop written ++ [s])).size ≤ 100003 * (recs.length - written + 1) := hall2 ▸ frameW_size (recs.drop written ++ [s]) hall
      have hra := recs_at h hk written
      have CC := Lib.hid (fun (w : World) (hr : RecsAt w (recQ ql cl written) (recs.drop written)) => show Calls Try.prog 43 #[.slice (recQ ql cl written) (recs.length - written) (cl - written)] w (ClonePost w (recs.drop written)) from hdl ▸ recs_Clone (c := cl - written) (recs.drop written) hr (by omega))
      have CN := Lib.hid (fun w => wal_need (frameW (recs.drop written ++ [s])).size (by omega) w)
      have CF := Lib.hid (fun (w : World) (q : Option Addr) (c : Nat) (hr : RecsAt w q (recs.drop written ++ [s])) => show Calls Try.prog 45 #[.slice q (recs.length - written + 1) c] w _ from hall2 ▸ wal_framed (c := c) (recs.drop written ++ [s]) hr hall (by omega))
      have CRm := Lib.hid (fun (w : World) (l' : List Res) (hh : Hold W w l') (hi' : l'[i]? = some (rowR gl (.pointer (some ⟨g, 0, none⟩)) [.int .i64 (which : Int), .int .i64 age, .int .i64 (pages : Int), .slice ql recs.length cl, .int .i64 (written : Int), .int .i64 (sure : Int), .string turned])) (hj' : l'[j]? = some (diskR g a q c d)) => wal_Room (L := ⟨which, age, pages, recs, written, sure, turned⟩) (ql := ql) (cl := cl) hh i hi' j hj' hok hp)
      have hsl := fun w => slice_recs ql recs.length cl written hwr w
      obtain ⟨R0, hR0⟩ : ∃ R0, LogD.room ⟨which, age, pages, recs, written, sure, turned⟩ d = R0 := ⟨_, rfl⟩
      obtain ⟨N0, hN0⟩ : ∃ N0, needW (frameW (recs.drop written ++ [s])).size = N0 := ⟨_, rfl⟩
      rw [hR0] at CRm hbig
      rw [hN0] at hbig
      simp only [hN0] at CN
      have CC2 := Lib.hid (fun (w : World) (hr : RecsAt w ql recs) => recs_Clone (c := cl) recs hr (by omega))
      have HX0 := Lib.hid h
      have HI := Lib.hid (show l[i]? = some (rowR gl (.pointer (some ⟨g, 0, none⟩)) [.int .i64 (which : Int), .int .i64 age, .int .i64 (pages : Int), .slice ql recs.length cl, .int .i64 (written : Int), .int .i64 (sure : Int), .string turned]) from hi)
      have HJ := Lib.hid hj
      have HK := Lib.hid hk
      have hCH : ∀ x : Value, strC (recs.drop written) ++ [.string s] = strC (recs.drop written ++ [s]) := fun _ => by simp [strC]
      have HCH := Lib.hid hCH
      have HS := Lib.hid hsm
      have HP := Lib.hid (show RecsAt w (recQ ql cl written) (recs.drop written) from hra)
      have HRow := Lib.hid hrow
      have HDL := Lib.hid hdl
      have HALL := Lib.hid hall2
      clear hrow hi hj hk h hE0 hall hdl hall2 hra hCH hsm
      go_enter Try.func14, Try.ntmps14
      go_upto_region 4 with ((with_reducible refine CW.out.mono ?_); rintro e wn ⟨rfl, rfl⟩)
      clear a0 a1 a2 a3 a4 a5 a6 a7 e0 e1 e2 e3 e4 e5 e6 e7 CW
      refine wp_region_two Up (Keeps (RowIs gl (.pointer (some ⟨g, 0, none⟩)) [.int .i64 (which : Int), .int .i64 age, .int .i64 (pages : Int), .slice ql recs.length cl, .int .i64 (written : Int), .int .i64 (sure : Int), .string turned])) (keeps_ok rowIs_up) (by kernel_rfl) (by kernel_rfl) (by kernel_rfl) ?_
      have hup : Up w w.drew := (Up.refl w).drew
      have hp1 : RowIs gl (.pointer (some ⟨g, 0, none⟩)) [.int .i64 (which : Int), .int .i64 age, .int .i64 (pages : Int), .slice ql recs.length cl, .int .i64 (written : Int), .int .i64 (sure : Int), .string turned] w.drew := rowIs_up hup HRow.out
      generalize w.drew = w1 at *
      refine wpAnyTS_quiet 0 9 5 50 (by rfl) (by kernel_rfl) (fun _ _ _ _ _ h => h) (by kernel_rfl) (by kernel_rfl) ?_
      apply Exists.intro
      refine ⟨fun w2' hw2 => ?_, ?_⟩
      · have hne := laterR_ne (R := Up) rok_upQ w2'
        obtain ⟨b0, b1, b2, b3, b4, b5, b6, b7, -⟩ := RowAt.c8 (hw2 hp1)
        have l4 := laterU b4
        have l5 := laterU b5
        clear b0 b1 b2 b3 b4 b5 b6 b7
        simp only [List.drop_zero, List.take_succ_cons, List.take_zero]
        repeat (go_big_quiet_step (fail))
        exact wpQuiet_nil rfl
      refine wpAnyTS_quiet 10 1 4 50 (by rfl) (by kernel_rfl) (fun _ _ _ _ _ h => h) (by kernel_rfl) (by kernel_rfl) ?_
      apply Exists.intro
      refine ⟨fun w2' hw2 => ?_, ?_⟩
      · have hne := laterR_ne (R := Up) rok_upQ w2'
        obtain ⟨b0, b1, b2, b3, b4, b5, b6, b7, -⟩ := RowAt.c8 (hw2 hp1)
        have l4 := laterU b4
        have l5 := laterU b5
        clear b0 b1 b2 b3 b4 b5 b6 b7
        simp only [List.drop_succ_cons, List.drop_zero, List.take_succ_cons, List.take_zero]
        repeat (go_big_quiet_step (fail))
        exact wpQuiet_nil rfl
      refine wpAnyTS_some 9 [11] 3 (by rfl) (by kernel_rfl) (by kernel_rfl) ?_
      intro w2 hu2
      replace hup := Up.trans hup hu2
      replace hp1 := rowIs_up hu2 hp1
      clear hu2
      refine ⟨?_, ?_, trivial⟩
      · simp only [List.drop_succ_cons, List.drop_zero, List.take_succ_cons, List.take_zero]
        have hC := CC.out w2 (HP.out.up hup)
        replace hC := Lib.hid hC
        go_wp2_with ((with_reducible refine hC.out.mono ?_); rintro e w3 ⟨q3, c3, rfl, hR⟩)
        refine ⟨.inr fun h => rowIs_up hR.up h, ?_⟩
        have hX := (HX0.out.next hup).add hR.up _ (hR.get 0 rfl) (hR.new 0 rfl)
        replace hp1 := rowIs_up hR.up hp1
        clear hC hR
        refine wpAnyTS_some 11 [] 2 (by rfl) (by kernel_rfl) (by kernel_rfl) ?_
        intro w2 hu2
        replace hX := hX.next hu2
        replace hp1 := rowIs_up hu2 hp1
        clear hu2
        refine ⟨?_, trivial⟩
        simp only [List.drop_succ_cons, List.drop_zero, List.take_succ_cons, List.take_zero]
        have hY := hX.madeRow (.string s) [] 9
        have hp2 := rowIs_up ((Up.refl w2).alloc (.cells #[.string s] 9)) hp1
        go_wp2_with fail
        refine ⟨.inr fun h => rowIs_up ((Up.refl _).alloc _) h, ?_⟩
        clear hX hp1
        have hX := hY
        have hp1 := hp2
        clear hY hp2
        generalize w2.heap.size = gs at *
        generalize w2.alloc _ = w4 at *
        have hll : (l ++ [recsR q3 c3 (recs.drop written)] ++ [rowR gs (.string s) []])[l.length]? = some (ownZ 9 1 (.slice q3 (recs.drop written).length c3) (recs.drop written).length (strC (recs.drop written))) := by rw [List.append_assoc, List.getElem?_append_right (Nat.le_refl _), Nat.sub_self]; rfl
        have hlr : (l ++ [recsR q3 c3 (recs.drop written)] ++ [rowR gs (.string s) []])[l.length + 1]? = some (rowR gs (.string s) []) := by rw [List.append_assoc, List.getElem?_append_right (by omega)]; simp
        rw [HDL.out] at hll
        refine wpAnyTS_some 12 [] 1 (by rfl) (by kernel_rfl) (by kernel_rfl) ?_
        intro w2 hu2
        replace hX := hX.next hu2
        replace hp1 := rowIs_up hu2 hp1
        have r7 : RowAt w2 gs [.string s] := hX.get (R := rowR gs (.string s) []) (l.length + 1) hlr
        clear hu2
        refine ⟨?_, trivial⟩
        simp only [List.drop_succ_cons, List.drop_zero, List.take_succ_cons, List.take_zero]
        go_wp2_with ((with_reducible refine wpList_at 26 ?_); refine wpList_appendZ rfl _ _ 49 rfl 9 inf (.string ⟨#[]⟩) 1 16 (by kernel_rfl) hi0' hz0 hz1 hz2 rfl (by decide) hX l.length _ (strC (recs.drop written)) (recs.length - written) hll rfl ⟨gs, 0, none⟩ 1 [.string s] rfl rfl r7.addsAt (strC_one [s]) (by unfold maxLen; omega) (by omega) ?_; intro b9 c9 w6 hw)
        have hset : (l ++ [recsR q3 c3 (recs.drop written)] ++ [rowR gs (.string s) []]).set l.length (ownZ 9 1 (.slice (some ⟨b9, 0, none⟩) (recs.length - written + 1) c9) (recs.length - written + 1) (strC (recs.drop written) ++ [.string s])) = l ++ [ownZ 9 1 (.slice (some ⟨b9, 0, none⟩) (recs.length - written + 1) c9) (recs.length - written + 1) (strC (recs.drop written) ++ [.string s])] ++ [rowR gs (.string s) []] := by
          rw [List.append_assoc, List.set_append_right _ _ (Nat.le_refl _), Nat.sub_self, List.append_assoc]; rfl
        rw [hset] at hw
        replace hw := hw.drop
        rw [HCH.out (.string s)] at hw
        have hiL : ∀ R : Res, (l ++ [R])[i]? = some (rowR gl (.pointer (some ⟨g, 0, none⟩)) [.int .i64 (which : Int), .int .i64 age, .int .i64 (pages : Int), .slice ql recs.length cl, .int .i64 (written : Int), .int .i64 (sure : Int), .string turned]) := fun R => by rw [List.getElem?_append_left (List.getElem?_eq_some_iff.1 HI.out).1]; exact HI.out
        have hjL : ∀ R : Res, (l ++ [R])[j]? = some (diskR g a q c d) := fun R => by rw [List.getElem?_append_left (List.getElem?_eq_some_iff.1 HJ.out).1]; exact HJ.out
        have hkL : ∀ R : Res, (l ++ [R])[k]? = some (recsR ql cl recs) := fun R => by rw [List.getElem?_append_left (List.getElem?_eq_some_iff.1 HK.out).1]; exact HK.out
        have hlL : ∀ R : Res, (l ++ [R])[l.length]? = some R := fun R => by rw [List.getElem?_append_right (Nat.le_refl _), Nat.sub_self]; rfl
        refine ⟨.inr fun _ => hw.get i (hiL _), ?_⟩
        clear hp1 hset r7 hX hll hlr hup
        have hp1 : RowIs gl (.pointer (some ⟨g, 0, none⟩)) [.int .i64 (which : Int), .int .i64 age, .int .i64 (pages : Int), .slice ql recs.length cl, .int .i64 (written : Int), .int .i64 (sure : Int), .string turned] w6 := hw.get i (hiL _)
        refine wpAnyTS_quiet 13 1 0 50 (by rfl) (by kernel_rfl) (fun _ _ _ _ _ h => h) (by kernel_rfl) (by kernel_rfl) ?_
        apply Exists.intro
        refine ⟨fun w2' hw2 => ?_, ?_⟩
        · have hne := laterR_ne (R := Up) rok_upQ w2'
          obtain ⟨b0, b1, b2, b3, b4, b5, b6, b7, -⟩ := RowAt.c8 (hw2 hp1)
          have l4 := laterU b4
          have l5 := laterU b5
          clear b0 b1 b2 b3 b4 b5 b6 b7
          simp only [List.drop_succ_cons, List.drop_zero, List.take_succ_cons, List.take_zero]
          repeat (go_big_quiet_step (fail))
          exact wpQuiet_nil rfl
        refine wpAnyTS_done (by kernel_rfl) ?_
        intro w7 hu7
        replace hw := hw.next hu7
        clear hu7 hp1
        have hE : Hold W w7 (l ++ [recsR (some ⟨b9, 0, none⟩) c9 (recs.drop written ++ [s])]) := by
          unfold recsR
          rw [HALL.out]
          exact hw
        clear hw
        have hra := recs_all hE (hlL _)
        have CFF := Lib.hid (CF.out _ _ c9 hra)
        have HHi := Lib.hid hiL
        have HHj := Lib.hid hjL
        have HHk := Lib.hid hkL
        have HHl := Lib.hid hlL
        clear hra hiL hjL hkL hlL
        have hbig' : (N0 : Int) > R0 := by omega
        go_wp2_with (first
          | ((with_reducible refine CFF.out.mono ?_); rintro e w8 ⟨rfl, hu8⟩; replace hE := hE.next hu8; clear hu8 CFF)
          | ((with_reducible refine (CN.out _).mono ?_); rintro e w9 ⟨rfl, rfl⟩)
          | ((with_reducible refine (CRm.out _ _ hE (HHi.out _) (HHj.out _)).mono ?_); rintro e w10 ⟨rfl, hu10⟩; replace hE := hE.next hu10; clear hu10))
        refine bodyPost_ret (v := .tuple #[.int .i64 0, .int .i64 6]) (by simp [results, Try.results14, go_sem]) rfl ⟨rfl, ql, cl, ?_⟩
        rw [HRes.out]
        exact hE.drop
      · simp only [List.drop_succ_cons, List.drop_zero, List.take_succ_cons, List.take_zero]
        have hY := ((HX0.out.next hup).madeRow (.string s) [] 9)
        have hp2 := rowIs_up ((Up.refl w2).alloc (.cells #[.string s] 9)) hp1
        have hup2 := hup.alloc (.cells #[.string s] 9)
        go_wp2_with fail
        refine ⟨.inr fun h => rowIs_up ((Up.refl _).alloc _) h, ?_⟩
        clear hp1 hup
        have hX := hY
        have hp1 := hp2
        have hup := hup2
        clear hY hp2 hup2
        generalize w2.heap.size = gs at *
        replace hX : Hold W (w2.alloc (.cells #[.string s] 9)) _ := hX
        generalize w2.alloc _ = w4 at *
        refine wpAnyTS_some 9 [] 2 (by rfl) (by kernel_rfl) (by kernel_rfl) ?_
        intro w2 hu2
        replace hup := Up.trans hup hu2
        replace hX := hX.next hu2
        replace hp1 := rowIs_up hu2 hp1
        clear hu2
        refine ⟨?_, trivial⟩
        simp only [List.drop_succ_cons, List.drop_zero, List.take_succ_cons, List.take_zero]
        have hC := CC.out w2 (HP.out.up hup)
        replace hC := Lib.hid hC
        go_wp2_with ((with_reducible refine hC.out.mono ?_); rintro e w3 ⟨q3, c3, rfl, hR⟩)
        refine ⟨.inr fun h => rowIs_up hR.up h, ?_⟩
        replace hX := hX.add hR.up _ (hR.get 0 rfl) (hR.new 0 rfl)
        replace hp1 := rowIs_up hR.up hp1
        clear hC hR
        replace hX := hX.perm (l' := l ++ [recsR q3 c3 (recs.drop written)] ++ [rowR gs (.string s) []]) (by rw [List.append_assoc, List.append_assoc]; exact List.Perm.append_left l (List.Perm.swap _ _ _))
        have hll : (l ++ [recsR q3 c3 (recs.drop written)] ++ [rowR gs (.string s) []])[l.length]? = some (ownZ 9 1 (.slice q3 (recs.drop written).length c3) (recs.drop written).length (strC (recs.drop written))) := by rw [List.append_assoc, List.getElem?_append_right (Nat.le_refl _), Nat.sub_self]; rfl
        have hlr : (l ++ [recsR q3 c3 (recs.drop written)] ++ [rowR gs (.string s) []])[l.length + 1]? = some (rowR gs (.string s) []) := by rw [List.append_assoc, List.getElem?_append_right (by omega)]; simp
        rw [HDL.out] at hll
        refine wpAnyTS_some 12 [] 1 (by rfl) (by kernel_rfl) (by kernel_rfl) ?_
        intro w2 hu2
        replace hX := hX.next hu2
        replace hp1 := rowIs_up hu2 hp1
        have r7 : RowAt w2 gs [.string s] := hX.get (R := rowR gs (.string s) []) (l.length + 1) hlr
        clear hu2
        refine ⟨?_, trivial⟩
        simp only [List.drop_succ_cons, List.drop_zero, List.take_succ_cons, List.take_zero]
        go_wp2_with ((with_reducible refine wpList_at 26 ?_); refine wpList_appendZ rfl _ _ 49 rfl 9 inf (.string ⟨#[]⟩) 1 16 (by kernel_rfl) hi0' hz0 hz1 hz2 rfl (by decide) hX l.length _ (strC (recs.drop written)) (recs.length - written) hll rfl ⟨gs, 0, none⟩ 1 [.string s] rfl rfl r7.addsAt (strC_one [s]) (by unfold maxLen; omega) (by omega) ?_; intro b9 c9 w6 hw)
        have hset : (l ++ [recsR q3 c3 (recs.drop written)] ++ [rowR gs (.string s) []]).set l.length (ownZ 9 1 (.slice (some ⟨b9, 0, none⟩) (recs.length - written + 1) c9) (recs.length - written + 1) (strC (recs.drop written) ++ [.string s])) = l ++ [ownZ 9 1 (.slice (some ⟨b9, 0, none⟩) (recs.length - written + 1) c9) (recs.length - written + 1) (strC (recs.drop written) ++ [.string s])] ++ [rowR gs (.string s) []] := by
          rw [List.append_assoc, List.set_append_right _ _ (Nat.le_refl _), Nat.sub_self, List.append_assoc]; rfl
        rw [hset] at hw
        replace hw := hw.drop
        rw [HCH.out (.string s)] at hw
        have hiL : ∀ R : Res, (l ++ [R])[i]? = some (rowR gl (.pointer (some ⟨g, 0, none⟩)) [.int .i64 (which : Int), .int .i64 age, .int .i64 (pages : Int), .slice ql recs.length cl, .int .i64 (written : Int), .int .i64 (sure : Int), .string turned]) := fun R => by rw [List.getElem?_append_left (List.getElem?_eq_some_iff.1 HI.out).1]; exact HI.out
        have hjL : ∀ R : Res, (l ++ [R])[j]? = some (diskR g a q c d) := fun R => by rw [List.getElem?_append_left (List.getElem?_eq_some_iff.1 HJ.out).1]; exact HJ.out
        have hkL : ∀ R : Res, (l ++ [R])[k]? = some (recsR ql cl recs) := fun R => by rw [List.getElem?_append_left (List.getElem?_eq_some_iff.1 HK.out).1]; exact HK.out
        have hlL : ∀ R : Res, (l ++ [R])[l.length]? = some R := fun R => by rw [List.getElem?_append_right (Nat.le_refl _), Nat.sub_self]; rfl
        refine ⟨.inr fun _ => hw.get i (hiL _), ?_⟩
        clear hp1 hset r7 hX hll hlr hup
        have hp1 : RowIs gl (.pointer (some ⟨g, 0, none⟩)) [.int .i64 (which : Int), .int .i64 age, .int .i64 (pages : Int), .slice ql recs.length cl, .int .i64 (written : Int), .int .i64 (sure : Int), .string turned] w6 := hw.get i (hiL _)
        refine wpAnyTS_quiet 13 1 0 50 (by rfl) (by kernel_rfl) (fun _ _ _ _ _ h => h) (by kernel_rfl) (by kernel_rfl) ?_
        apply Exists.intro
        refine ⟨fun w2' hw2 => ?_, ?_⟩
        · have hne := laterR_ne (R := Up) rok_upQ w2'
          obtain ⟨b0, b1, b2, b3, b4, b5, b6, b7, -⟩ := RowAt.c8 (hw2 hp1)
          have l4 := laterU b4
          have l5 := laterU b5
          clear b0 b1 b2 b3 b4 b5 b6 b7
          simp only [List.drop_succ_cons, List.drop_zero, List.take_succ_cons, List.take_zero]
          repeat (go_big_quiet_step (fail))
          exact wpQuiet_nil rfl
        refine wpAnyTS_done (by kernel_rfl) ?_
        intro w7 hu7
        replace hw := hw.next hu7
        clear hu7 hp1
        have hE : Hold W w7 (l ++ [recsR (some ⟨b9, 0, none⟩) c9 (recs.drop written ++ [s])]) := by
          unfold recsR
          rw [HALL.out]
          exact hw
        clear hw
        have hra := recs_all hE (hlL _)
        have CFF := Lib.hid (CF.out _ _ c9 hra)
        have HHi := Lib.hid hiL
        have HHj := Lib.hid hjL
        have HHk := Lib.hid hkL
        have HHl := Lib.hid hlL
        clear hra hiL hjL hkL hlL
        have hbig' : (N0 : Int) > R0 := by omega
        go_wp2_with (first
          | ((with_reducible refine CFF.out.mono ?_); rintro e w8 ⟨rfl, hu8⟩; replace hE := hE.next hu8; clear hu8 CFF)
          | ((with_reducible refine (CN.out _).mono ?_); rintro e w9 ⟨rfl, rfl⟩)
          | ((with_reducible refine (CRm.out _ _ hE (HHi.out _) (HHj.out _)).mono ?_); rintro e w10 ⟨rfl, hu10⟩; replace hE := hE.next hu10; clear hu10))
        refine bodyPost_ret (v := .tuple #[.int .i64 0, .int .i64 6]) (by simp [results, Try.results14, go_sem]) rfl ⟨rfl, ql, cl, ?_⟩
        rw [HRes.out]
        exact hE.drop
    · have hE : L.appendE d s = 0 := by unfold LogD.appendE; rw [if_neg (by rw [hE0]; exact fun h => h hz), if_neg hbig]
      have hL : L.append d s = { L with recs := L.recs ++ [s] } := by unfold LogD.append; rw [if_pos hE]
      have hN : L.appendN d s = (L.recs.length : Int) + 1 := by unfold LogD.appendN; rw [if_pos hE]; omega
      rw [hE, hN, hL]
      clear hL hE hN
      have hF2 : frameL (L.recs.drop L.written ++ [s]) = lst (frameW (L.recs.drop L.written ++ [s])) := by unfold frameW; rw [lst_str]
      rw [hF2, lst_length] at hbig
      have hs2 : s.size ≤ 100000 := by
        unfold LogD.why at hE0
        rcases Nat.lt_or_ge 100000 s.size with h | h
        · rw [if_pos (.inr h)] at hE0; subst hz; cases hE0
        · exact h
      obtain ⟨which, age, pages, recs, written, sure, turned⟩ := L
      obtain ⟨a0, a1, a2, a3, a4, a5, a6, a7, e0, e1, e2, e3, e4, e5, e6, e7⟩ := RowAt.c8 hrow
      subst hz
      try simp only at hwr hn hsm hp hbig
      obtain ⟨inf, hi0', hz0, hz1, hz2⟩ := infoStr
      have hall : ∀ x ∈ recs.drop written ++ [s], x.size ≤ 100000 := fun x hx => by
        rcases List.mem_append.1 hx with hx | hx
        · exact hsm x hx
        · obtain rfl := List.mem_singleton.1 hx; exact hs2
      have hdl : (recs.drop written).length = recs.length - written := List.length_drop
      have hall2 : (recs.drop written ++ [s]).length = recs.length - written + 1 := by rw [List.length_append, hdl]; rfl
      have hfz : (frameW (recs.drop written ++ [s])).size ≤ 100003 * (recs.length - written + 1) := hall2 ▸ frameW_size (recs.drop written ++ [s]) hall
      have hra := recs_at h hk written
      have CC := Lib.hid (fun (w : World) (hr : RecsAt w (recQ ql cl written) (recs.drop written)) => show Calls Try.prog 43 #[.slice (recQ ql cl written) (recs.length - written) (cl - written)] w (ClonePost w (recs.drop written)) from hdl ▸ recs_Clone (c := cl - written) (recs.drop written) hr (by omega))
      have CN := Lib.hid (fun w => wal_need (frameW (recs.drop written ++ [s])).size (by omega) w)
      have CF := Lib.hid (fun (w : World) (q : Option Addr) (c : Nat) (hr : RecsAt w q (recs.drop written ++ [s])) => show Calls Try.prog 45 #[.slice q (recs.length - written + 1) c] w _ from hall2 ▸ wal_framed (c := c) (recs.drop written ++ [s]) hr hall (by omega))
      have CRm := Lib.hid (fun (w : World) (l' : List Res) (hh : Hold W w l') (hi' : l'[i]? = some (rowR gl (.pointer (some ⟨g, 0, none⟩)) [.int .i64 (which : Int), .int .i64 age, .int .i64 (pages : Int), .slice ql recs.length cl, .int .i64 (written : Int), .int .i64 (sure : Int), .string turned])) (hj' : l'[j]? = some (diskR g a q c d)) => wal_Room (L := ⟨which, age, pages, recs, written, sure, turned⟩) (ql := ql) (cl := cl) hh i hi' j hj' hok hp)
      have hsl := fun w => slice_recs ql recs.length cl written hwr w
      obtain ⟨R0, hR0⟩ : ∃ R0, LogD.room ⟨which, age, pages, recs, written, sure, turned⟩ d = R0 := ⟨_, rfl⟩
      obtain ⟨N0, hN0⟩ : ∃ N0, needW (frameW (recs.drop written ++ [s])).size = N0 := ⟨_, rfl⟩
      rw [hR0] at CRm hbig
      rw [hN0] at hbig
      simp only [hN0] at CN
      have CC2 := Lib.hid (fun (w : World) (hr : RecsAt w ql recs) => recs_Clone (c := cl) recs hr (by omega))
      have HX0 := Lib.hid h
      have HI := Lib.hid (show l[i]? = some (rowR gl (.pointer (some ⟨g, 0, none⟩)) [.int .i64 (which : Int), .int .i64 age, .int .i64 (pages : Int), .slice ql recs.length cl, .int .i64 (written : Int), .int .i64 (sure : Int), .string turned]) from hi)
      have HJ := Lib.hid hj
      have HK := Lib.hid hk
      have hCH : ∀ x : Value, strC (recs.drop written) ++ [.string s] = strC (recs.drop written ++ [s]) := fun _ => by simp [strC]
      have HCH := Lib.hid hCH
      have HS := Lib.hid hsm
      have HP := Lib.hid (show RecsAt w (recQ ql cl written) (recs.drop written) from hra)
      have HRow := Lib.hid hrow
      have HDL := Lib.hid hdl
      have HALL := Lib.hid hall2
      clear hrow hi hj hk h hE0 hall hdl hall2 hra hCH hsm
      go_enter Try.func14, Try.ntmps14
      go_upto_region 4 with ((with_reducible refine CW.out.mono ?_); rintro e wn ⟨rfl, rfl⟩)
      clear a0 a1 a2 a3 a4 a5 a6 a7 e0 e1 e2 e3 e4 e5 e6 e7 CW
      refine wp_region_two Up (Keeps (RowIs gl (.pointer (some ⟨g, 0, none⟩)) [.int .i64 (which : Int), .int .i64 age, .int .i64 (pages : Int), .slice ql recs.length cl, .int .i64 (written : Int), .int .i64 (sure : Int), .string turned])) (keeps_ok rowIs_up) (by kernel_rfl) (by kernel_rfl) (by kernel_rfl) ?_
      have hup : Up w w.drew := (Up.refl w).drew
      have hp1 : RowIs gl (.pointer (some ⟨g, 0, none⟩)) [.int .i64 (which : Int), .int .i64 age, .int .i64 (pages : Int), .slice ql recs.length cl, .int .i64 (written : Int), .int .i64 (sure : Int), .string turned] w.drew := rowIs_up hup HRow.out
      generalize w.drew = w1 at *
      refine wpAnyTS_quiet 0 9 5 50 (by rfl) (by kernel_rfl) (fun _ _ _ _ _ h => h) (by kernel_rfl) (by kernel_rfl) ?_
      apply Exists.intro
      refine ⟨fun w2' hw2 => ?_, ?_⟩
      · have hne := laterR_ne (R := Up) rok_upQ w2'
        obtain ⟨b0, b1, b2, b3, b4, b5, b6, b7, -⟩ := RowAt.c8 (hw2 hp1)
        have l4 := laterU b4
        have l5 := laterU b5
        clear b0 b1 b2 b3 b4 b5 b6 b7
        simp only [List.drop_zero, List.take_succ_cons, List.take_zero]
        repeat (go_big_quiet_step (fail))
        exact wpQuiet_nil rfl
      refine wpAnyTS_quiet 10 1 4 50 (by rfl) (by kernel_rfl) (fun _ _ _ _ _ h => h) (by kernel_rfl) (by kernel_rfl) ?_
      apply Exists.intro
      refine ⟨fun w2' hw2 => ?_, ?_⟩
      · have hne := laterR_ne (R := Up) rok_upQ w2'
        obtain ⟨b0, b1, b2, b3, b4, b5, b6, b7, -⟩ := RowAt.c8 (hw2 hp1)
        have l4 := laterU b4
        have l5 := laterU b5
        clear b0 b1 b2 b3 b4 b5 b6 b7
        simp only [List.drop_succ_cons, List.drop_zero, List.take_succ_cons, List.take_zero]
        repeat (go_big_quiet_step (fail))
        exact wpQuiet_nil rfl
      refine wpAnyTS_some 9 [11] 3 (by rfl) (by kernel_rfl) (by kernel_rfl) ?_
      intro w2 hu2
      replace hup := Up.trans hup hu2
      replace hp1 := rowIs_up hu2 hp1
      clear hu2
      refine ⟨?_, ?_, trivial⟩
      · simp only [List.drop_succ_cons, List.drop_zero, List.take_succ_cons, List.take_zero]
        have hC := CC.out w2 (HP.out.up hup)
        replace hC := Lib.hid hC
        go_wp2_with ((with_reducible refine hC.out.mono ?_); rintro e w3 ⟨q3, c3, rfl, hR⟩)
        refine ⟨.inr fun h => rowIs_up hR.up h, ?_⟩
        have hX := (HX0.out.next hup).add hR.up _ (hR.get 0 rfl) (hR.new 0 rfl)
        replace hp1 := rowIs_up hR.up hp1
        clear hC hR
        refine wpAnyTS_some 11 [] 2 (by rfl) (by kernel_rfl) (by kernel_rfl) ?_
        intro w2 hu2
        replace hX := hX.next hu2
        replace hp1 := rowIs_up hu2 hp1
        clear hu2
        refine ⟨?_, trivial⟩
        simp only [List.drop_succ_cons, List.drop_zero, List.take_succ_cons, List.take_zero]
        have hY := hX.madeRow (.string s) [] 9
        have hp2 := rowIs_up ((Up.refl w2).alloc (.cells #[.string s] 9)) hp1
        go_wp2_with fail
        refine ⟨.inr fun h => rowIs_up ((Up.refl _).alloc _) h, ?_⟩
        clear hX hp1
        have hX := hY
        have hp1 := hp2
        clear hY hp2
        generalize w2.heap.size = gs at *
        generalize w2.alloc _ = w4 at *
        have hll : (l ++ [recsR q3 c3 (recs.drop written)] ++ [rowR gs (.string s) []])[l.length]? = some (ownZ 9 1 (.slice q3 (recs.drop written).length c3) (recs.drop written).length (strC (recs.drop written))) := by rw [List.append_assoc, List.getElem?_append_right (Nat.le_refl _), Nat.sub_self]; rfl
        have hlr : (l ++ [recsR q3 c3 (recs.drop written)] ++ [rowR gs (.string s) []])[l.length + 1]? = some (rowR gs (.string s) []) := by rw [List.append_assoc, List.getElem?_append_right (by omega)]; simp
        rw [HDL.out] at hll
        refine wpAnyTS_some 12 [] 1 (by rfl) (by kernel_rfl) (by kernel_rfl) ?_
        intro w2 hu2
        replace hX := hX.next hu2
        replace hp1 := rowIs_up hu2 hp1
        have r7 : RowAt w2 gs [.string s] := hX.get (R := rowR gs (.string s) []) (l.length + 1) hlr
        clear hu2
        refine ⟨?_, trivial⟩
        simp only [List.drop_succ_cons, List.drop_zero, List.take_succ_cons, List.take_zero]
        go_wp2_with ((with_reducible refine wpList_at 26 ?_); refine wpList_appendZ rfl _ _ 49 rfl 9 inf (.string ⟨#[]⟩) 1 16 (by kernel_rfl) hi0' hz0 hz1 hz2 rfl (by decide) hX l.length _ (strC (recs.drop written)) (recs.length - written) hll rfl ⟨gs, 0, none⟩ 1 [.string s] rfl rfl r7.addsAt (strC_one [s]) (by unfold maxLen; omega) (by omega) ?_; intro b9 c9 w6 hw)
        have hset : (l ++ [recsR q3 c3 (recs.drop written)] ++ [rowR gs (.string s) []]).set l.length (ownZ 9 1 (.slice (some ⟨b9, 0, none⟩) (recs.length - written + 1) c9) (recs.length - written + 1) (strC (recs.drop written) ++ [.string s])) = l ++ [ownZ 9 1 (.slice (some ⟨b9, 0, none⟩) (recs.length - written + 1) c9) (recs.length - written + 1) (strC (recs.drop written) ++ [.string s])] ++ [rowR gs (.string s) []] := by
          rw [List.append_assoc, List.set_append_right _ _ (Nat.le_refl _), Nat.sub_self, List.append_assoc]; rfl
        rw [hset] at hw
        replace hw := hw.drop
        rw [HCH.out (.string s)] at hw
        have hiL : ∀ R : Res, (l ++ [R])[i]? = some (rowR gl (.pointer (some ⟨g, 0, none⟩)) [.int .i64 (which : Int), .int .i64 age, .int .i64 (pages : Int), .slice ql recs.length cl, .int .i64 (written : Int), .int .i64 (sure : Int), .string turned]) := fun R => by rw [List.getElem?_append_left (List.getElem?_eq_some_iff.1 HI.out).1]; exact HI.out
        have hjL : ∀ R : Res, (l ++ [R])[j]? = some (diskR g a q c d) := fun R => by rw [List.getElem?_append_left (List.getElem?_eq_some_iff.1 HJ.out).1]; exact HJ.out
        have hkL : ∀ R : Res, (l ++ [R])[k]? = some (recsR ql cl recs) := fun R => by rw [List.getElem?_append_left (List.getElem?_eq_some_iff.1 HK.out).1]; exact HK.out
        have hlL : ∀ R : Res, (l ++ [R])[l.length]? = some R := fun R => by rw [List.getElem?_append_right (Nat.le_refl _), Nat.sub_self]; rfl
        refine ⟨.inr fun _ => hw.get i (hiL _), ?_⟩
        clear hp1 hset r7 hX hll hlr hup
        have hp1 : RowIs gl (.pointer (some ⟨g, 0, none⟩)) [.int .i64 (which : Int), .int .i64 age, .int .i64 (pages : Int), .slice ql recs.length cl, .int .i64 (written : Int), .int .i64 (sure : Int), .string turned] w6 := hw.get i (hiL _)
        refine wpAnyTS_quiet 13 1 0 50 (by rfl) (by kernel_rfl) (fun _ _ _ _ _ h => h) (by kernel_rfl) (by kernel_rfl) ?_
        apply Exists.intro
        refine ⟨fun w2' hw2 => ?_, ?_⟩
        · have hne := laterR_ne (R := Up) rok_upQ w2'
          obtain ⟨b0, b1, b2, b3, b4, b5, b6, b7, -⟩ := RowAt.c8 (hw2 hp1)
          have l4 := laterU b4
          have l5 := laterU b5
          clear b0 b1 b2 b3 b4 b5 b6 b7
          simp only [List.drop_succ_cons, List.drop_zero, List.take_succ_cons, List.take_zero]
          repeat (go_big_quiet_step (fail))
          exact wpQuiet_nil rfl
        refine wpAnyTS_done (by kernel_rfl) ?_
        intro w7 hu7
        replace hw := hw.next hu7
        clear hu7 hp1
        have hE : Hold W w7 (l ++ [recsR (some ⟨b9, 0, none⟩) c9 (recs.drop written ++ [s])]) := by
          unfold recsR
          rw [HALL.out]
          exact hw
        clear hw
        have hra := recs_all hE (hlL _)
        have CFF := Lib.hid (CF.out _ _ c9 hra)
        have HHi := Lib.hid hiL
        have HHj := Lib.hid hjL
        have HHk := Lib.hid hkL
        have HHl := Lib.hid hlL
        clear hra hiL hjL hkL hlL
        have hbig' : ¬ (N0 : Int) > R0 := by omega
        go_upto_region 7 with (first
          | ((with_reducible refine CFF.out.mono ?_); rintro e w8 ⟨rfl, hu8⟩; replace hE := hE.next hu8; clear hu8 CFF)
          | ((with_reducible refine (CN.out _).mono ?_); rintro e w9 ⟨rfl, rfl⟩)
          | ((with_reducible refine (CRm.out _ _ hE (HHi.out _) (HHj.out _)).mono ?_); rintro e w10 ⟨rfl, hu10⟩; replace hE := hE.next hu10; clear hu10))
        obtain ⟨a0, a1, a2, a3, a4, a5, a6, a7, e0, e1, e2, e3, e4, e5, e6, e7⟩ := RowAt.c8 (hE.get i (HHi.out _))
        have hra := recs_all hE (HHk.out _)
        have CC3 := Lib.hid (CC2.out _ hra)
        clear hra
        go_upto_region 8 with (first
          | ((with_reducible refine CC3.out.mono ?_); rintro e w11 ⟨q7, c7, rfl, hR⟩; replace hE := hE.drop.add hR.up _ (hR.get 0 rfl) (hR.new 0 rfl); clear hR CC3 a0 a1 a2 a3 a4 a5 a6 a7 e0 e1 e2 e3 e4 e5 e6 e7)
          | ((with_reducible refine wpList_at 42 ?_); have hF := hE.madeRow (.string s) [] 9; have r7 : RowAt _ w11.heap.size [.string s] := hF.get (R := rowR w11.heap.size (.string s) []) (l.length + 1) (by rw [List.append_assoc, List.getElem?_append_right (by omega)]; simp); refine wpList_appendZ rfl _ _ 49 rfl 9 inf (.string ⟨#[]⟩) 1 16 (by kernel_rfl) hi0' hz0 hz1 hz2 rfl (by decide) hF l.length _ (strC recs) recs.length (by rw [List.append_assoc, List.getElem?_append_right (Nat.le_refl _), Nat.sub_self]; rfl) rfl ⟨w11.heap.size, 0, none⟩ 1 [.string s] rfl rfl r7.addsAt (strC_one [s]) (by unfold maxLen; omega) (by omega) ?_; intro b8 c8 w12 hG; rw [List.append_assoc, List.set_append_right _ _ (Nat.le_refl _), Nat.sub_self] at hG; replace hG := hG.sub (l' := l ++ [ownZ 9 1 (.slice (some ⟨b8, 0, none⟩) (recs.length + 1) c8) (recs.length + 1) (strC recs ++ [.string s])]) (List.Sublist.append_left (.cons_cons _ (List.nil_sublist _)) l); clear hF r7 hE; obtain ⟨a0, a1, a2, a3, a4, a5, a6, a7, e0, e1, e2, e3, e4, e5, e6, e7⟩ := RowAt.c8 (hG.get i (HHi.out _))))
        replace hG := hG.putRow i (HHi.out _) 4 (.slice (some ⟨b8, 0, none⟩) (recs.length + 1) c8) (.pointer (some ⟨g, 0, none⟩)) [.int .i64 (which : Int), .int .i64 age, .int .i64 (pages : Int), .slice (some ⟨b8, 0, none⟩) (recs.length + 1) c8, .int .i64 (written : Int), .int .i64 (sure : Int), .string turned] (by simp) rfl
        have hil : i < l.length := (List.getElem?_eq_some_iff.1 HI.out).1
        rw [List.set_append_left _ _ hil] at hG
        replace hG := hG.lastAt k
        clear a0 a1 a2 a3 a4 a5 a6 a7 e0 e1 e2 e3 e4 e5 e6 e7
        generalize World.setCell _ _ _ = w13 at *
        obtain ⟨a0, a1, a2, a3, a4, a5, a6, a7, e0, e1, e2, e3, e4, e5, e6, e7⟩ := RowAt.c8 (hG.get i (show _ = some (rowR gl (.pointer (some ⟨g, 0, none⟩)) [.int .i64 (which : Int), .int .i64 age, .int .i64 (pages : Int), .slice (some ⟨b8, 0, none⟩) (recs.length + 1) c8, .int .i64 (written : Int), .int .i64 (sure : Int), .string turned]) by rw [List.getElem?_set_ne (Ne.symm hik), List.getElem?_set_self hil]))
        go_wp2_with fail
        refine bodyPost_ret (v := .tuple #[.int .i64 ((recs.length : Int) + 1), .int .i64 0]) (by simp [results, Try.results14, go_sem]) rfl ⟨rfl, some ⟨b8, 0, none⟩, c8, ?_⟩
        have hl1 : (recs ++ [s]).length = recs.length + 1 := by simp
        show Hold W _ ((l.set i (rowR gl _ [.int .i64 (which : Int), .int .i64 age, .int .i64 (pages : Int), .slice (some ⟨b8, 0, none⟩) (recs ++ [s]).length c8, .int .i64 (written : Int), .int .i64 (sure : Int), .string turned])).set k (ownZ _ 1 (.slice (some ⟨b8, 0, none⟩) (recs ++ [s]).length c8) (recs ++ [s]).length (strC (recs ++ [s]))))
        rw [hl1, show strC (recs ++ [s]) = strC recs ++ [.string s] by simp [strC]]
        exact hG
      · simp only [List.drop_succ_cons, List.drop_zero, List.take_succ_cons, List.take_zero]
        have hY := ((HX0.out.next hup).madeRow (.string s) [] 9)
        have hp2 := rowIs_up ((Up.refl w2).alloc (.cells #[.string s] 9)) hp1
        have hup2 := hup.alloc (.cells #[.string s] 9)
        go_wp2_with fail
        refine ⟨.inr fun h => rowIs_up ((Up.refl _).alloc _) h, ?_⟩
        clear hp1 hup
        have hX := hY
        have hp1 := hp2
        have hup := hup2
        clear hY hp2 hup2
        generalize w2.heap.size = gs at *
        replace hX : Hold W (w2.alloc (.cells #[.string s] 9)) _ := hX
        generalize w2.alloc _ = w4 at *
        refine wpAnyTS_some 9 [] 2 (by rfl) (by kernel_rfl) (by kernel_rfl) ?_
        intro w2 hu2
        replace hup := Up.trans hup hu2
        replace hX := hX.next hu2
        replace hp1 := rowIs_up hu2 hp1
        clear hu2
        refine ⟨?_, trivial⟩
        simp only [List.drop_succ_cons, List.drop_zero, List.take_succ_cons, List.take_zero]
        have hC := CC.out w2 (HP.out.up hup)
        replace hC := Lib.hid hC
        go_wp2_with ((with_reducible refine hC.out.mono ?_); rintro e w3 ⟨q3, c3, rfl, hR⟩)
        refine ⟨.inr fun h => rowIs_up hR.up h, ?_⟩
        replace hX := hX.add hR.up _ (hR.get 0 rfl) (hR.new 0 rfl)
        replace hp1 := rowIs_up hR.up hp1
        clear hC hR
        replace hX := hX.perm (l' := l ++ [recsR q3 c3 (recs.drop written)] ++ [rowR gs (.string s) []]) (by rw [List.append_assoc, List.append_assoc]; exact List.Perm.append_left l (List.Perm.swap _ _ _))
        have hll : (l ++ [recsR q3 c3 (recs.drop written)] ++ [rowR gs (.string s) []])[l.length]? = some (ownZ 9 1 (.slice q3 (recs.drop written).length c3) (recs.drop written).length (strC (recs.drop written))) := by rw [List.append_assoc, List.getElem?_append_right (Nat.le_refl _), Nat.sub_self]; rfl
        have hlr : (l ++ [recsR q3 c3 (recs.drop written)] ++ [rowR gs (.string s) []])[l.length + 1]? = some (rowR gs (.string s) []) := by rw [List.append_assoc, List.getElem?_append_right (by omega)]; simp
        rw [HDL.out] at hll
        refine wpAnyTS_some 12 [] 1 (by rfl) (by kernel_rfl) (by kernel_rfl) ?_
        intro w2 hu2
        replace hX := hX.next hu2
        replace hp1 := rowIs_up hu2 hp1
        have r7 : RowAt w2 gs [.string s] := hX.get (R := rowR gs (.string s) []) (l.length + 1) hlr
        clear hu2
        refine ⟨?_, trivial⟩
        simp only [List.drop_succ_cons, List.drop_zero, List.take_succ_cons, List.take_zero]
        go_wp2_with ((with_reducible refine wpList_at 26 ?_); refine wpList_appendZ rfl _ _ 49 rfl 9 inf (.string ⟨#[]⟩) 1 16 (by kernel_rfl) hi0' hz0 hz1 hz2 rfl (by decide) hX l.length _ (strC (recs.drop written)) (recs.length - written) hll rfl ⟨gs, 0, none⟩ 1 [.string s] rfl rfl r7.addsAt (strC_one [s]) (by unfold maxLen; omega) (by omega) ?_; intro b9 c9 w6 hw)
        have hset : (l ++ [recsR q3 c3 (recs.drop written)] ++ [rowR gs (.string s) []]).set l.length (ownZ 9 1 (.slice (some ⟨b9, 0, none⟩) (recs.length - written + 1) c9) (recs.length - written + 1) (strC (recs.drop written) ++ [.string s])) = l ++ [ownZ 9 1 (.slice (some ⟨b9, 0, none⟩) (recs.length - written + 1) c9) (recs.length - written + 1) (strC (recs.drop written) ++ [.string s])] ++ [rowR gs (.string s) []] := by
          rw [List.append_assoc, List.set_append_right _ _ (Nat.le_refl _), Nat.sub_self, List.append_assoc]; rfl
        rw [hset] at hw
        replace hw := hw.drop
        rw [HCH.out (.string s)] at hw
        have hiL : ∀ R : Res, (l ++ [R])[i]? = some (rowR gl (.pointer (some ⟨g, 0, none⟩)) [.int .i64 (which : Int), .int .i64 age, .int .i64 (pages : Int), .slice ql recs.length cl, .int .i64 (written : Int), .int .i64 (sure : Int), .string turned]) := fun R => by rw [List.getElem?_append_left (List.getElem?_eq_some_iff.1 HI.out).1]; exact HI.out
        have hjL : ∀ R : Res, (l ++ [R])[j]? = some (diskR g a q c d) := fun R => by rw [List.getElem?_append_left (List.getElem?_eq_some_iff.1 HJ.out).1]; exact HJ.out
        have hkL : ∀ R : Res, (l ++ [R])[k]? = some (recsR ql cl recs) := fun R => by rw [List.getElem?_append_left (List.getElem?_eq_some_iff.1 HK.out).1]; exact HK.out
        have hlL : ∀ R : Res, (l ++ [R])[l.length]? = some R := fun R => by rw [List.getElem?_append_right (Nat.le_refl _), Nat.sub_self]; rfl
        refine ⟨.inr fun _ => hw.get i (hiL _), ?_⟩
        clear hp1 hset r7 hX hll hlr hup
        have hp1 : RowIs gl (.pointer (some ⟨g, 0, none⟩)) [.int .i64 (which : Int), .int .i64 age, .int .i64 (pages : Int), .slice ql recs.length cl, .int .i64 (written : Int), .int .i64 (sure : Int), .string turned] w6 := hw.get i (hiL _)
        refine wpAnyTS_quiet 13 1 0 50 (by rfl) (by kernel_rfl) (fun _ _ _ _ _ h => h) (by kernel_rfl) (by kernel_rfl) ?_
        apply Exists.intro
        refine ⟨fun w2' hw2 => ?_, ?_⟩
        · have hne := laterR_ne (R := Up) rok_upQ w2'
          obtain ⟨b0, b1, b2, b3, b4, b5, b6, b7, -⟩ := RowAt.c8 (hw2 hp1)
          have l4 := laterU b4
          have l5 := laterU b5
          clear b0 b1 b2 b3 b4 b5 b6 b7
          simp only [List.drop_succ_cons, List.drop_zero, List.take_succ_cons, List.take_zero]
          repeat (go_big_quiet_step (fail))
          exact wpQuiet_nil rfl
        refine wpAnyTS_done (by kernel_rfl) ?_
        intro w7 hu7
        replace hw := hw.next hu7
        clear hu7 hp1
        have hE : Hold W w7 (l ++ [recsR (some ⟨b9, 0, none⟩) c9 (recs.drop written ++ [s])]) := by
          unfold recsR
          rw [HALL.out]
          exact hw
        clear hw
        have hra := recs_all hE (hlL _)
        have CFF := Lib.hid (CF.out _ _ c9 hra)
        have HHi := Lib.hid hiL
        have HHj := Lib.hid hjL
        have HHk := Lib.hid hkL
        have HHl := Lib.hid hlL
        clear hra hiL hjL hkL hlL
        have hbig' : ¬ (N0 : Int) > R0 := by omega
        go_upto_region 7 with (first
          | ((with_reducible refine CFF.out.mono ?_); rintro e w8 ⟨rfl, hu8⟩; replace hE := hE.next hu8; clear hu8 CFF)
          | ((with_reducible refine (CN.out _).mono ?_); rintro e w9 ⟨rfl, rfl⟩)
          | ((with_reducible refine (CRm.out _ _ hE (HHi.out _) (HHj.out _)).mono ?_); rintro e w10 ⟨rfl, hu10⟩; replace hE := hE.next hu10; clear hu10))
        obtain ⟨a0, a1, a2, a3, a4, a5, a6, a7, e0, e1, e2, e3, e4, e5, e6, e7⟩ := RowAt.c8 (hE.get i (HHi.out _))
        have hra := recs_all hE (HHk.out _)
        have CC3 := Lib.hid (CC2.out _ hra)
        clear hra
        go_upto_region 8 with (first
          | ((with_reducible refine CC3.out.mono ?_); rintro e w11 ⟨q7, c7, rfl, hR⟩; replace hE := hE.drop.add hR.up _ (hR.get 0 rfl) (hR.new 0 rfl); clear hR CC3 a0 a1 a2 a3 a4 a5 a6 a7 e0 e1 e2 e3 e4 e5 e6 e7)
          | ((with_reducible refine wpList_at 42 ?_); have hF := hE.madeRow (.string s) [] 9; have r7 : RowAt _ w11.heap.size [.string s] := hF.get (R := rowR w11.heap.size (.string s) []) (l.length + 1) (by rw [List.append_assoc, List.getElem?_append_right (by omega)]; simp); refine wpList_appendZ rfl _ _ 49 rfl 9 inf (.string ⟨#[]⟩) 1 16 (by kernel_rfl) hi0' hz0 hz1 hz2 rfl (by decide) hF l.length _ (strC recs) recs.length (by rw [List.append_assoc, List.getElem?_append_right (Nat.le_refl _), Nat.sub_self]; rfl) rfl ⟨w11.heap.size, 0, none⟩ 1 [.string s] rfl rfl r7.addsAt (strC_one [s]) (by unfold maxLen; omega) (by omega) ?_; intro b8 c8 w12 hG; rw [List.append_assoc, List.set_append_right _ _ (Nat.le_refl _), Nat.sub_self] at hG; replace hG := hG.sub (l' := l ++ [ownZ 9 1 (.slice (some ⟨b8, 0, none⟩) (recs.length + 1) c8) (recs.length + 1) (strC recs ++ [.string s])]) (List.Sublist.append_left (.cons_cons _ (List.nil_sublist _)) l); clear hF r7 hE; obtain ⟨a0, a1, a2, a3, a4, a5, a6, a7, e0, e1, e2, e3, e4, e5, e6, e7⟩ := RowAt.c8 (hG.get i (HHi.out _))))
        replace hG := hG.putRow i (HHi.out _) 4 (.slice (some ⟨b8, 0, none⟩) (recs.length + 1) c8) (.pointer (some ⟨g, 0, none⟩)) [.int .i64 (which : Int), .int .i64 age, .int .i64 (pages : Int), .slice (some ⟨b8, 0, none⟩) (recs.length + 1) c8, .int .i64 (written : Int), .int .i64 (sure : Int), .string turned] (by simp) rfl
        have hil : i < l.length := (List.getElem?_eq_some_iff.1 HI.out).1
        rw [List.set_append_left _ _ hil] at hG
        replace hG := hG.lastAt k
        clear a0 a1 a2 a3 a4 a5 a6 a7 e0 e1 e2 e3 e4 e5 e6 e7
        generalize World.setCell _ _ _ = w13 at *
        obtain ⟨a0, a1, a2, a3, a4, a5, a6, a7, e0, e1, e2, e3, e4, e5, e6, e7⟩ := RowAt.c8 (hG.get i (show _ = some (rowR gl (.pointer (some ⟨g, 0, none⟩)) [.int .i64 (which : Int), .int .i64 age, .int .i64 (pages : Int), .slice (some ⟨b8, 0, none⟩) (recs.length + 1) c8, .int .i64 (written : Int), .int .i64 (sure : Int), .string turned]) by rw [List.getElem?_set_ne (Ne.symm hik), List.getElem?_set_self hil]))
        go_wp2_with fail
        refine bodyPost_ret (v := .tuple #[.int .i64 ((recs.length : Int) + 1), .int .i64 0]) (by simp [results, Try.results14, go_sem]) rfl ⟨rfl, some ⟨b8, 0, none⟩, c8, ?_⟩
        have hl1 : (recs ++ [s]).length = recs.length + 1 := by simp
        show Hold W _ ((l.set i (rowR gl _ [.int .i64 (which : Int), .int .i64 age, .int .i64 (pages : Int), .slice (some ⟨b8, 0, none⟩) (recs ++ [s]).length c8, .int .i64 (written : Int), .int .i64 (sure : Int), .string turned])).set k (ownZ _ 1 (.slice (some ⟨b8, 0, none⟩) (recs ++ [s]).length c8) (recs ++ [s]).length (strC (recs ++ [s]))))
        rw [hl1, show strC (recs ++ [s]) = strC recs ++ [.string s] by simp [strC]]
        exact hG
  · have hE : L.appendE d s = E0 := by unfold LogD.appendE; rw [if_pos (by rw [hE0]; exact hz), hE0]
    have hL : L.append d s = L := by unfold LogD.append; rw [if_neg (by rw [hE]; exact hz)]
    have hN : L.appendN d s = 0 := by unfold LogD.appendN; rw [if_neg (by rw [hE]; exact hz)]
    have hH : Hold W w ((l.set i (logRow gl (.pointer (some ⟨g, 0, none⟩)) L ql cl)).set k (recsR ql cl L.recs)) := by
      rw [set_same hi, set_same hk]; exact h
    have HF := Lib.hid hH
    have HRes := Lib.hid (show (l.set i (logRow gl (.pointer (some ⟨g, 0, none⟩)) L ql cl)).set k (recsR ql cl L.recs) = l by rw [set_same hi, set_same hk])
    rw [hE, hN, hL]
    clear hH hL hE hN
    have hz2 : (E0 != 0) = true := by simpa using hz
    clear hrow hi hj h hE0 hk
    go_enter Try.func14, Try.ntmps14
    go_wp2_with ((with_reducible refine CW.out.mono ?_); rintro e wn ⟨rfl, rfl⟩)
    refine bodyPost_ret (v := .tuple #[.int .i64 0, .int .i64 E0]) (by simp [results, Try.results14, go_sem]) rfl ?_
    exact ⟨rfl, ql, cl, HF.out⟩
end Go.Proofs.Ytokpkkjgagbpfaa
namespace Bw
open Go Go.RowKit
set_option linter.unusedVariables false
def sameS (a b : List ByteArray) : Bool := decide (a = b)
def startsS (a b : List ByteArray) : Bool := decide (a.length ≤ b.length) && sameS a (b.take a.length)
theorem recQ_zero (q : Option Addr) (c : Nat) : recQ q c 0 = q := by
  unfold recQ
  split
  · rfl
  · cases q with
    | none => rfl
    | some a =>
      show some (a.add (0 * 1)) = some a
      congr 1
theorem str_eqS (a b : ByteArray) : (a.toList == b.toList) = decide (a = b) := by
  rw [Bool.eq_iff_iff, beq_iff_eq, decide_eq_true_iff]
  constructor
  · intro h
    rw [Lib.toList_data, Lib.toList_data] at h
    obtain ⟨⟨a⟩⟩ := a
    obtain ⟨⟨b⟩⟩ := b
    simp at h
    rw [h]
  · intro h; rw [h]
theorem RecsAt.take {w : World} {q : Option Addr} {rs : List ByteArray} (h : RecsAt w q rs) (n : Nat) : RecsAt w q (rs.take n) := by
  intro hne
  obtain ⟨b, o, e, hc⟩ := h (fun e => hne (by rw [e]; simp))
  refine ⟨b, o, e, fun i hi => ?_⟩
  rw [List.length_take] at hi
  rw [hc i (by omega)]
  simp
theorem same_all {rs ts : List ByteArray} (h : rs.length = ts.length) (hk : ∀ i, i < rs.length → rs[i]? = ts[i]?) : rs = ts := by
  apply List.ext_getElem? 
  intro i
  rcases Nat.lt_or_ge i rs.length with h1 | h1
  · exact hk i h1
  · rw [List.getElem?_eq_none h1, List.getElem?_eq_none (by omega)]
end Bw
namespace Go.Proofs.Ytokpkkjgagbpfaa
open Go.RowKit Bw
set_option linter.unusedVariables false
set_option maxRecDepth 100000
theorem slice_to (q : Option Addr) (n c m : Nat) (hm : m ≤ c) (w : World) : (Instr.sliceAt 49 (.slice q n c) none (some (.int .i64 (m : Int))) none).run Try.prog w = .ok (.slice q m c) w := by
  have hu : Try.prog.underlying 49 = some (.slice (Try.prog.elem 49)) := by kernel_rfl
  have h1 := run_sliceAt_slice (P := Try.prog) (w := w) 49 (.slice q n c) none (some (.int .i64 (m : Int))) none hu
  have h2 := run_slice_h (P := Try.prog) (w := w) 49 q n c hu .i64 (m : Int) (by omega) (by omega)
  have hs : (sizeOf (Try.prog.elem 49)).run Try.prog w = .ok 1 w := by kernel_rfl
  rw [hs] at h2
  refine h1.trans (h2.trans ?_)
  have e : sliced q 0 ((m : Int).toNat) c 1 = .slice (recQ q c 0) m c := rfl
  show Result.ok (sliced q 0 ((m : Int).toNat) c 1) w = _
  rw [e, recQ_zero]
set_option maxHeartbeats 1000000 in
theorem ref2_Same {w : World} {q q' : Option Addr} {c c' : Nat} (rs ts : List ByteArray) (h : RecsAt w q rs) (h' : RecsAt w q' ts) (hn : rs.length ≤ 1000000) (hm : ts.length ≤ 1000000) :
    Calls Try.prog 30 #[.slice q rs.length c, .slice q' ts.length c'] w fun e w' => e = .returned (.bool (sameS rs ts)) ∧ Up w w' := by
  obtain ⟨R, hR⟩ : ∃ R, sameS rs ts = R := ⟨_, rfl⟩
  have HR := Lib.hid hR
  rw [hR]
  obtain ⟨n, hnn⟩ : ∃ n, rs.length = n := ⟨_, rfl⟩
  obtain ⟨m, hmm⟩ : ∃ m, ts.length = m := ⟨_, rfl⟩
  rw [hnn] at hn ⊢
  rw [hmm] at hm ⊢
  have HN := Lib.hid hnn
  have HM := Lib.hid hmm
  have H1 := Lib.hid h
  have H2 := Lib.hid h'
  clear hR hnn hmm h h'
  by_cases hl : n = m
  · subst hl
    go_enter Try.func30, Try.ntmps30
    go_wp2_with fail
    go_loopw [5] (fun v5 wr => ∃ k : Nat, v5 = .int .i64 (k : Int) ∧ k ≤ n ∧ (∀ i, i < k → rs[i]? = ts[i]?) ∧ Up w wr) (fun v _ => n - (intOf v).toNat)
    case atStart => exact ⟨0, rfl, Nat.zero_le _, (fun i hi => by omega), Up.refl w⟩
    case round =>
    obtain ⟨k, rfl, hk, hs, hu⟩ := hrel
    by_cases hkn : k < n
    · have hkn' : (k : Int) < (n : Int) := by omega
      obtain ⟨b, o, rfl, hc⟩ := (H1.out.up hu) (fun h => by have := HN.out; rw [h] at this; simp at this; omega)
      obtain ⟨b', o', rfl, hc'⟩ := (H2.out.up hu) (fun h => by have := HM.out; rw [h] at this; simp at this; omega)
      have c1 := hc k (by rw [HN.out]; exact hkn)
      have c2 := hc' k (by rw [HM.out]; exact hkn)
      have g1 : rs[k]? = some (rs[k]'(by rw [HN.out]; exact hkn)) := List.getElem?_eq_getElem _
      have g2 : ts[k]? = some (ts[k]'(by rw [HM.out]; exact hkn)) := List.getElem?_eq_getElem _
      have hkr : k < rs.length := by rw [HN.out]; exact hkn
      have hkt : k < ts.length := by rw [HM.out]; exact hkn
      generalize rs[k]'hkr = x at *
      generalize ts[k]'hkt = y at *
      clear hkr hkt
      have HS := Lib.hid hs
      clear hs hc hc'
      have heq := str_eqS x y
      have HE := Lib.hid heq
      clear heq
      cases hb : (x.toList == y.toList)
      · have hno : ¬ rs = ts := fun e => by
          have h1 := HE.out
          rw [hb] at h1
          rw [e, g2] at g1; injection g1 with g1
          rw [g1] at h1; simp at h1
        have hr0 : R = false := by rw [← HR.out]; unfold sameS; rw [decide_eq_false hno]
        subst hr0
        clear hno
        go_upto_region 6 with fail
        refine wp_region_later (by kernel_rfl) (by kernel_rfl) ?_
        have l1 := Later.cell_of c1
        have l2 := Later.cell_of c2
        have hne := later_ne wr
        repeat (go_big_quiet_step (fail))
        refine wpQuiet_nil ?_
        rintro w9 ⟨u9, rfl⟩
        replace hu := Up.trans hu u9.up
        clear l1 l2 hne c1 c2
        generalize u9.world = w9 at *
        go_wp2_with fail
        go_ret
        exact ⟨rfl, hu⟩
      · have hxy : x = y := by
          have h1 := HE.out
          rw [hb] at h1
          exact decide_eq_true_iff.1 h1.symm
        have HXY := Lib.hid (g1.trans ((congrArg some hxy).trans g2.symm))
        clear hxy
        go_upto_region 6 with fail
        refine wp_region_later (by kernel_rfl) (by kernel_rfl) ?_
        have l1 := Later.cell_of c1
        have l2 := Later.cell_of c2
        have hne := later_ne wr
        repeat (go_big_quiet_step (fail))
        refine wpQuiet_nil ?_
        rintro w9 ⟨u9, rfl⟩
        replace hu := Up.trans hu u9.up
        clear l1 l2 hne c1 c2
        generalize u9.world = w9 at *
        go_wp2_with fail
        case roundEnd =>
        exact ⟨⟨k + 1, rfl, by omega, fun i hi => by
          by_cases e : i = k
          · rw [e]; exact HXY.out
          · exact HS.out i (by omega), hu⟩, by simp [intOf]; omega⟩
    · have hkn' : ¬ (k : Int) < (n : Int) := by omega
      have hk3 : k = n := by omega
      subst hk3
      have hyes : rs = ts := same_all (by rw [HN.out, HM.out]) fun i hi => hs i (by rw [HN.out] at hi; exact hi)
      have hr0 : R = true := by rw [← HR.out]; unfold sameS; rw [decide_eq_true hyes]
      subst hr0
      clear hs hyes
      go_wp2_with fail
      go_ret
      exact ⟨rfl, hu⟩
  · have hl2 : ((n : Int) != (m : Int)) = true := by simp; omega
    have hl3 : ¬ (n : Int) = (m : Int) := by omega
    clear H1 H2
    have hno : ¬ rs = ts := fun e => hl (by rw [← HN.out, ← HM.out, e])
    have hr0 : R = false := by rw [← HR.out]; unfold sameS; rw [decide_eq_false hno]
    subst hr0
    clear hno
    go_enter Try.func30, Try.ntmps30
    go_wp2_with fail
    go_ret
    exact ⟨rfl, Up.refl _⟩
theorem law6_starts {w : World} {q q' : Option Addr} {c c' : Nat} (rs ts : List ByteArray) (h : RecsAt w q rs) (h' : RecsAt w q' ts) (hn : rs.length ≤ 1000000) (hm : ts.length ≤ 1000000) (hc : ts.length ≤ c') :
    Calls Try.prog 29 #[.slice q rs.length c, .slice q' ts.length c'] w fun e w' => e = .returned (.bool (startsS rs ts)) ∧ Up w w' := by
  obtain ⟨R, hR⟩ : ∃ R, startsS rs ts = R := ⟨_, rfl⟩
  have HR := Lib.hid hR
  rw [hR]
  by_cases hl : rs.length ≤ ts.length
  · have ht : (ts.take rs.length).length = rs.length := by rw [List.length_take]; omega
    have C := Lib.hid (show Calls Try.prog 30 #[.slice q rs.length c, .slice q' rs.length c'] w fun e w' => e = .returned (.bool (sameS rs (ts.take rs.length))) ∧ Up w w' from by
      have := ref2_Same (c := c) (c' := c') rs (ts.take rs.length) h (h'.take _) hn (by omega)
      rw [ht] at this
      exact this)
    have hsl := fun w => slice_to q' ts.length c' rs.length (by omega) w
    have hR2 : sameS rs (ts.take rs.length) = R := by rw [← hR]; unfold startsS; rw [decide_eq_true hl]; rfl
    rw [hR2] at C
    generalize rs.length = n at *
    generalize ts.length = m at *
    have hl2 : (n : Int) ≤ (m : Int) := by omega
    clear h h' hR ht hR2
    go_enter Try.func29, Try.ntmps29
    go_wp2_with ((with_reducible refine C.out.mono ?_); rintro e wn ⟨rfl, hu⟩)
    go_ret
    exact ⟨rfl, hu⟩
  · have hR2 : R = false := by rw [← hR]; unfold startsS; rw [decide_eq_false hl]; rfl
    generalize rs.length = n at *
    generalize ts.length = m at *
    have hl2 : ¬ (n : Int) ≤ (m : Int) := by omega
    subst hR2
    clear h h' hR
    go_enter Try.func29, Try.ntmps29
    go_wp2_with fail
    go_ret
    exact ⟨rfl, Up.refl _⟩
end Go.Proofs.Ytokpkkjgagbpfaa
namespace Bw
open Go Go.RowKit
set_option linter.unusedVariables false
/-- What the calls want of a log and its disk. -/
structure LogFit (L : LogD) (d : DiskD) (c : Nat) : Prop where
  hc : c + 100000000 ≤ 1099511627776
  hok : d.Ok
  hA : 0 ≤ L.age ∧ L.age + 1 < 281474976710656
  hw : L.which ≤ 1
  hwr : L.written ≤ L.recs.length
  hs : ∀ x ∈ L.recs.drop L.written, x.size ≤ 100000
  hn : L.recs.length ≤ 90000
  hfit : L.pages + needW (frameW (L.recs.drop L.written)).size ≤ 1000
  ht : L.turned.size ≤ 100000
theorem InvA.fit {L : LogD} {d : DiskD} {s c : Nat} (h : InvA L d s) (hc : c + 100000000 ≤ 1099511627776) (hA : L.age < 1099511627776) (hn : L.recs.length ≤ 90000) : LogFit L d c := by
  have h1 := h.age1
  have h2 := h.fits
  have h3 := h.ok.n2
  have h4 := h.turned
  have hH : d.halfN ≤ 512 := by unfold DiskD.halfN; omega
  exact ⟨hc, h.ok, ⟨by omega, by omega⟩, h.w1, h.wr, h.small, hn, by omega, by omega⟩
theorem InvB.fit' {L : LogD} {d : DiskD} {c : Nat} (h : InvB L d) (hc : c + 100000000 ≤ 1099511627776) (hA : L.age < 1099511627776) (hn : L.recs.length ≤ 90000) : LogFit L d c := by
  have h1 := h.age2
  have h2 := h.pH
  have h3 := h.ok.n2
  have h4 := h.wr
  have hH : d.halfN ≤ 512 := by unfold DiskD.halfN; omega
  have hd : L.recs.drop L.written = [] := by rw [h4, List.drop_length]
  refine ⟨hc, h.ok, ⟨by omega, by omega⟩, h.w1, by omega, fun x hx => ?_, hn, ?_, h.t2⟩
  · rw [hd] at hx; cases hx
  · rw [hd, need_zero]; omega
theorem InvA.wlen {L : LogD} {d : DiskD} {s : Nat} (h : InvA L d s) : d.W.length ≤ 512 := by
  have h3 := h.ok.n2
  have hH : d.halfN ≤ 512 := by unfold DiskD.halfN; omega
  have hl := h.nodup.length_le_of_subset (l₂ := (List.range d.halfN).map (pg d L.which)) fun x hx => by
    obtain ⟨v, hv, rfl⟩ := List.mem_map.1 hx
    obtain ⟨i, i1, i2, i3⟩ := h.within v hv
    exact List.mem_map.2 ⟨i, List.mem_range.2 (by have := h.pH; omega), i3.symm⟩
  rw [List.length_map, List.length_map, List.length_range] at hl
  omega
theorem InvB.wlen {L : LogD} {d : DiskD} (h : InvB L d) : d.W.length ≤ 512 := by
  have h3 := h.ok.n2
  have hH : d.halfN ≤ 512 := by unfold DiskD.halfN; omega
  have hl := h.nodup.length_le_of_subset (l₂ := (List.range d.halfN).map (pg d (1 - L.which))) fun x hx => by
    obtain ⟨v, hv, rfl⟩ := List.mem_map.1 hx
    obtain ⟨i, i2, i3⟩ := h.within v hv
    exact List.mem_map.2 ⟨i, List.mem_range.2 (by have := h.fit; omega), i3.symm⟩
  rw [List.length_map, List.length_map, List.length_range] at hl
  omega
theorem write_recs (L : LogD) : L.write.recs = L.recs := by unfold LogD.write; split <;> rfl
theorem turn_recs (L : LogD) (d : DiskD) (x : ByteArray) : (L.turn d x).recs = L.recs := by unfold LogD.turn; split <;> rfl
variable {W w w' : World} {l l' : List Res} {R : Res}
/-- Things that came to be behind a world, beside those that are held there. -/
theorem Hold.join (h : Hold W w l) (h2 : Hold w w' l') : Hold W w' (l ++ l') := by
  have h1 := h.next h2.up
  refine ⟨h1.up, fun T hT => ?_, List.pairwise_append.2 ⟨h.apart, h2.apart, fun T hT S hS k hk hk' => ?_⟩⟩
  · rcases List.mem_append.1 hT with hT | hT
    · exact h1.all T hT
    · obtain ⟨e1, e2⟩ := h2.all T hT
      exact ⟨e1, fun k hk => Nat.le_trans (Below.size h.up) (e2 k hk)⟩
  · have h3 := T.lt (h.all T hT).1 hk
    have h4 := (h2.all S hS).2 k hk'
    omega
end Bw
namespace Go.Proofs.Ytokpkkjgagbpfaa
open Go.RowKit Bw
set_option linter.unusedVariables false
/-- A guard for an arm of a walk: which function is called. -/
theorem calls_at {P : Program} (f : FuncId) {args : Array Value} {w : World} {Q : Ending → World → Prop} (h : Calls P f args w Q) : Calls P f args w Q := h
/-- A disk, a log on it, its records, and whatever else there is. -/
abbrev trio (g a : Nat) (q : Option Nat) (c : Nat) (d : DiskD) (gl : Nat) (L : LogD) (ql : Option Addr) (cl : Nat) (rest : List Res) : List Res :=
  diskR g a q c d :: logRow gl (.pointer (some ⟨g, 0, none⟩)) L ql cl :: recsR ql cl L.recs :: rest
variable {W w : World} {g a c gl cl : Nat} {q : Option Nat} {ql : Option Addr} {d : DiskD} {L : LogD} {rest : List Res}
theorem tNew (n : Nat) (h1 : 1 ≤ n) (h2 : n ≤ 1024) (h : Hold W w rest) :
    Calls Try.prog 10 #[.int .i64 (n : Int)] w fun e w' => ∃ g a, e = .returned (.tuple #[.pointer (some ⟨g, 0, none⟩), .int .i64 0]) ∧ Hold W w' (diskR g a none 0 (initD n) :: rest) :=
  (hNew n h1 h2 h).mono fun e w' ⟨g, a, he, hh⟩ => ⟨g, a, he, hh.perm (List.perm_append_singleton _ _)⟩
theorem tAppend (h : Hold W w (trio g a q c d gl L ql cl rest)) (f : LogFit L d c) (s : ByteArray) (hs : s.size ≤ 1099511627776) :
    Calls Try.prog 14 #[.pointer (some ⟨gl, 0, none⟩), .string s] w fun e w' => e = .returned (.tuple #[.int .i64 (L.appendN d s), .int .i64 (L.appendE d s)]) ∧ ∃ ql' cl', Hold W w' (trio g a q c d gl (L.append d s) ql' cl' rest) :=
  wal_Append h 1 rfl 0 rfl 2 rfl (by decide) (by decide) f.hok f.hwr f.hn f.hs (by have := f.hfit; omega) s hs
theorem tWrite (h : Hold W w (trio g a q c d gl L ql cl rest)) (f : LogFit L d c) :
    Calls Try.prog 16 #[.pointer (some ⟨gl, 0, none⟩)] w fun e w' => e = .returned (.int .i64 L.writeE) ∧ ∃ q' c', c' ≤ c + 1000 ∧ Hold W w' (trio g a q' c' (L.writeD d) gl L.write ql cl rest) :=
  (wal_Write h 1 rfl 0 rfl 2 rfl (by decide) (by decide) (by decide) f.hc f.hok ⟨f.hA.1, by have := f.hA.2; omega⟩ f.hw f.hwr f.hs (by have := f.hn; omega) f.hfit).mono fun e w' ⟨he, q', c', hc, hh⟩ => ⟨he, q', c', hc, by
    have : Hold W w' (diskR g a q' c' (L.writeD d) :: logRow gl (.pointer (some ⟨g, 0, none⟩)) L.write ql cl :: recsR ql cl L.recs :: rest) := hh
    show Hold W w' (diskR g a q' c' (L.writeD d) :: logRow gl (.pointer (some ⟨g, 0, none⟩)) L.write ql cl :: recsR ql cl L.write.recs :: rest)
    rw [show recsR ql cl L.write.recs = recsR ql cl L.recs by rw [write_recs]]
    exact this⟩
theorem tSync (h : Hold W w (trio g a q c d gl L ql cl rest)) (f : LogFit L d c) :
    Calls Try.prog 18 #[.pointer (some ⟨gl, 0, none⟩)] w fun e w' => e = .returned (.tuple #[]) ∧ ∃ ql' cl', Hold W w' (trio g a none c d.syncD gl L.sync ql' cl' rest) :=
  wal_Sync h 1 rfl 0 rfl 2 rfl (by decide) (by decide) (by decide) (by have := f.hc; omega) f.hw f.ht
theorem tTurn (h : Hold W w (trio g a q c d gl L ql cl rest)) (f : LogFit L d c) (s : ByteArray) (hs : s.size ≤ 1099511627776) :
    Calls Try.prog 20 #[.pointer (some ⟨gl, 0, none⟩), .string s] w fun e w' => e = .returned (.int .i64 (L.turnE d s)) ∧ ∃ q' c', c' ≤ c + 1000 ∧ Hold W w' (trio g a q' c' (L.turnD d s) gl (L.turn d s) ql cl rest) :=
  (wal_Turn h 1 rfl 0 rfl (by decide) f.hc f.hok f.hA f.hw s hs).mono fun e w' ⟨he, q', c', hc, hh⟩ => ⟨he, q', c', hc, by
    have : Hold W w' (diskR g a q' c' (L.turnD d s) :: logRow gl (.pointer (some ⟨g, 0, none⟩)) (L.turn d s) ql cl :: recsR ql cl L.recs :: rest) := hh
    show Hold W w' (diskR g a q' c' (L.turnD d s) :: logRow gl (.pointer (some ⟨g, 0, none⟩)) (L.turn d s) ql cl :: recsR ql cl (L.turn d s).recs :: rest)
    rw [show recsR ql cl (L.turn d s).recs = recsR ql cl L.recs by rw [turn_recs]]
    exact this⟩
theorem tOpen (h : Hold W w (diskR g a q c d :: rest)) (hc : c ≤ 1099511627776) (hok : d.Ok) (hE : openLE d = 0) :
    Calls Try.prog 12 #[.pointer (some ⟨g, 0, none⟩)] w fun e w' => ∃ gl, e = .returned (.tuple #[.pointer (some ⟨gl, 0, none⟩), .int .i64 0]) ∧ ∃ ql cl, Hold W w' (trio g a q c d gl (openL d) ql cl rest) :=
  (wal_open h 0 rfl hc hok).mono fun e w' hp => by
    rcases hp with ⟨h1, -⟩ | ⟨-, gl, ql, cl, he, hh⟩
    · exact absurd hE h1
    · exact ⟨gl, he, ql, cl, (h.join hh).perm (List.Perm.cons _ List.perm_append_comm)⟩
theorem tOpenNo (h : Hold W w (diskR g a q c d :: rest)) (hc : c ≤ 1099511627776) (hok : d.Ok) (hE : openLE d ≠ 0) :
    Calls Try.prog 12 #[.pointer (some ⟨g, 0, none⟩)] w fun e w' => e = .returned (.tuple #[.pointer none, .int .i64 (openLE d)]) ∧ Hold W w' (diskR g a q c d :: rest) :=
  (wal_open h 0 rfl hc hok).mono fun e w' hp => by
    rcases hp with ⟨-, he, hu⟩ | ⟨h1, -⟩
    · exact ⟨he, h.next hu⟩
    · exact absurd h1 hE
theorem tCrash (h : Hold W w (diskR g a q c d :: rest)) (hc : c + d.W.length ≤ 1099511627776) (L : List Int) (fa : Option Addr) (fc : Nat) (hI : IntsAt w fa L) (hL : L.length ≤ 1099511627776) (hout : L ≠ [] → ∀ x, fa = some x → ¬ (diskR g a q c d).has x.block) :
    Calls Try.prog 22 #[.pointer (some ⟨g, 0, none⟩), .slice fa L.length fc] w fun e w' => e = .returned (.tuple #[]) ∧ Hold W w' (diskR g a none c (d.crashD L) :: rest) :=
  hCrash h 0 rfl hc L fa fc hI hL hout
theorem tRecords (h : Hold W w (trio g a q c d gl L ql cl rest)) (hn : L.recs.length ≤ 90000) :
    Calls Try.prog 28 #[.pointer (some ⟨gl, 0, none⟩)] w fun e w' => ∃ qr cr, e = .returned (.slice qr L.recs.length cr) ∧ L.recs.length ≤ cr ∧ Hold W w' (trio g a q c d gl L ql cl (recsR qr cr L.recs :: rest)) :=
  (wal_Records h 1 rfl 2 rfl (by omega)).mono fun e w' ⟨qr, cr, he, hh⟩ => ⟨qr, cr, he, by
    have h' : w'.ownsRow 0 9 1 (.slice qr L.recs.length cr) L.recs.length (strC L.recs) := hh.get 0 rfl
    rcases h'.2 with ⟨h0, h1⟩ | ⟨g, cap, cur, he, hb, hg, hnc, -⟩
    · omega
    · injection he with h1 _ h3
      omega, (h.join hh).perm (List.Perm.cons _ (List.Perm.cons _ (List.Perm.cons _ (List.perm_append_singleton _ _))))⟩
theorem tRoom (h : Hold W w (trio g a q c d gl L ql cl rest)) (hok : d.Ok) (hp : L.pages ≤ 1000000) :
    Calls Try.prog 34 #[.pointer (some ⟨gl, 0, none⟩)] w fun e w' => e = .returned (.int .i64 (L.room d)) ∧ Hold W w' (trio g a q c d gl L ql cl rest) :=
  (wal_Room h 1 rfl 0 rfl hok hp).mono fun e w' ⟨he, hu⟩ => ⟨he, h.next hu⟩
theorem tSure (h : Hold W w (trio g a q c d gl L ql cl rest)) : Calls Try.prog 56 #[.pointer (some ⟨gl, 0, none⟩)] w fun e w' => e = .returned (.int .i64 (L.sure : Int)) ∧ w = w' := wal_Sure h 1 rfl
theorem tPages (h : Hold W w (trio g a q c d gl L ql cl rest)) : Calls Try.prog 33 #[.pointer (some ⟨gl, 0, none⟩)] w fun e w' => e = .returned (.int .i64 (L.pages : Int)) ∧ w = w' := wal_Pages h 1 rfl
theorem tHalf (h : Hold W w (trio g a q c d gl L ql cl rest)) : Calls Try.prog 31 #[.pointer (some ⟨gl, 0, none⟩)] w fun e w' => e = .returned (.int .i64 (L.which : Int)) ∧ w = w' := wal_Half h 1 rfl
theorem tAge (h : Hold W w (trio g a q c d gl L ql cl rest)) : Calls Try.prog 32 #[.pointer (some ⟨gl, 0, none⟩)] w fun e w' => e = .returned (.int .i64 L.age) ∧ w = w' := wal_Age h 1 rfl
end Go.Proofs.Ytokpkkjgagbpfaa
namespace Bw
open Go Go.RowKit Go.Deep Go.ChangeShapes
set_option linter.unusedVariables false
theorem bits_low (p : Int) (n : Nat) (hn : n < 63) : bits .and .i64 p ((2 ^ n - 1 : Nat) : Int) = p % (2 ^ n : Nat) := by
  show IntKind.i64.wrap ((BitVec.ofInt 64 p &&& BitVec.ofInt 64 ((2 ^ n - 1 : Nat) : Int)).toNat : Int) = _
  have hp : 2 ^ n ≤ 2 ^ 62 := Nat.pow_le_pow_right (by omega) (by omega)
  have hp0 : 0 < 2 ^ n := Nat.pos_of_ne_zero (by simp)
  have h2 : (BitVec.ofInt 64 ((2 ^ n - 1 : Nat) : Int)).toNat = 2 ^ n - 1 := by
    rw [BitVec.ofInt_natCast, BitVec.toNat_ofNat]; exact Nat.mod_eq_of_lt (by omega)
  rw [BitVec.toNat_and, h2, Nat.and_two_pow_sub_one_eq_mod, BitVec.toNat_ofInt]
  have hd : ((2 ^ n : Nat) : Int) ∣ ((2 ^ 64 : Nat) : Int) := by
    rw [show (64 : Nat) = n + (64 - n) by omega, Nat.pow_add]
    exact ⟨((2 ^ (64 - n) : Nat) : Int), by simp⟩
  have e1 : (((p % ((2 ^ 64 : Nat) : Int)).toNat % 2 ^ n : Nat) : Int) = p % ((2 ^ n : Nat) : Int) := by
    rw [Int.natCast_emod, Int.toNat_of_nonneg (Int.emod_nonneg _ (by decide)), Int.emod_emod_of_dvd _ hd]
  rw [e1]
  have l0 := Int.emod_nonneg p (show ((2 ^ n : Nat) : Int) ≠ 0 by omega)
  have l1 := Int.emod_lt_of_pos p (show (0 : Int) < ((2 ^ n : Nat) : Int) by omega)
  have l2 : ((2 ^ n : Nat) : Int) ≤ 4611686018427387904 := by have : (2 ^ 62 : Nat) = 4611686018427387904 := rfl; omega
  generalize ((2 ^ n : Nat) : Int) = N at *
  rw [IntKind.wrap_i64]
  omega
theorem bits_7 (p : Int) : bits .and .i64 p 7 = p % 8 := bits_low p 3 (by omega)
theorem bits_15 (p : Int) : bits .and .i64 p 15 = p % 16 := bits_low p 4 (by omega)
/-- Where texts lie. -/
def TextsIn (w : World) (q : Option Addr) (l : List ByteArray) : Prop := l.length ≤ maxLen ∧ (∀ s ∈ l, s.size ≤ maxLen) ∧ ∀ j (hj : j < l.length), ∃ g o, q = some ⟨g, o, none⟩ ∧ w.cell? ⟨g, o + j, none⟩ = some (.string l[j])
theorem TextsIn.up {w w' : World} {q : Option Addr} {l : List ByteArray} (h : TextsIn w q l) (hu : Up w w') : TextsIn w' q l := ⟨h.1, h.2.1, fun j hj => by
  obtain ⟨g, o, hq, hc⟩ := h.2.2 j hj
  exact ⟨g, o, hq, (AllS.of_up (S := fun _ => False) hu).cell hc id⟩⟩
section
variable {H : Type} {enc : TypeId × Value → H} {P : Program} {w : World} {base : Nat} {spare : Nat → Bool} {held : Bool}
theorem open_texts {b0 : Nat} {r : Reach} {t e : TypeId} {v : Value} {d : DataW H} {p : List MemPlace} (ht : P.underlying t = some (.slice e)) (he : P.underlying e = some .string) (hce : P.cellsOf e = 1)
    (hv : Value.okWide P w r b0 t v) (h : DataW.Trod enc P w base (fun _ => true) held t v d p) : ∃ (l : List ByteArray) (q : Option Addr) (c : Nat), v = .slice q l.length c ∧ TextsIn w q l := by
  obtain ⟨a, n, cap, ss, rfl, hh⟩ := open_strs ht he hce hv h
  clear h
  rcases hh with ⟨rfl, rfl, rfl⟩ | ⟨x, rfl, h1, h2, h3, h4, h5⟩
  · exact ⟨[], none, 0, rfl, by simp, fun s hs => by simp at hs, fun j hj => by simp at hj⟩
  · have hlen : (ss.take n).length = n := by rw [List.length_take]; omega
    refine ⟨ss.take n, some x, cap, by rw [hlen], by omega, fun s hs => h5 s (List.mem_of_mem_take hs), fun j hj => ?_⟩
    rw [hlen] at hj
    obtain ⟨b, o, sp⟩ := x
    have h0 := h4 0 (by omega)
    have hsp : sp = none := by simpa [Addr.add] using World.cell?_spot h0
    subst hsp
    refine ⟨b, o, rfl, ?_⟩
    have := h4 j (by omega)
    rw [Bw.add_none] at this
    rw [this, List.getElem_take, List.getD_eq_getElem?_getD, List.getElem?_eq_getElem (by omega)]; rfl
end
/-- The first bytes, so many at most. -/
def cutB (m : Nat) (s : ByteArray) : ByteArray := s.extract 0 (min s.size m)
theorem cutB_size (m : Nat) (s : ByteArray) : (cutB m s).size = min s.size m := by unfold cutB; rw [ByteArray.size_extract]; omega
theorem cutB_min (m : Nat) (s : ByteArray) : s.extract 0 (min (s.size : Int) (m : Int)).toNat = cutB m s := by
  unfold cutB
  congr 1
  omega
end Bw
