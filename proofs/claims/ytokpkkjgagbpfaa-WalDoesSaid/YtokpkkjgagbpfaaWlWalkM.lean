/- Layer 6: the leaf that a page is. -/
import Derived.Test.YtokpkkjgagbpfaaWlWalk1
import Derived.Test.YtokpkkjgagbpfaaDsHold
import Derived.Test.YtokpkkjgagbpfaaOwnMore
import Derived.Test.YtokpkkjgagbpfaaAllR
import Derived.Test.YtokpkkjgagbpfaaWlPlainA
namespace Go.Proofs.Ytokpkkjgagbpfaa
open Go.RowKit Bw
set_option linter.unusedVariables false
def leafV (i : Nat) : Option LeafW → Value
  | some l => .agg #[.int .i64 l.age, .int .i64 i, .bool l.begins, .string l.bytes]
  | none => .agg #[.int .i64 0, .int .i64 0, .bool false, .string ⟨#[]⟩]
theorem readS_252 (d : DiskD) (p : Int) (h : d.readE p = 0) : (d.readS p).size = 252 := by
  unfold DiskD.readE at h
  unfold DiskD.readS
  by_cases hb : d.hasB p = true
  · rw [if_pos hb] at h ⊢
    rw [openS, if_pos h]
    unfold openE at h
    by_cases hz : (d.rawD p).size = 256
    · rw [ByteArray.size_extract]; omega
    · rw [if_neg hz] at h; cases h
  · rw [if_neg hb] at h; cases h
theorem add_small0 (M : Nat) (h1 : M ≤ 512) : wrap64 (M : Int) = (M : Int) := IntWalk.wrap64_in _ (by omega)
theorem add_small_ (M i p : Nat) (h1 : M ≤ 512) (h2 : i ≤ 512) (hp : M + i = p) : wrap64 ((M : Int) + (i : Int)) = (p : Int) := (IntWalk.wrap64_in _ (by omega)).trans (by omega)
variable {W w : World} {l : List Res} {g a c : Nat} {q : Option Nat} {d : DiskD}
set_option maxRecDepth 100000 in
set_option maxHeartbeats 1000000 in
theorem wal_read (h : Hold W w l) (j : Nat) (hj : l[j]? = some (diskR g a q c d)) (hc : c ≤ 1099511627776) (hok : d.Ok) (half i : Nat) (hh : half ≤ 1) (hi : i < d.halfN) :
    Calls Try.prog 63 #[.pointer (some ⟨g, 0, none⟩), .int .i64 half, .int .i64 i] w fun e w' => e = .returned (.tuple #[leafV i (d.leafW half i), .bool (d.leafW half i).isSome]) ∧ Below w.heap.size w w' := by
  have hn1 := hok.n1
  have hn2 := hok.n2
  obtain ⟨M, hM⟩ : ∃ M, half * d.halfN = M := ⟨_, rfl⟩
  have hM1 : M ≤ 512 := by
    have h1 : d.halfN ≤ 512 := by unfold DiskD.halfN; omega
    have : half = 0 ∨ half = 1 := by omega
    rcases this with rfl | rfl <;> omega
  have hM2 : (half : Int) * ((d.n : Int) / 2) = (M : Int) := by
    rw [← hM]; unfold DiskD.halfN; push_cast; rfl
  obtain ⟨p, hp⟩ : ∃ p, M + i = p := ⟨_, rfl⟩
  have hi2 : i ≤ 512 := by unfold DiskD.halfN at hi; omega
  have HL := Lib.hid (show d.leafW half i = if d.readE p = 0 then leafOf (d.readS p) i else none by
    unfold DiskD.leafW
    have e : (half : Int) * (d.halfN : Int) + (i : Int) = (p : Int) := by rw [← hp, ← hM]; push_cast; rfl
    rw [e])
  have hsz : (d.readS p).size ≤ 256 := by
    unfold DiskD.readS
    split
    · unfold openS
      split
      · rw [ByteArray.size_extract]; omega
      · simp
    · simp
  have CL := Lib.hid (fun w1 (hh : Hold W w1 l) => hLen hh j hj)
  have CR := Lib.hid (fun w1 (hh : Hold W w1 l) => hRead hh j hj hc ((M : Int) + (i : Int)))
  have h252 := readS_252 d ((M : Int) + (i : Int))
  rw [show (p : Int) = (M : Int) + (i : Int) by omega] at HL
  rw [show (p : Int) = (M : Int) + (i : Int) by omega] at hsz
  generalize d.leafW half i = RES at *
  generalize d.readE ((M : Int) + (i : Int)) = E at *
  generalize d.readS ((M : Int) + (i : Int)) = S at *
  have N1 := Lib.hid (fun w => wal_num S (by omega) 0 6 (by decide) w)
  have N2 := Lib.hid (fun w => wal_num S (by omega) 6 2 (by decide) w)
  have N3 := Lib.hid (fun w => wal_num S (by omega) 244 6 (by decide) w)
  have N4 := Lib.hid (fun w => wal_num S (by omega) 250 2 (by decide) w)
  have N5 := Lib.hid (fun w => wal_num S (by omega) 8 1 (by decide) w)
  have N6 := Lib.hid (fun w => wal_num S (by omega) 9 1 (by decide) w)
  have r6 := getV_range S 9 1 (by decide)
  obtain ⟨D, hDn⟩ : ∃ D : Nat, d.n = D := ⟨_, rfl⟩
  rw [hDn] at hM2 hn2
  obtain ⟨Q, hQ⟩ : ∃ Q : Nat, D / 2 = Q := ⟨_, rfl⟩
  have hQ2 : (D : Int) / 2 = (Q : Int) := by omega
  rw [hQ2] at hM2
  have hmul : wrap64 ((half : Int) * (Q : Int)) = (M : Int) := by rw [hM2]; exact add_small0 M hM1
  have CL2 := Lib.hid (fun w1 hh => hDn ▸ CL.out w1 hh)
  clear CL hp hM hM2 hDn hn1 hh
  go_enter Try.func63, Try.ntmps63
  go_upto_region 1 with fail
  have h2 := h.next ((Up.refl w).alloc (.cells #[.int .i64 0, .int .i64 0, .bool false, .string ⟨#[]⟩] 100))
  have hu := (Up.refl w).alloc (.cells #[.int .i64 0, .int .i64 0, .bool false, .string ⟨#[]⟩] 100)
  have rp := RowAt.made w 100 [.int .i64 0, .int .i64 0, .bool false, .string ⟨#[]⟩]
  have hg0 : w.heap.size ≤ w.heap.size := Nat.le_refl _
  generalize hgg : w.heap.size = g0 at rp hg0 ⊢
  generalize w.alloc _ = w0 at *
  go_upto_region 2 with (first
    | ((with_reducible refine (CL2.out _ h2).mono ?_); rintro e wn ⟨rfl, rfl⟩)
    | ((with_reducible refine (CR.out _ h2).mono ?_); rintro e wm ⟨rfl, hb, -⟩; replace hu := hu.next hb; replace rp := rp.up hb; clear hb h2))
  obtain ⟨⟨p0, p1, p2, p3⟩, y0, y1, y2, y3⟩ := rp.c4
  by_cases hE : E = 0
  · rw [if_pos hE] at HL
    have hS := h252 hE
    subst hE
    clear h252
    go_upto_region 7 with (first
      | ((with_reducible refine (N1.out _).mono ?_); rintro e wn ⟨rfl, rfl⟩)
      | ((with_reducible refine (N2.out _).mono ?_); rintro e wn ⟨rfl, rfl⟩)
      | ((with_reducible refine (N3.out _).mono ?_); rintro e wn ⟨rfl, rfl⟩)
      | ((with_reducible refine (N4.out _).mono ?_); rintro e wn ⟨rfl, rfl⟩)
      | ((with_reducible refine (N5.out _).mono ?_); rintro e wn ⟨rfl, rfl⟩)
      | ((with_reducible refine (N6.out _).mono ?_); rintro e wn ⟨rfl, rfl⟩))
    clear N1 N2 N3 N4 N5 N6 CL2 CR hmul hM1 hQ hQ2
    have u1 := Up.trans hu (((Up.refl wm).alloc (.cells #[.int .i64 (getV S 0 6), .int .i64 (getV S 6 2)] 98)).alloc (.cells #[.int .i64 (getV S 244 6), .int .i64 (getV S 250 2)] 98))
    have rq := (rp.alloc (.cells #[.int .i64 (getV S 0 6), .int .i64 (getV S 6 2)] 98)).alloc (.cells #[.int .i64 (getV S 244 6), .int .i64 (getV S 250 2)] 98)
    have ra := (RowAt.made wm 98 [.int .i64 (getV S 0 6), .int .i64 (getV S 6 2)]).alloc (.cells #[.int .i64 (getV S 244 6), .int .i64 (getV S 250 2)] 98)
    have rb := RowAt.made (wm.alloc (.cells #[.int .i64 (getV S 0 6), .int .i64 (getV S 6 2)] 98)) 98 [.int .i64 (getV S 244 6), .int .i64 (getV S 250 2)]
    simp only [World.size_alloc] at rb
    have hlt : g0 < wm.heap.size := rp.lt
    have hLO := HL.out
    clear HL hu rp p0 p1 p2 p3 y0 y1 y2 y3
    unfold leafOf at hLO
    generalize wm.heap.size = ga at *
    generalize (wm.alloc _).alloc _ = w3 at *
    generalize getV S 0 6 = a1 at *
    generalize getV S 6 2 = a2 at *
    generalize getV S 244 6 = b1 at *
    generalize getV S 250 2 = b2 at *
    generalize getV S 8 1 = c1 at *
    generalize getV S 9 1 = c2 at *
    obtain ⟨⟨p0, p1, p2, p3⟩, y0, y1, y2, y3⟩ := rq.c4
    obtain ⟨q0, q1, -, -⟩ := ra.c2
    obtain ⟨s0, s1, -, -⟩ := rb.c2
    have n1 : ¬ ga = ga + 1 := by omega
    have n2 : ¬ g0 = ga := by omega
    have n3 : ¬ g0 = ga + 1 := by omega
    by_cases h1 : a1 = b1
    · subst h1
      by_cases h2 : a2 = b2
      · subst h2
        by_cases h3 : a1 = 0
        · subst h3
          rw [if_neg (fun h => by omega)] at hLO
          subst hLO
          go_wp2_with fail
          have r9 := (((rq.set 0 (.int .i64 0) (by simp)).set 1 (.int .i64 0) (by simp)).set 2 (.bool false) (by simp)).set 3 (.string ⟨#[]⟩) (by simp)
          have u9 := (((u1.setCell g0 0 (.int .i64 0) (by omega)).setCell g0 1 (.int .i64 0) (by omega)).setCell g0 2 (.bool false) (by omega)).setCell g0 3 (.string ⟨#[]⟩) (by omega)
          simp only [List.set_cons_zero, List.set_cons_succ] at r9
          clear p0 p1 p2 p3 y0 y1 y2 y3 rq u1 q0 q1 s0 s1
          generalize (((w3.setCell _ _).setCell _ _).setCell _ _).setCell _ _ = w9 at *
          obtain ⟨⟨p0, p1, p2, p3⟩, -⟩ := r9.c4
          refine bodyPost_ret (v := .tuple #[.agg #[.int .i64 0, .int .i64 0, .bool false, .string ⟨#[]⟩], .bool false]) (by simp [results, Try.results63, go_sem, p0, p1, p2, p3]) rfl ⟨rfl, by first | exact u9 | (rw [← hgg]; exact u9)⟩
        · have h3' : (a1 == 0) = false := by simpa using h3
          by_cases h4 : a2 = (i : Int)
          · subst h4
            by_cases h5 : c1 ≤ 1
            · have h5' : ¬ c1 > 1 := by omega
              by_cases h6 : c2 ≤ 234
              · have h6' : ¬ c2 > 234 := by omega
                rw [if_pos ⟨rfl, rfl, h3, rfl, h5, h6⟩] at hLO
                subst hLO
                have hs1 : (0 : Int) ≤ 10 + c2 := by omega
                have hs2 : (10 : Int) + c2 ≤ (S.size : Int) := by omega
                have hs3 : (10 : Int) ≤ 10 + c2 := by omega
                have hs4 : ((10 : Int) + c2).toNat = 10 + c2.toNat := by omega
                have hs5 : IntKind.i64.wrap (10 + c2) = 10 + c2 := by rw [IntWalk.i64_left]; exact IntWalk.wrap64_in _ (by omega)
                go_upto_region 9 with fail
                refine wp_region_two Eq (AllS (fun k => k = g0)) (allS_ok _) (by kernel_rfl) (by kernel_rfl) (by kernel_rfl) ?_
                have u2 := Up.drew u1
                have rq2 := rq.drew
                have ra2 := ra.drew
                clear p0 p1 p2 p3 y0 y1 y2 y3 rq u1 q0 q1 s0 s1 ra rb
                generalize w3.drew = wa at *
                obtain ⟨q0, q1, -, -⟩ := ra2.c2
                refine wpAnyTS_quiet 0 8 2 74 (by rfl) (by kernel_rfl) (fun _ _ _ _ _ h => h) (by kernel_rfl) (by kernel_rfl) ?_
                apply Exists.intro
                refine ⟨fun w2 hw2 => ?_, ?_⟩
                · have hne := laterR_ne (R := Eq) eqOK w2
                  have l0 := laterS q0 (fun h => n2 h.symm) hw2
                  have l1 := laterS q1 (fun h => n2 h.symm) hw2
                  simp only [List.drop_zero, List.take_succ_cons, List.take_zero]
                  repeat (go_big_quiet_step (fail))
                  exact wpQuiet_nil rfl
                clear q0 q1 ra2
                refine wpAnyTS_some 8 [] 1 (by rfl) (by kernel_rfl) (by kernel_rfl) ?_
                rintro w2 rfl
                refine ⟨?_, trivial⟩
                obtain ⟨⟨p0, p1, p2, p3⟩, y0, y1, y2, y3⟩ := rq2.c4
                simp only [List.drop_succ_cons, List.drop_zero, List.take_succ_cons, List.take_zero]
                go_wp2_with fail
                refine ⟨.inr (((((AllS.refl (fun k => k = g0) wa).setCell g0 0 (.int .i64 a1) (.inl rfl)).setCell g0 1 (.int .i64 i) (.inl rfl)).setCell g0 2 (.bool (c1 == 1)) (.inl rfl)).setCell g0 3 (.string (S.extract 10 (10 + c2.toNat))) (.inl rfl)), ?_⟩
                have r9 := (((rq2.set 0 (.int .i64 a1) (by simp)).set 1 (.int .i64 i) (by simp)).set 2 (.bool (c1 == 1)) (by simp)).set 3 (.string (S.extract 10 (10 + c2.toNat))) (by simp)
                have u9 := (((u2.setCell g0 0 (.int .i64 a1) (by omega)).setCell g0 1 (.int .i64 i) (by omega)).setCell g0 2 (.bool (c1 == 1)) (by omega)).setCell g0 3 (.string (S.extract 10 (10 + c2.toNat))) (by omega)
                simp only [List.set_cons_zero, List.set_cons_succ] at r9
                clear p0 p1 p2 p3 y0 y1 y2 y3 rq2 u2
                generalize (((wa.setCell _ _).setCell _ _).setCell _ _).setCell _ _ = w9 at *
                refine wpAnyTS_quiet 9 1 0 74 (by rfl) (by kernel_rfl) (fun _ _ _ _ _ h => h) (by kernel_rfl) (by kernel_rfl) ?_
                apply Exists.intro
                refine ⟨fun w2 hw2 => ?_, ?_⟩
                · have hne := laterR_ne (R := Eq) eqOK w2
                  simp only [List.drop_succ_cons, List.drop_zero, List.take_succ_cons, List.take_zero]
                  repeat (go_big_quiet_step (fail))
                  exact wpQuiet_nil rfl
                refine wpAnyTS_done (by kernel_rfl) ?_
                rintro w2 rfl
                obtain ⟨⟨p0, p1, p2, p3⟩, -⟩ := r9.c4
                go_wp2_with fail
                refine bodyPost_ret (v := .tuple #[.agg #[.int .i64 a1, .int .i64 i, .bool (c1 == 1), .string (S.extract 10 (10 + c2.toNat))], .bool true]) (by simp [results, Try.results63, go_sem, p0, p1, p2, p3]) rfl ⟨rfl, by first | exact u9 | (rw [← hgg]; exact u9)⟩
              · have h6' : c2 > 234 := by omega
                rw [if_neg (fun h => by omega)] at hLO
                subst hLO
                go_wp2_with fail
                have r9 := (((rq.set 0 (.int .i64 0) (by simp)).set 1 (.int .i64 0) (by simp)).set 2 (.bool false) (by simp)).set 3 (.string ⟨#[]⟩) (by simp)
                have u9 := (((u1.setCell g0 0 (.int .i64 0) (by omega)).setCell g0 1 (.int .i64 0) (by omega)).setCell g0 2 (.bool false) (by omega)).setCell g0 3 (.string ⟨#[]⟩) (by omega)
                simp only [List.set_cons_zero, List.set_cons_succ] at r9
                clear p0 p1 p2 p3 y0 y1 y2 y3 rq u1 q0 q1 s0 s1
                generalize (((w3.setCell _ _).setCell _ _).setCell _ _).setCell _ _ = w9 at *
                obtain ⟨⟨p0, p1, p2, p3⟩, -⟩ := r9.c4
                refine bodyPost_ret (v := .tuple #[.agg #[.int .i64 0, .int .i64 0, .bool false, .string ⟨#[]⟩], .bool false]) (by simp [results, Try.results63, go_sem, p0, p1, p2, p3]) rfl ⟨rfl, by first | exact u9 | (rw [← hgg]; exact u9)⟩
            · have h5' : c1 > 1 := by omega
              rw [if_neg (fun h => by omega)] at hLO
              subst hLO
              go_wp2_with fail
              have r9 := (((rq.set 0 (.int .i64 0) (by simp)).set 1 (.int .i64 0) (by simp)).set 2 (.bool false) (by simp)).set 3 (.string ⟨#[]⟩) (by simp)
              have u9 := (((u1.setCell g0 0 (.int .i64 0) (by omega)).setCell g0 1 (.int .i64 0) (by omega)).setCell g0 2 (.bool false) (by omega)).setCell g0 3 (.string ⟨#[]⟩) (by omega)
              simp only [List.set_cons_zero, List.set_cons_succ] at r9
              clear p0 p1 p2 p3 y0 y1 y2 y3 rq u1 q0 q1 s0 s1
              generalize (((w3.setCell _ _).setCell _ _).setCell _ _).setCell _ _ = w9 at *
              obtain ⟨⟨p0, p1, p2, p3⟩, -⟩ := r9.c4
              refine bodyPost_ret (v := .tuple #[.agg #[.int .i64 0, .int .i64 0, .bool false, .string ⟨#[]⟩], .bool false]) (by simp [results, Try.results63, go_sem, p0, p1, p2, p3]) rfl ⟨rfl, by first | exact u9 | (rw [← hgg]; exact u9)⟩
          · have h4' : (a2 != (i : Int)) = true := by simpa using h4
            rw [if_neg (fun h => by omega)] at hLO
            subst hLO
            go_wp2_with fail
            have r9 := (((rq.set 0 (.int .i64 0) (by simp)).set 1 (.int .i64 0) (by simp)).set 2 (.bool false) (by simp)).set 3 (.string ⟨#[]⟩) (by simp)
            have u9 := (((u1.setCell g0 0 (.int .i64 0) (by omega)).setCell g0 1 (.int .i64 0) (by omega)).setCell g0 2 (.bool false) (by omega)).setCell g0 3 (.string ⟨#[]⟩) (by omega)
            simp only [List.set_cons_zero, List.set_cons_succ] at r9
            clear p0 p1 p2 p3 y0 y1 y2 y3 rq u1 q0 q1 s0 s1
            generalize (((w3.setCell _ _).setCell _ _).setCell _ _).setCell _ _ = w9 at *
            obtain ⟨⟨p0, p1, p2, p3⟩, -⟩ := r9.c4
            refine bodyPost_ret (v := .tuple #[.agg #[.int .i64 0, .int .i64 0, .bool false, .string ⟨#[]⟩], .bool false]) (by simp [results, Try.results63, go_sem, p0, p1, p2, p3]) rfl ⟨rfl, by first | exact u9 | (rw [← hgg]; exact u9)⟩
      · have h2' : (a2 == b2) = false := by simpa using h2
        rw [if_neg (fun h => by omega)] at hLO
        subst hLO
        go_wp2_with fail
        have r9 := (((rq.set 0 (.int .i64 0) (by simp)).set 1 (.int .i64 0) (by simp)).set 2 (.bool false) (by simp)).set 3 (.string ⟨#[]⟩) (by simp)
        have u9 := (((u1.setCell g0 0 (.int .i64 0) (by omega)).setCell g0 1 (.int .i64 0) (by omega)).setCell g0 2 (.bool false) (by omega)).setCell g0 3 (.string ⟨#[]⟩) (by omega)
        simp only [List.set_cons_zero, List.set_cons_succ] at r9
        clear p0 p1 p2 p3 y0 y1 y2 y3 rq u1 q0 q1 s0 s1
        generalize (((w3.setCell _ _).setCell _ _).setCell _ _).setCell _ _ = w9 at *
        obtain ⟨⟨p0, p1, p2, p3⟩, -⟩ := r9.c4
        refine bodyPost_ret (v := .tuple #[.agg #[.int .i64 0, .int .i64 0, .bool false, .string ⟨#[]⟩], .bool false]) (by simp [results, Try.results63, go_sem, p0, p1, p2, p3]) rfl ⟨rfl, by first | exact u9 | (rw [← hgg]; exact u9)⟩
    · have h1' : (a1 == b1) = false := by simpa using h1
      rw [if_neg (fun h => by omega)] at hLO
      subst hLO
      go_wp2_with fail
      have r9 := (((rq.set 0 (.int .i64 0) (by simp)).set 1 (.int .i64 0) (by simp)).set 2 (.bool false) (by simp)).set 3 (.string ⟨#[]⟩) (by simp)
      have u9 := (((u1.setCell g0 0 (.int .i64 0) (by omega)).setCell g0 1 (.int .i64 0) (by omega)).setCell g0 2 (.bool false) (by omega)).setCell g0 3 (.string ⟨#[]⟩) (by omega)
      simp only [List.set_cons_zero, List.set_cons_succ] at r9
      clear p0 p1 p2 p3 y0 y1 y2 y3 rq u1 q0 q1 s0 s1
      generalize (((w3.setCell _ _).setCell _ _).setCell _ _).setCell _ _ = w9 at *
      obtain ⟨⟨p0, p1, p2, p3⟩, -⟩ := r9.c4
      refine bodyPost_ret (v := .tuple #[.agg #[.int .i64 0, .int .i64 0, .bool false, .string ⟨#[]⟩], .bool false]) (by simp [results, Try.results63, go_sem, p0, p1, p2, p3]) rfl ⟨rfl, by first | exact u9 | (rw [← hgg]; exact u9)⟩
  · rw [if_neg hE] at HL
    have hZ := HL.out
    clear HL
    subst hZ
    clear CL2 CR hmul hM1 hQ hQ2 N1 N2 N3 N4 N5 N6
    go_wp2_with fail
    have r9 := (((rp.set 0 (.int .i64 0) (by simp)).set 1 (.int .i64 0) (by simp)).set 2 (.bool false) (by simp)).set 3 (.string ⟨#[]⟩) (by simp)
    have u9 := (((hu.setCell g0 0 (.int .i64 0) (by omega)).setCell g0 1 (.int .i64 0) (by omega)).setCell g0 2 (.bool false) (by omega)).setCell g0 3 (.string ⟨#[]⟩) (by omega)
    simp only [List.set_cons_zero, List.set_cons_succ] at r9
    clear p0 p1 p2 p3 y0 y1 y2 y3 rp hu
    generalize (((wm.setCell _ _).setCell _ _).setCell _ _).setCell _ _ = w9 at *
    obtain ⟨⟨p0, p1, p2, p3⟩, -⟩ := r9.c4
    refine bodyPost_ret (v := .tuple #[.agg #[.int .i64 0, .int .i64 0, .bool false, .string ⟨#[]⟩], .bool false]) (by simp [results, Try.results63, go_sem, p0, p1, p2, p3]) rfl ⟨rfl, by first | exact u9 | (rw [← hgg]; exact u9)⟩
end Go.Proofs.Ytokpkkjgagbpfaa
namespace Bw
open Go Go.RowKit
def strC (l : List ByteArray) : List Value := l.map Value.string
theorem strC_append (a b : List ByteArray) : strC (a ++ b) = strC a ++ strC b := by simp [strC]
theorem strC_length (a : List ByteArray) : (strC a).length = a.length := by simp [strC]
theorem strC_one (l : List ByteArray) : ∀ u ∈ strC l, u.oneCell' = true := by
  intro u hu
  obtain ⟨x, -, rfl⟩ := List.mem_map.1 hu
  rfl
def strLen (v : Value) : Nat := match v with | .string s => s.size | _ => 0
end Bw
namespace Go.Proofs.Ytokpkkjgagbpfaa
open Go.RowKit Bw
set_option linter.unusedVariables false
set_option maxRecDepth 100000
theorem infoStr : ∃ i, Try.prog.info? 9 = some i ∧ i.zero = some (.string ⟨#[]⟩) ∧ i.size = 1 ∧ i.bytes = 16 := by
  refine ⟨_, rfl, ?_, ?_, ?_⟩ <;> kernel_rfl
/-- What a half has, while it is gone through: its row, and its records. -/
abbrev hsR (g : Nat) (A : Int) (q : Option Addr) (c : Nat) (P : Nat) (recs : List ByteArray) (T : List Res) : List Res :=
  rowR g (.int .i64 A) [.slice q recs.length c, .int .i64 (P : Int)] :: ownZ 9 1 (.slice q recs.length c) recs.length (strC recs) :: T
variable {W w : World} {g c P : Nat} {q : Option Addr} {A : Int} {recs : List ByteArray} {T : List Res}
set_option maxHeartbeats 1000000 in
theorem wal_take (h : Hold W w (hsR g A q c P recs T)) (hn : recs.length ≤ 10000000) (x : ByteArray) :
    Calls Try.prog 65 #[.string x, .pointer (some ⟨g, 0, none⟩)] w fun e w' => e = .returned (.tuple #[]) ∧ ∃ q' c', Hold W w' (hsR g A q' c' P (recs ++ [x]) T) := by
  obtain ⟨inf, hi0', hz0, hz1, hz2⟩ := infoStr
  have HC := Lib.hid (show strC recs ++ [.string x] = strC (recs ++ [x]) by simp [strC])
  obtain ⟨n, hnn⟩ : ∃ n, recs.length = n := ⟨_, rfl⟩
  have HL := Lib.hid (show n + 1 = (recs ++ [x]).length by simp [hnn])
  have hh : Hold W w (rowR g (.int .i64 A) [.slice q n c, .int .i64 (P : Int)] :: ownZ 9 1 (.slice q n c) n (strC recs) :: T) := by rw [← hnn]; exact h
  have hn' : n ≤ 10000000 := by omega
  have HD := Lib.hid hh
  obtain ⟨p0, p1, p2, y0, y1, y2⟩ := RowAt.c3 (hh.get 0 rfl)
  clear h hh hnn hn
  go_enter Try.func65, Try.ntmps65
  go_wp2_with ((with_reducible refine wpList_at 7 ?_); have hF := HD.out.madeRow (.string x) [] 9; have r7 : RowAt _ w.heap.size [.string x] := hF.get (R := rowR w.heap.size (.string x) []) (T.length + 2) (by simp); refine wpList_appendZ rfl _ _ 49 rfl 9 inf (.string ⟨#[]⟩) 1 16 (by kernel_rfl) hi0' hz0 hz1 hz2 rfl (by decide) hF 1 _ (strC recs) n rfl rfl ⟨w.heap.size, 0, none⟩ 1 [.string x] rfl rfl r7.addsAt (strC_one [x]) (by unfold maxLen; omega) (by omega) ?_; intro b9 c9 w6 hw; have hG := hw; clear hw hF r7 p0 p1 p2 y0 y1 y2; obtain ⟨p0, p1, p2, y0, y1, y2⟩ := RowAt.c3 (hG.get 0 rfl))
  replace hG := hG.putRow 0 (g := g) rfl 1 (.slice (some ⟨b9, 0, none⟩) (n + 1) c9) (.int .i64 A) [.slice (some ⟨b9, 0, none⟩) (n + 1) c9, .int .i64 (P : Int)] (by simp) rfl
  replace hG : Hold W _ (rowR g (.int .i64 A) [.slice (some ⟨b9, 0, none⟩) (n + 1) c9, .int .i64 (P : Int)] :: ownZ 9 1 (.slice (some ⟨b9, 0, none⟩) (n + 1) c9) (n + 1) (strC recs ++ [.string x]) :: (T ++ [rowR w.heap.size (.string x) []])) := hG
  replace hG := hG.sub (l' := rowR g (.int .i64 A) [.slice (some ⟨b9, 0, none⟩) (n + 1) c9, .int .i64 (P : Int)] :: ownZ 9 1 (.slice (some ⟨b9, 0, none⟩) (n + 1) c9) (n + 1) (strC recs ++ [.string x]) :: T) (.cons_cons _ (.cons_cons _ (List.sublist_append_left T [_])))
  generalize w6.setCell _ _ = w9 at *
  rw [HC.out, HL.out] at hG
  go_end0
  exact ⟨rfl, _, _, hG⟩
set_option maxHeartbeats 1000000 in
theorem wal_whole (h : Hold W w (hsR g A q c P recs T)) (s : ByteArray) (hs : s.size ≤ 1000000) (hn : recs.length + s.size ≤ 10000000) :
    Calls Try.prog 64 #[.string s, .func (.func 65) #[] #[.pointer (some ⟨g, 0, none⟩)]] w fun e w' => e = .returned (.string (wholeW s).2) ∧ ∃ q' c', Hold W w' (hsR g A q' c' P (recs ++ (wholeW s).1) T) := by
  have HS := Lib.hid h
  clear h
  go_enter Try.func64, Try.ntmps64
  go_wp2_with fail
  go_loopw [0] (fun v0 wr => ∃ (t : ByteArray) (rs : List ByteArray) (q : Option Addr) (c : Nat), v0 = .string t ∧ Hold W wr (hsR g A q c P (recs ++ rs) T) ∧ wholeW s = (rs ++ (wholeW t).1, (wholeW t).2) ∧ t.size + rs.length ≤ s.size) (fun v _ => strLen v)
  case atStart => exact ⟨s, [], q, c, rfl, by rw [List.append_nil]; exact HS.out, by simp, by simp⟩
  case round =>
  obtain ⟨t, rs, q, c, rfl, hD, hw, hz⟩ := hrel
  have HW := Lib.hid hw
  clear hw
  have ht0 : t.size ≤ 1000000 := by omega
  by_cases h3 : 3 ≤ t.size
  · have h3' : (t.size : Int) ≥ 3 := by omega
    have CN := Lib.hid (fun w => wal_num t (by omega) 0 3 (by decide) w)
    obtain ⟨n0, n1⟩ := getV_range t 0 3 (by decide)
    obtain ⟨N, hN⟩ : ∃ N : Nat, getV t 0 3 = (N : Int) := ⟨(getV t 0 3).toNat, by omega⟩
    have hrn : recN t = N := by unfold recN; omega
    rw [hN] at CN n1
    clear hN n0
    by_cases he : 3 + N ≤ t.size
    · have hm := whole_more h3 (by rw [hrn]; exact he)
      rw [hrn] at hm
      have CT := Lib.hid (fun w1 (hh : Hold W w1 (hsR g A q c P (recs ++ rs) T)) => wal_take hh (by rw [List.length_append]; omega) (t.extract 3 (3 + N)))
      have hx : (t.extract (3 + N) t.size).size = t.size - (3 + N) := by rw [ByteArray.size_extract]; omega
      have HM := Lib.hid hm
      have HX := Lib.hid hx
      have HD := Lib.hid hD
      have HZ := Lib.hid hz
      have e1 : ¬ (t.size : Int) < 3 + (N : Int) := by omega
      have HE := Lib.hid he
      have H3 := Lib.hid h3
      clear hm hx hrn hD hz hs hn
      go_upto_region 3 with ((with_reducible refine (CN.out _).mono ?_); rintro e wn ⟨rfl, rfl⟩)
      clear h3 h3' he ht0 n1
      go_upto_region 4 with fail
      have hD := HD.out
      clear HD
      have f1 : (0 : Int) ≤ (N : Int) := by omega
      have f2 : ((3 : Int) + (N : Int)).toNat = 3 + N := by omega
      go_upto_region 5 with ((with_reducible refine (CT.out _ hD).mono ?_); rintro e wn ⟨rfl, q1, c1, hD1⟩)
      clear hD CT
      go_wp2_with fail
      have hx := HX.out
      have hm := HM.out
      have hz := HZ.out
      have h3 := H3.out
      refine ⟨⟨t.extract (3 + N) t.size, rs ++ [t.extract 3 (3 + N)], q1, c1, rfl, ?_, ?_, ?_⟩, ?_⟩
      · rw [← List.append_assoc]; exact hD1
      · rw [HW.out, hm, List.append_assoc]; rfl
      · rw [hx, List.length_append, List.length_singleton]; omega
      · simp only [strLen]; omega
    · have hm := whole_stop (s := t) (by rw [hrn]; omega)
      have e1 : (t.size : Int) < 3 + (N : Int) := by omega
      have HM := Lib.hid hm
      have HD := Lib.hid hD
      clear hm hrn hD hz hs hn
      go_upto_region 3 with ((with_reducible refine (CN.out _).mono ?_); rintro e wn ⟨rfl, rfl⟩)
      clear h3 h3' he ht0 n1
      go_wp2_with fail
      go_ret
      have hw := HW.out
      rw [HM.out] at hw
      rw [hw]
      exact ⟨rfl, q, c, by rw [List.append_nil]; exact HD.out⟩
  · have hm := whole_stop (s := t) (by omega)
    have h3' : ¬ (t.size : Int) ≥ 3 := by omega
    have HM := Lib.hid hm
    have HD := Lib.hid hD
    clear hm hD hz hs hn
    go_wp2_with fail
    go_ret
    have hw := HW.out
    rw [HM.out] at hw
    rw [hw]
    exact ⟨rfl, q, c, by rw [List.append_nil]; exact HD.out⟩
end Go.Proofs.Ytokpkkjgagbpfaa
namespace Bw
set_option linter.unusedVariables false
theorem leafW_size {d : DiskD} {half : Int} {i : Nat} {l : LeafW} (h : d.leafW half i = some l) : l.bytes.size ≤ 234 := by
  unfold DiskD.leafW at h
  by_cases ho : d.readE (half * (d.halfN : Int) + i) = 0
  · rw [if_pos ho] at h
    generalize d.readS (half * (d.halfN : Int) + i) = x at *
    unfold leafOf at h
    by_cases hc : getV x 0 6 = getV x 244 6 ∧ getV x 6 2 = getV x 250 2 ∧ getV x 0 6 ≠ 0 ∧ getV x 6 2 = i ∧ getV x 8 1 ≤ 1 ∧ getV x 9 1 ≤ 234
    · rw [if_pos hc] at h
      injection h with h
      obtain ⟨-, -, -, -, -, c6⟩ := hc
      subst h
      show (x.extract 10 (10 + (getV x 9 1).toNat)).size ≤ 234
      rw [ByteArray.size_extract]; omega
    · rw [if_neg hc] at h; cases h
  · rw [if_neg ho] at h; cases h
end Bw
namespace Go.Proofs.Ytokpkkjgagbpfaa
open Go.RowKit Bw
set_option linter.unusedVariables false
set_option maxRecDepth 100000
/-- What scan hands back. -/
def ScanPost (w : World) (st : ScanW) (e : Ending) (w' : World) : Prop := ∃ (q : Option Addr) (c : Nat), e = .returned (.agg #[.int .i64 st.age, .slice q st.recs.length c, .int .i64 (st.pages : Int)]) ∧ Hold w w' [ownZ 9 1 (.slice q st.recs.length c) st.recs.length (strC st.recs)]
/-- The row that scan hands back, as it begins. -/
abbrev rowP (g : Nat) : List Res := [rowR g (.int .i64 0) [.slice none 0 0, .int .i64 0]]
variable {W w : World} {l : List Res} {g a c : Nat} {q : Option Nat} {d : DiskD}
set_option maxHeartbeats 2000000 in
theorem wal_scan (h : Hold W w l) (j : Nat) (hj : l[j]? = some (diskR g a q c d)) (hc : c ≤ 1099511627776) (hok : d.Ok) (half : Nat) (hh : half ≤ 1) :
    Calls Try.prog 38 #[.pointer (some ⟨g, 0, none⟩), .int .i64 half] w (ScanPost w (d.scan half)) := by
  have hn2 := hok.n2
  have CR := Lib.hid (fun w1 (hh' : Hold W w1 l) i hi => wal_read hh' j hj hc hok half i hh hi)
  have CL := Lib.hid (fun w1 (hh' : Hold W w1 l) => hLen hh' j hj)
  obtain ⟨D, hDn⟩ : ∃ D : Nat, d.n = D := ⟨_, rfl⟩
  obtain ⟨H, hH⟩ : ∃ H : Nat, d.halfN = H := ⟨_, rfl⟩
  have hQ2 : (D : Int) / 2 = (H : Int) := by unfold DiskD.halfN at hH; omega
  have hH512 : H ≤ 512 := by unfold DiskD.halfN at hH; omega
  have CL2 := Lib.hid (fun w1 hh => hDn ▸ CL.out w1 hh)
  obtain ⟨FIN, hF⟩ : ∃ FIN, d.scan half = FIN := ⟨_, rfl⟩
  have hF2 : scanN (d.leafW half) H 0 scan0 = FIN := by rw [← hF, ← hH]; rfl
  have hsz := fun i lf (h : d.leafW half i = some lf) => leafW_size h
  rw [hF]
  have HF := Lib.hid hF2
  have HSZ := Lib.hid hsz
  have HH := Lib.hid hH
  have H0 := Lib.hid h
  clear hF hF2 hsz hH CL hDn hn2 h
  generalize d.leafW half = rd at *
  go_enter Try.func38, Try.ntmps38
  go_wp2_with fail
  go_step3
  go_upto_region 2 with fail
  have hD := (((Hold.start w).madeRow (.int .i64 0) [.slice none 0 0, .int .i64 0] 70).madeRow (.int .i64 0) [.slice none 0 0, .int .i64 0] 70).nilZ 9 1
  simp only [World.size_alloc, List.nil_append, List.cons_append] at hD
  generalize hgg : w.heap.size = g4 at *
  generalize (w.alloc _).alloc _ = w1 at *
  replace hD : Hold w w1 (hsR (g4 + 1) 0 none 0 0 [] (rowP g4)) := hD.perm (List.perm_append_comm (l₁ := [rowR g4 (.int .i64 0) [.slice none 0 0, .int .i64 0]]) (l₂ := [rowR (g4 + 1) (.int .i64 0) [.slice none 0 0, .int .i64 0], ownZ 9 1 (.slice none 0 0) 0 []]))
  have h1 := H0.out.next hD.up
  go_step3
  go_wp2_with ((with_reducible refine (CL2.out _ h1).mono ?_); rintro e wn ⟨rfl, rfl⟩)
  clear CL2
  go_loopw [6, 7, 15] (fun v6 v7 v15 wr => ∃ (n : Nat) (st : ScanW) (q : Option Addr) (c : Nat), v15 = .int .i64 (n : Int) ∧ v6 = .string st.left ∧ v7 = .int .i64 st.last ∧ n ≤ H ∧ st.pages = n ∧ Hold w wr (hsR (g4 + 1) st.age q c st.pages st.recs (rowP g4)) ∧ scanN rd (H - n) n st = FIN ∧ st.left.size + 3 * st.recs.length ≤ 234 * n) (fun v6 v7 v15 _ => H - (intOf v15).toNat)
  case atStart => exact ⟨0, scan0, none, 0, rfl, rfl, rfl, by omega, rfl, hD, HF.out, by decide⟩
  case round =>
  obtain ⟨n, st, q, c, rfl, rfl, rfl, hn, hp, hD, hs, hz⟩ := hrel
  by_cases hlt : n < H
  · have hlt' : (n : Int) < (H : Int) := by omega
    have CRn := Lib.hid (CR.out wr (H0.out.next hD.up) n (by rw [HH.out]; exact hlt))
    cases hrd : rd n with
    | none =>
      rw [hrd, leafV, Option.isSome_none] at CRn
      have hfin : st = FIN := by rw [← hs, show H - n = (H - n - 1) + 1 by omega, scanN, hrd]
      clear hs CR
      subst hfin
      go_upto_region 6 with ((with_reducible refine CRn.out.mono ?_); rintro e wm ⟨rfl, hb⟩; replace hD := hD.next hb; clear hb)
      replace hD := hD.next ((Below.refl _ wm).alloc (Nat.le_refl _) (.cells #[.int .i64 0, .int .i64 0, .bool false, .string ⟨#[]⟩] 100))
      generalize wm.alloc _ = w6 at *
      obtain ⟨p0, p1, p2, y0, y1, y2⟩ := RowAt.c3 (hD.get 0 rfl)
      obtain ⟨r0, r1, r2, s0, s1, s2⟩ := RowAt.c3 (hD.get 2 rfl)
      go_wp2_with fail
      have hE := ((hD.putRow 2 (g := g4) rfl 0 (.int .i64 st.age) (.int .i64 st.age) [.slice none 0 0, .int .i64 0] (by simp) rfl).putRow 2 (g := g4) rfl 1 (.slice q st.recs.length c) (.int .i64 st.age) [.slice q st.recs.length c, .int .i64 0] (by simp) rfl).putRow 2 (g := g4) rfl 2 (.int .i64 (st.pages : Int)) (.int .i64 st.age) [.slice q st.recs.length c, .int .i64 (st.pages : Int)] (by simp) rfl
      clear p0 p1 p2 y0 y1 y2 r0 r1 r2 s0 s1 s2 hD
      subst hp
      generalize ((World.setCell _ _ _).setCell _ _).setCell _ _ = w9 at *
      obtain ⟨p0, p1, p2, y0, y1, y2⟩ := RowAt.c3 (hE.get 2 rfl)
      refine bodyPost_ret (v := .agg #[.int .i64 st.age, .slice q st.recs.length c, .int .i64 (st.pages : Int)]) (by simp [results, Try.results38, go_sem, p0, p1, p2]) rfl ⟨q, c, rfl, hE.sub (l' := [ownZ 9 1 (.slice q st.recs.length c) st.recs.length (strC st.recs)]) (.cons _ (.cons_cons _ (List.nil_sublist _)))⟩
    | some lf =>
      rw [hrd, leafV, Option.isSome_some] at CRn
      go_upto_region 6 with ((with_reducible refine CRn.out.mono ?_); rintro e wm ⟨rfl, hb⟩; replace hD := hD.next hb; clear hb)
      have hgl : g4 + 1 < wm.heap.size := RowAt.lt (hD.get 0 rfl)
      replace hD := hD.madeRow (.int .i64 lf.age) [.int .i64 (n : Int), .bool lf.begins, .string lf.bytes] 100
      simp only [List.nil_append, List.cons_append] at hD
      have hLs := HSZ.out n lf hrd
      generalize hgm : wm.heap.size = gm at *
      generalize wm.alloc _ = w6 at *
      have hne1 : ¬ g4 + 1 = gm := by omega
      have hne2 : ¬ gm = g4 + 1 := by omega
      obtain ⟨la, lb, lby⟩ := lf
      by_cases hs1 : la < st.last
      · have hfin : st = FIN := by rw [← hs, show H - n = (H - n - 1) + 1 by omega, scanN, hrd]; simp [scanStop, hs1]
        clear hs CR hrd CRn HF
        subst hfin
        obtain ⟨⟨x0, x1, x2, x3⟩, x4, x5, x6, x7⟩ := RowAt.c4 (hD.get 3 rfl)
        go_upto_region 7 with fail
        replace hD := hD.sub (l' := hsR (g4 + 1) st.age q c st.pages st.recs (rowP g4)) (List.sublist_append_left _ [_])
        obtain ⟨p0, p1, p2, y0, y1, y2⟩ := RowAt.c3 (hD.get 0 rfl)
        obtain ⟨r0, r1, r2, s0, s1, s2⟩ := RowAt.c3 (hD.get 2 rfl)
        go_wp2_with fail
        have hE := ((hD.putRow 2 (g := g4) rfl 0 (.int .i64 st.age) (.int .i64 st.age) [.slice none 0 0, .int .i64 0] (by simp) rfl).putRow 2 (g := g4) rfl 1 (.slice q st.recs.length c) (.int .i64 st.age) [.slice q st.recs.length c, .int .i64 0] (by simp) rfl).putRow 2 (g := g4) rfl 2 (.int .i64 (st.pages : Int)) (.int .i64 st.age) [.slice q st.recs.length c, .int .i64 (st.pages : Int)] (by simp) rfl
        clear p0 p1 p2 y0 y1 y2 r0 r1 r2 s0 s1 s2 hD
        subst hp
        generalize ((World.setCell _ _ _).setCell _ _).setCell _ _ = w9 at *
        obtain ⟨p0, p1, p2, y0, y1, y2⟩ := RowAt.c3 (hE.get 2 rfl)
        refine bodyPost_ret (v := .agg #[.int .i64 st.age, .slice q st.recs.length c, .int .i64 (st.pages : Int)]) (by simp [results, Try.results38, go_sem, p0, p1, p2]) rfl ⟨q, c, rfl, hE.sub (l' := [ownZ 9 1 (.slice q st.recs.length c) st.recs.length (strC st.recs)]) (.cons _ (.cons_cons _ (List.nil_sublist _)))⟩
      · have hs1' : st.last ≤ la := by omega
        by_cases hs2 : st.last < la ∧ lb = false
        · obtain ⟨hs2, rfl⟩ := hs2
          have hfin : st = FIN := by rw [← hs, show H - n = (H - n - 1) + 1 by omega, scanN, hrd]; simp [scanStop, hs2]
          clear hs CR hrd CRn HF
          subst hfin
          obtain ⟨⟨x0, x1, x2, x3⟩, x4, x5, x6, x7⟩ := RowAt.c4 (hD.get 3 rfl)
          go_upto_region 8 with fail
          replace hD := hD.sub (l' := hsR (g4 + 1) st.age q c st.pages st.recs (rowP g4)) (List.sublist_append_left _ [_])
          obtain ⟨p0, p1, p2, y0, y1, y2⟩ := RowAt.c3 (hD.get 0 rfl)
          obtain ⟨r0, r1, r2, s0, s1, s2⟩ := RowAt.c3 (hD.get 2 rfl)
          go_wp2_with fail
          have hE := ((hD.putRow 2 (g := g4) rfl 0 (.int .i64 st.age) (.int .i64 st.age) [.slice none 0 0, .int .i64 0] (by simp) rfl).putRow 2 (g := g4) rfl 1 (.slice q st.recs.length c) (.int .i64 st.age) [.slice q st.recs.length c, .int .i64 0] (by simp) rfl).putRow 2 (g := g4) rfl 2 (.int .i64 (st.pages : Int)) (.int .i64 st.age) [.slice q st.recs.length c, .int .i64 (st.pages : Int)] (by simp) rfl
          clear p0 p1 p2 y0 y1 y2 r0 r1 r2 s0 s1 s2 hD
          subst hp
          generalize ((World.setCell _ _ _).setCell _ _).setCell _ _ = w9 at *
          obtain ⟨p0, p1, p2, y0, y1, y2⟩ := RowAt.c3 (hE.get 2 rfl)
          refine bodyPost_ret (v := .agg #[.int .i64 st.age, .slice q st.recs.length c, .int .i64 (st.pages : Int)]) (by simp [results, Try.results38, go_sem, p0, p1, p2]) rfl ⟨q, c, rfl, hE.sub (l' := [ownZ 9 1 (.slice q st.recs.length c) st.recs.length (strC st.recs)]) (.cons _ (.cons_cons _ (List.nil_sublist _)))⟩
        · have hnx : scanN rd (H - (n + 1)) (n + 1) (scanStep n ⟨la, lb, lby⟩ st) = FIN := by
            rw [← hs, show H - n = (H - (n + 1)) + 1 by omega, scanN, hrd]
            have : scanStop ⟨la, lb, lby⟩ st = false := by
              unfold scanStop
              cases lb with
              | false => simp only [Bool.or_eq_false_iff, decide_eq_false_iff_not, Bool.and_eq_false_iff]; exact ⟨hs1, .inl fun h => hs2 ⟨h, rfl⟩⟩
              | true => simp only [Bool.or_eq_false_iff, decide_eq_false_iff_not, Bool.and_eq_false_iff]; exact ⟨hs1, .inr rfl⟩
            simp [this]
          have HN := Lib.hid hnx
          clear hnx hs CR hrd CRn HF
          obtain ⟨⟨x0, x1, x2, x3⟩, x4, x5, x6, x7⟩ := RowAt.c4 (hD.get 3 rfl)
          by_cases hl : st.last < la
          · have hb : lb = true := by
              cases lb with
              | false => exact absurd ⟨hl, rfl⟩ hs2
              | true => rfl
            subst hb
            clear hs2
            have hw0 := whole_left _ ((⟨#[]⟩ : ByteArray) ++ lby) (Nat.le_refl _)
            rw [ByteArray.size_append] at hw0
            have hLz : ByteArray.size (⟨#[]⟩ : ByteArray) ≤ st.left.size := by first | exact Nat.le_refl _ | exact Nat.zero_le _
            have hLs' : lby.size ≤ 234 := hLs
            have CW := Lib.hid (fun (w1 : World) (A : Int) (hh : Hold w w1 (hsR (g4 + 1) A q c (n + 1) st.recs (rowP g4 ++ [rowR gm (.int .i64 la) [.int .i64 n, .bool true, .string lby]]))) => wal_whole hh ((⟨#[]⟩ : ByteArray) ++ lby) (by rw [ByteArray.size_append]; omega) (by rw [ByteArray.size_append]; omega))
            have HW0 := Lib.hid hw0
            have HLZ := Lib.hid hLz
            clear hw0 hLz
            obtain ⟨p0, p1, p2, y0, y1, y2⟩ := RowAt.c3 (hD.get 0 rfl)
            by_cases hn0 : n = 0
            · subst hn0
              go_upto_region 14 with fail
              have hE := (hD.putRow 0 (g := g4 + 1) rfl 0 (.int .i64 la) (.int .i64 la) [.slice q st.recs.length c, .int .i64 (st.pages : Int)] (by simp) rfl).putRow 0 (g := g4 + 1) rfl 2 (.int .i64 1) (.int .i64 la) [.slice q st.recs.length c, .int .i64 1] (by simp) rfl
              clear p0 p1 p2 y0 y1 y2 x0 x1 x2 x3 x4 x5 x6 x7
              replace hE : Hold w _ (hsR (g4 + 1) la q c (0 + 1) st.recs (rowP g4 ++ [rowR gm (.int .i64 la) [.int .i64 (0 : Int), .bool true, .string lby]])) := hE
              generalize World.setCell _ _ _ = w8 at *
              obtain ⟨⟨x0, x1, x2, x3⟩, x4, x5, x6, x7⟩ := RowAt.c4 (hE.get 3 rfl)
              go_upto_region 15 with ((with_reducible refine (CW.out _ _ hE).mono ?_); rintro e wn ⟨rfl, q1, c1, hE1⟩)
              clear CW hE hD x0 x1 x2 x3 x4 x5 x6 x7
              replace hE1 := hE1.sub (l' := hsR (g4 + 1) la q1 c1 (0 + 1) (st.recs ++ (wholeW ((⟨#[]⟩ : ByteArray) ++ lby)).1) (rowP g4)) (List.sublist_append_left _ [_])
              have hw0 := HW0.out
              have hLz := HLZ.out
              go_wp2_with fail
              refine ⟨⟨0 + 1, scanStep 0 ⟨la, true, lby⟩ st, q1, c1, rfl, ?_, rfl, by omega, rfl, ?_, HN.out, ?_⟩, ?_⟩
              · show Value.string _ = Value.string (wholeW ((if st.last < la then ByteArray.empty else st.left) ++ lby)).2
                rw [if_pos hl]; try rfl
              · show Hold w _ (hsR (g4 + 1) (if 0 = 0 then la else st.age) q1 c1 (0 + 1) (st.recs ++ (wholeW ((if st.last < la then ByteArray.empty else st.left) ++ lby)).1) (rowP g4))
                rw [if_pos hl, if_pos rfl]; exact hE1
              · show (wholeW ((if st.last < la then ByteArray.empty else st.left) ++ lby)).2.size + 3 * (st.recs ++ (wholeW ((if st.last < la then ByteArray.empty else st.left) ++ lby)).1).length ≤ _
                rw [if_pos hl, List.length_append]
                change (wholeW ((⟨#[]⟩ : ByteArray) ++ lby)).2.size + 3 * (st.recs.length + (wholeW ((⟨#[]⟩ : ByteArray) ++ lby)).1.length) ≤ _
                omega
              · simp only [intOf]; omega
            · have hn1 : ((n : Int) == 0) = false := by simpa using hn0
              go_upto_region 14 with fail
              have hE := hD.putRow 0 (g := g4 + 1) rfl 2 (.int .i64 ((n : Int) + 1)) (.int .i64 st.age) [.slice q st.recs.length c, .int .i64 ((n : Int) + 1)] (by simp) rfl
              clear p0 p1 p2 y0 y1 y2 x0 x1 x2 x3 x4 x5 x6 x7
              replace hE : Hold w _ (hsR (g4 + 1) st.age q c (n + 1) st.recs (rowP g4 ++ [rowR gm (.int .i64 la) [.int .i64 (n : Int), .bool true, .string lby]])) := hE
              generalize World.setCell _ _ _ = w8 at *
              obtain ⟨⟨x0, x1, x2, x3⟩, x4, x5, x6, x7⟩ := RowAt.c4 (hE.get 3 rfl)
              go_upto_region 15 with ((with_reducible refine (CW.out _ _ hE).mono ?_); rintro e wn ⟨rfl, q1, c1, hE1⟩)
              clear CW hE hD x0 x1 x2 x3 x4 x5 x6 x7
              replace hE1 := hE1.sub (l' := hsR (g4 + 1) st.age q1 c1 (n + 1) (st.recs ++ (wholeW ((⟨#[]⟩ : ByteArray) ++ lby)).1) (rowP g4)) (List.sublist_append_left _ [_])
              have hw0 := HW0.out
              have hLz := HLZ.out
              go_wp2_with fail
              refine ⟨⟨n + 1, scanStep n ⟨la, true, lby⟩ st, q1, c1, rfl, ?_, rfl, by omega, rfl, ?_, HN.out, ?_⟩, ?_⟩
              · show Value.string _ = Value.string (wholeW ((if st.last < la then ByteArray.empty else st.left) ++ lby)).2
                rw [if_pos hl]; try rfl
              · show Hold w _ (hsR (g4 + 1) (if n = 0 then la else st.age) q1 c1 (n + 1) (st.recs ++ (wholeW ((if st.last < la then ByteArray.empty else st.left) ++ lby)).1) (rowP g4))
                rw [if_pos hl, if_neg hn0]; exact hE1
              · show (wholeW ((if st.last < la then ByteArray.empty else st.left) ++ lby)).2.size + 3 * (st.recs ++ (wholeW ((if st.last < la then ByteArray.empty else st.left) ++ lby)).1).length ≤ _
                rw [if_pos hl, List.length_append]
                change (wholeW ((⟨#[]⟩ : ByteArray) ++ lby)).2.size + 3 * (st.recs.length + (wholeW ((⟨#[]⟩ : ByteArray) ++ lby)).1.length) ≤ _
                omega
              · simp only [intOf]; omega
          · clear hs2
            have hw0 := whole_left _ (st.left ++ lby) (Nat.le_refl _)
            rw [ByteArray.size_append] at hw0
            have hLz : ByteArray.size st.left ≤ st.left.size := by first | exact Nat.le_refl _ | exact Nat.zero_le _
            have hLs' : lby.size ≤ 234 := hLs
            have CW := Lib.hid (fun (w1 : World) (A : Int) (hh : Hold w w1 (hsR (g4 + 1) A q c (n + 1) st.recs (rowP g4 ++ [rowR gm (.int .i64 la) [.int .i64 n, .bool lb, .string lby]]))) => wal_whole hh (st.left ++ lby) (by rw [ByteArray.size_append]; omega) (by rw [ByteArray.size_append]; omega))
            have HW0 := Lib.hid hw0
            have HLZ := Lib.hid hLz
            clear hw0 hLz
            obtain ⟨p0, p1, p2, y0, y1, y2⟩ := RowAt.c3 (hD.get 0 rfl)
            by_cases hn0 : n = 0
            · subst hn0
              go_upto_region 14 with fail
              have hE := (hD.putRow 0 (g := g4 + 1) rfl 0 (.int .i64 la) (.int .i64 la) [.slice q st.recs.length c, .int .i64 (st.pages : Int)] (by simp) rfl).putRow 0 (g := g4 + 1) rfl 2 (.int .i64 1) (.int .i64 la) [.slice q st.recs.length c, .int .i64 1] (by simp) rfl
              clear p0 p1 p2 y0 y1 y2 x0 x1 x2 x3 x4 x5 x6 x7
              replace hE : Hold w _ (hsR (g4 + 1) la q c (0 + 1) st.recs (rowP g4 ++ [rowR gm (.int .i64 la) [.int .i64 (0 : Int), .bool lb, .string lby]])) := hE
              generalize World.setCell _ _ _ = w8 at *
              obtain ⟨⟨x0, x1, x2, x3⟩, x4, x5, x6, x7⟩ := RowAt.c4 (hE.get 3 rfl)
              go_upto_region 15 with ((with_reducible refine (CW.out _ _ hE).mono ?_); rintro e wn ⟨rfl, q1, c1, hE1⟩)
              clear CW hE hD x0 x1 x2 x3 x4 x5 x6 x7
              replace hE1 := hE1.sub (l' := hsR (g4 + 1) la q1 c1 (0 + 1) (st.recs ++ (wholeW (st.left ++ lby)).1) (rowP g4)) (List.sublist_append_left _ [_])
              have hw0 := HW0.out
              have hLz := HLZ.out
              go_wp2_with fail
              refine ⟨⟨0 + 1, scanStep 0 ⟨la, lb, lby⟩ st, q1, c1, rfl, ?_, rfl, by omega, rfl, ?_, HN.out, ?_⟩, ?_⟩
              · show Value.string _ = Value.string (wholeW ((if st.last < la then ByteArray.empty else st.left) ++ lby)).2
                rw [if_neg (Int.not_lt.2 hl)]; try rfl
              · show Hold w _ (hsR (g4 + 1) (if 0 = 0 then la else st.age) q1 c1 (0 + 1) (st.recs ++ (wholeW ((if st.last < la then ByteArray.empty else st.left) ++ lby)).1) (rowP g4))
                rw [if_neg (Int.not_lt.2 hl), if_pos rfl]; exact hE1
              · show (wholeW ((if st.last < la then ByteArray.empty else st.left) ++ lby)).2.size + 3 * (st.recs ++ (wholeW ((if st.last < la then ByteArray.empty else st.left) ++ lby)).1).length ≤ _
                rw [if_neg (Int.not_lt.2 hl), List.length_append]
                change (wholeW (st.left ++ lby)).2.size + 3 * (st.recs.length + (wholeW (st.left ++ lby)).1.length) ≤ _
                omega
              · simp only [intOf]; omega
            · have hn1 : ((n : Int) == 0) = false := by simpa using hn0
              go_upto_region 14 with fail
              have hE := hD.putRow 0 (g := g4 + 1) rfl 2 (.int .i64 ((n : Int) + 1)) (.int .i64 st.age) [.slice q st.recs.length c, .int .i64 ((n : Int) + 1)] (by simp) rfl
              clear p0 p1 p2 y0 y1 y2 x0 x1 x2 x3 x4 x5 x6 x7
              replace hE : Hold w _ (hsR (g4 + 1) st.age q c (n + 1) st.recs (rowP g4 ++ [rowR gm (.int .i64 la) [.int .i64 (n : Int), .bool lb, .string lby]])) := hE
              generalize World.setCell _ _ _ = w8 at *
              obtain ⟨⟨x0, x1, x2, x3⟩, x4, x5, x6, x7⟩ := RowAt.c4 (hE.get 3 rfl)
              go_upto_region 15 with ((with_reducible refine (CW.out _ _ hE).mono ?_); rintro e wn ⟨rfl, q1, c1, hE1⟩)
              clear CW hE hD x0 x1 x2 x3 x4 x5 x6 x7
              replace hE1 := hE1.sub (l' := hsR (g4 + 1) st.age q1 c1 (n + 1) (st.recs ++ (wholeW (st.left ++ lby)).1) (rowP g4)) (List.sublist_append_left _ [_])
              have hw0 := HW0.out
              have hLz := HLZ.out
              go_wp2_with fail
              refine ⟨⟨n + 1, scanStep n ⟨la, lb, lby⟩ st, q1, c1, rfl, ?_, rfl, by omega, rfl, ?_, HN.out, ?_⟩, ?_⟩
              · show Value.string _ = Value.string (wholeW ((if st.last < la then ByteArray.empty else st.left) ++ lby)).2
                rw [if_neg (Int.not_lt.2 hl)]; try rfl
              · show Hold w _ (hsR (g4 + 1) (if n = 0 then la else st.age) q1 c1 (n + 1) (st.recs ++ (wholeW ((if st.last < la then ByteArray.empty else st.left) ++ lby)).1) (rowP g4))
                rw [if_neg (Int.not_lt.2 hl), if_neg hn0]; exact hE1
              · show (wholeW ((if st.last < la then ByteArray.empty else st.left) ++ lby)).2.size + 3 * (st.recs ++ (wholeW ((if st.last < la then ByteArray.empty else st.left) ++ lby)).1).length ≤ _
                rw [if_neg (Int.not_lt.2 hl), List.length_append]
                change (wholeW (st.left ++ lby)).2.size + 3 * (st.recs.length + (wholeW (st.left ++ lby)).1.length) ≤ _
                omega
              · simp only [intOf]; omega
  · have hlt' : ¬ (n : Int) < (H : Int) := by omega
    have hfin : st = FIN := by rw [← hs, show H - n = 0 by omega]; rfl
    subst hfin
    clear CR hs
    obtain ⟨p0, p1, p2, y0, y1, y2⟩ := RowAt.c3 (hD.get 0 rfl)
    obtain ⟨r0, r1, r2, s0, s1, s2⟩ := RowAt.c3 (hD.get 2 rfl)
    go_wp2_with fail
    have hE := ((hD.putRow 2 (g := g4) rfl 0 (.int .i64 st.age) (.int .i64 st.age) [.slice none 0 0, .int .i64 0] (by simp) rfl).putRow 2 (g := g4) rfl 1 (.slice q st.recs.length c) (.int .i64 st.age) [.slice q st.recs.length c, .int .i64 0] (by simp) rfl).putRow 2 (g := g4) rfl 2 (.int .i64 (st.pages : Int)) (.int .i64 st.age) [.slice q st.recs.length c, .int .i64 (st.pages : Int)] (by simp) rfl
    clear p0 p1 p2 y0 y1 y2 r0 r1 r2 s0 s1 s2 hD
    subst hp
    generalize ((World.setCell _ _ _).setCell _ _).setCell _ _ = w9 at *
    obtain ⟨p0, p1, p2, y0, y1, y2⟩ := RowAt.c3 (hE.get 2 rfl)
    refine bodyPost_ret (v := .agg #[.int .i64 st.age, .slice q st.recs.length c, .int .i64 (st.pages : Int)]) (by simp [results, Try.results38, go_sem, p0, p1, p2]) rfl ⟨q, c, rfl, hE.sub (l' := [ownZ 9 1 (.slice q st.recs.length c) st.recs.length (strC st.recs)]) (.cons _ (.cons_cons _ (List.nil_sublist _)))⟩
end Go.Proofs.Ytokpkkjgagbpfaa
