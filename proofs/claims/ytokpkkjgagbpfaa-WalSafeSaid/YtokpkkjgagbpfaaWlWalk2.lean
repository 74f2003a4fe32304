/- Layer 6: the leaf that a page is. -/
import Derived.Test.YtokpkkjgagbpfaaWlWalk1
import Derived.Test.YtokpkkjgagbpfaaDsHold
import Derived.Test.YtokpkkjgagbpfaaOwnMore
import Derived.Test.YtokpkkjgagbpfaaAllR
namespace Go.Proofs.Ytokpkkjgagbpfaa
open Go.RowKit Bw
set_option linter.unusedVariables false
def leafV (i : Nat) : Option LeafW → Value
  | some l => .agg #[.int .i64 l.age, .int .i64 i, .bool l.begins, .string l.bytes]
  | none => .agg #[.int .i64 0, .int .i64 0, .bool false, .string ⟨#[]⟩]
theorem readS_252 (d : DiskD) (p : Int) (h : d.readE p = 0) : (d.readS p).size = 252 := by
  unfold DiskD.readE at h
  unfold DiskD.readS
  by_cases hb : d.hasB p = true
  · rw [if_pos hb] at h ⊢
    rw [openS, if_pos h]
    unfold openE at h
    by_cases hz : (d.rawD p).size = 256
    · rw [ByteArray.size_extract]; omega
    · rw [if_neg hz] at h; cases h
  · rw [if_neg hb] at h; cases h
theorem add_small0 (M : Nat) (h1 : M ≤ 512) : wrap64 (M : Int) = (M : Int) := IntWalk.wrap64_in _ (by omega)
theorem add_small_ (M i p : Nat) (h1 : M ≤ 512) (h2 : i ≤ 512) (hp : M + i = p) : wrap64 ((M : Int) + (i : Int)) = (p : Int) := (IntWalk.wrap64_in _ (by omega)).trans (by omega)
variable {W w : World} {l : List Res} {g a c : Nat} {q : Option Nat} {d : DiskD}
set_option maxRecDepth 100000 in
set_option maxHeartbeats 1000000 in
theorem wal_read (h : Hold W w l) (j : Nat) (hj : l[j]? = some (diskR g a q c d)) (hc : c ≤ 1099511627776) (hok : d.Ok) (half i : Nat) (hh : half ≤ 1) (hi : i < d.halfN) :
    Calls Try.prog 63 #[.pointer (some ⟨g, 0, none⟩), .int .i64 half, .int .i64 i] w fun e w' => e = .returned (.tuple #[leafV i (d.leafW half i), .bool (d.leafW half i).isSome]) ∧ Below w.heap.size w w' := by
  have hn1 := hok.n1
  have hn2 := hok.n2
  obtain ⟨M, hM⟩ : ∃ M, half * d.halfN = M := ⟨_, rfl⟩
  have hM1 : M ≤ 512 := by
    have h1 : d.halfN ≤ 512 := by unfold DiskD.halfN; omega
    have : half = 0 ∨ half = 1 := by omega
    rcases this with rfl | rfl <;> omega
  have hM2 : (half : Int) * ((d.n : Int) / 2) = (M : Int) := by
    rw [← hM]; unfold DiskD.halfN; push_cast; rfl
  obtain ⟨p, hp⟩ : ∃ p, M + i = p := ⟨_, rfl⟩
  have hi2 : i ≤ 512 := by unfold DiskD.halfN at hi; omega
  have HL := Lib.hid (show d.leafW half i = if d.readE p = 0 then leafOf (d.readS p) i else none by
    unfold DiskD.leafW
    have e : (half : Int) * (d.halfN : Int) + (i : Int) = (p : Int) := by rw [← hp, ← hM]; push_cast; rfl
    rw [e])
  have hsz : (d.readS p).size ≤ 256 := by
    unfold DiskD.readS
    split
    · unfold openS
      split
      · rw [ByteArray.size_extract]; omega
      · simp
    · simp
  have CL := Lib.hid (fun w1 (hh : Hold W w1 l) => hLen hh j hj)
  have CR := Lib.hid (fun w1 (hh : Hold W w1 l) => hRead hh j hj hc ((M : Int) + (i : Int)))
  have h252 := readS_252 d ((M : Int) + (i : Int))
  rw [show (p : Int) = (M : Int) + (i : Int) by omega] at HL
  rw [show (p : Int) = (M : Int) + (i : Int) by omega] at hsz
  generalize d.leafW half i = RES at *
  generalize d.readE ((M : Int) + (i : Int)) = E at *
  generalize d.readS ((M : Int) + (i : Int)) = S at *
  have N1 := Lib.hid (fun w => wal_num S (by omega) 0 6 (by decide) w)
  have N2 := Lib.hid (fun w => wal_num S (by omega) 6 2 (by decide) w)
  have N3 := Lib.hid (fun w => wal_num S (by omega) 244 6 (by decide) w)
  have N4 := Lib.hid (fun w => wal_num S (by omega) 250 2 (by decide) w)
  have N5 := Lib.hid (fun w => wal_num S (by omega) 8 1 (by decide) w)
  have N6 := Lib.hid (fun w => wal_num S (by omega) 9 1 (by decide) w)
  have r6 := getV_range S 9 1 (by decide)
  obtain ⟨D, hDn⟩ : ∃ D : Nat, d.n = D := ⟨_, rfl⟩
  rw [hDn] at hM2 hn2
  obtain ⟨Q, hQ⟩ : ∃ Q : Nat, D / 2 = Q := ⟨_, rfl⟩
  have hQ2 : (D : Int) / 2 = (Q : Int) := by omega
  rw [hQ2] at hM2
  have hmul : wrap64 ((half : Int) * (Q : Int)) = (M : Int) := by rw [hM2]; exact add_small0 M hM1
  have CL2 := Lib.hid (fun w1 hh => hDn ▸ CL.out w1 hh)
  clear CL hp hM hM2 hDn hn1 hh
  go_enter Try.func63, Try.ntmps63
  go_upto_region 1 with fail
  have h2 := h.next ((Up.refl w).alloc (.cells #[.int .i64 0, .int .i64 0, .bool false, .string ⟨#[]⟩] 100))
  have hu := (Up.refl w).alloc (.cells #[.int .i64 0, .int .i64 0, .bool false, .string ⟨#[]⟩] 100)
  have rp := RowAt.made w 100 [.int .i64 0, .int .i64 0, .bool false, .string ⟨#[]⟩]
  have hg0 : w.heap.size ≤ w.heap.size := Nat.le_refl _
  generalize hgg : w.heap.size = g0 at rp hg0 ⊢
  generalize w.alloc _ = w0 at *
  go_upto_region 2 with (first
    | ((with_reducible refine (CL2.out _ h2).mono ?_); rintro e wn ⟨rfl, rfl⟩)
    | ((with_reducible refine (CR.out _ h2).mono ?_); rintro e wm ⟨rfl, hb, -⟩; replace hu := hu.next hb; replace rp := rp.up hb; clear hb h2))
  obtain ⟨⟨p0, p1, p2, p3⟩, y0, y1, y2, y3⟩ := rp.c4
  by_cases hE : E = 0
  · rw [if_pos hE] at HL
    have hS := h252 hE
    subst hE
    clear h252
    go_upto_region 7 with (first
      | ((with_reducible refine (N1.out _).mono ?_); rintro e wn ⟨rfl, rfl⟩)
      | ((with_reducible refine (N2.out _).mono ?_); rintro e wn ⟨rfl, rfl⟩)
      | ((with_reducible refine (N3.out _).mono ?_); rintro e wn ⟨rfl, rfl⟩)
      | ((with_reducible refine (N4.out _).mono ?_); rintro e wn ⟨rfl, rfl⟩)
      | ((with_reducible refine (N5.out _).mono ?_); rintro e wn ⟨rfl, rfl⟩)
      | ((with_reducible refine (N6.out _).mono ?_); rintro e wn ⟨rfl, rfl⟩))
    clear N1 N2 N3 N4 N5 N6 CL2 CR hmul hM1 hQ hQ2
    have u1 := Up.trans hu (((Up.refl wm).alloc (.cells #[.int .i64 (getV S 0 6), .int .i64 (getV S 6 2)] 98)).alloc (.cells #[.int .i64 (getV S 244 6), .int .i64 (getV S 250 2)] 98))
    have rq := (rp.alloc (.cells #[.int .i64 (getV S 0 6), .int .i64 (getV S 6 2)] 98)).alloc (.cells #[.int .i64 (getV S 244 6), .int .i64 (getV S 250 2)] 98)
    have ra := (RowAt.made wm 98 [.int .i64 (getV S 0 6), .int .i64 (getV S 6 2)]).alloc (.cells #[.int .i64 (getV S 244 6), .int .i64 (getV S 250 2)] 98)
    have rb := RowAt.made (wm.alloc (.cells #[.int .i64 (getV S 0 6), .int .i64 (getV S 6 2)] 98)) 98 [.int .i64 (getV S 244 6), .int .i64 (getV S 250 2)]
    simp only [World.size_alloc] at rb
    have hlt : g0 < wm.heap.size := rp.lt
    have hLO := HL.out
    clear HL hu rp p0 p1 p2 p3 y0 y1 y2 y3
    unfold leafOf at hLO
    generalize wm.heap.size = ga at *
    generalize (wm.alloc _).alloc _ = w3 at *
    generalize getV S 0 6 = a1 at *
    generalize getV S 6 2 = a2 at *
    generalize getV S 244 6 = b1 at *
    generalize getV S 250 2 = b2 at *
    generalize getV S 8 1 = c1 at *
    generalize getV S 9 1 = c2 at *
    obtain ⟨⟨p0, p1, p2, p3⟩, y0, y1, y2, y3⟩ := rq.c4
    obtain ⟨q0, q1, -, -⟩ := ra.c2
    obtain ⟨s0, s1, -, -⟩ := rb.c2
    have n1 : ¬ ga = ga + 1 := by omega
    have n2 : ¬ g0 = ga := by omega
    have n3 : ¬ g0 = ga + 1 := by omega
    by_cases h1 : a1 = b1
    · subst h1
      by_cases h2 : a2 = b2
      · subst h2
        by_cases h3 : a1 = 0
        · subst h3
          rw [if_neg (fun h => by omega)] at hLO
          subst hLO
          go_wp2_with fail
          have r9 := (((rq.set 0 (.int .i64 0) (by simp)).set 1 (.int .i64 0) (by simp)).set 2 (.bool false) (by simp)).set 3 (.string ⟨#[]⟩) (by simp)
          have u9 := (((u1.setCell g0 0 (.int .i64 0) (by omega)).setCell g0 1 (.int .i64 0) (by omega)).setCell g0 2 (.bool false) (by omega)).setCell g0 3 (.string ⟨#[]⟩) (by omega)
          simp only [List.set_cons_zero, List.set_cons_succ] at r9
          clear p0 p1 p2 p3 y0 y1 y2 y3 rq u1 q0 q1 s0 s1
          generalize (((w3.setCell _ _).setCell _ _).setCell _ _).setCell _ _ = w9 at *
          obtain ⟨⟨p0, p1, p2, p3⟩, -⟩ := r9.c4
          refine bodyPost_ret (v := .tuple #[.agg #[.int .i64 0, .int .i64 0, .bool false, .string ⟨#[]⟩], .bool false]) (by simp [results, Try.results63, go_sem, p0, p1, p2, p3]) rfl ⟨rfl, by first | exact u9 | (rw [← hgg]; exact u9)⟩
        · have h3' : (a1 == 0) = false := by simpa using h3
          by_cases h4 : a2 = (i : Int)
          · subst h4
            by_cases h5 : c1 ≤ 1
            · have h5' : ¬ c1 > 1 := by omega
              by_cases h6 : c2 ≤ 234
              · have h6' : ¬ c2 > 234 := by omega
                rw [if_pos ⟨rfl, rfl, h3, rfl, h5, h6⟩] at hLO
                subst hLO
                have hs1 : (0 : Int) ≤ 10 + c2 := by omega
                have hs2 : (10 : Int) + c2 ≤ (S.size : Int) := by omega
                have hs3 : (10 : Int) ≤ 10 + c2 := by omega
                have hs4 : ((10 : Int) + c2).toNat = 10 + c2.toNat := by omega
                have hs5 : IntKind.i64.wrap (10 + c2) = 10 + c2 := by rw [IntWalk.i64_left]; exact IntWalk.wrap64_in _ (by omega)
                go_upto_region 9 with fail
                refine wp_region_two Eq (AllS (fun k => k = g0)) (allS_ok _) (by kernel_rfl) (by kernel_rfl) (by kernel_rfl) ?_
                have u2 := Up.drew u1
                have rq2 := rq.drew
                have ra2 := ra.drew
                clear p0 p1 p2 p3 y0 y1 y2 y3 rq u1 q0 q1 s0 s1 ra rb
                generalize w3.drew = wa at *
                obtain ⟨q0, q1, -, -⟩ := ra2.c2
                refine wpAnyTS_quiet 0 8 2 74 (by rfl) (by kernel_rfl) (fun _ _ _ _ _ h => h) (by kernel_rfl) (by kernel_rfl) ?_
                apply Exists.intro
                refine ⟨fun w2 hw2 => ?_, ?_⟩
                · have hne := laterR_ne (R := Eq) eqOK w2
                  have l0 := laterS q0 (fun h => n2 h.symm) hw2
                  have l1 := laterS q1 (fun h => n2 h.symm) hw2
                  simp only [List.drop_zero, List.take_succ_cons, List.take_zero]
                  repeat (go_big_quiet_step (fail))
                  exact wpQuiet_nil rfl
                clear q0 q1 ra2
                refine wpAnyTS_some 8 [] 1 (by rfl) (by kernel_rfl) (by kernel_rfl) ?_
                rintro w2 rfl
                refine ⟨?_, trivial⟩
                obtain ⟨⟨p0, p1, p2, p3⟩, y0, y1, y2, y3⟩ := rq2.c4
                simp only [List.drop_succ_cons, List.drop_zero, List.take_succ_cons, List.take_zero]
                go_wp2_with fail
                refine ⟨.inr (((((AllS.refl (fun k => k = g0) wa).setCell g0 0 (.int .i64 a1) (.inl rfl)).setCell g0 1 (.int .i64 i) (.inl rfl)).setCell g0 2 (.bool (c1 == 1)) (.inl rfl)).setCell g0 3 (.string (S.extract 10 (10 + c2.toNat))) (.inl rfl)), ?_⟩
                have r9 := (((rq2.set 0 (.int .i64 a1) (by simp)).set 1 (.int .i64 i) (by simp)).set 2 (.bool (c1 == 1)) (by simp)).set 3 (.string (S.extract 10 (10 + c2.toNat))) (by simp)
                have u9 := (((u2.setCell g0 0 (.int .i64 a1) (by omega)).setCell g0 1 (.int .i64 i) (by omega)).setCell g0 2 (.bool (c1 == 1)) (by omega)).setCell g0 3 (.string (S.extract 10 (10 + c2.toNat))) (by omega)
                simp only [List.set_cons_zero, List.set_cons_succ] at r9
                clear p0 p1 p2 p3 y0 y1 y2 y3 rq2 u2
                generalize (((wa.setCell _ _).setCell _ _).setCell _ _).setCell _ _ = w9 at *
                refine wpAnyTS_quiet 9 1 0 74 (by rfl) (by kernel_rfl) (fun _ _ _ _ _ h => h) (by kernel_rfl) (by kernel_rfl) ?_
                apply Exists.intro
                refine ⟨fun w2 hw2 => ?_, ?_⟩
                · have hne := laterR_ne (R := Eq) eqOK w2
                  simp only [List.drop_succ_cons, List.drop_zero, List.take_succ_cons, List.take_zero]
                  repeat (go_big_quiet_step (fail))
                  exact wpQuiet_nil rfl
                refine wpAnyTS_done (by kernel_rfl) ?_
                rintro w2 rfl
                obtain ⟨⟨p0, p1, p2, p3⟩, -⟩ := r9.c4
                go_wp2_with fail
                refine bodyPost_ret (v := .tuple #[.agg #[.int .i64 a1, .int .i64 i, .bool (c1 == 1), .string (S.extract 10 (10 + c2.toNat))], .bool true]) (by simp [results, Try.results63, go_sem, p0, p1, p2, p3]) rfl ⟨rfl, by first | exact u9 | (rw [← hgg]; exact u9)⟩
              · have h6' : c2 > 234 := by omega
                rw [if_neg (fun h => by omega)] at hLO
                subst hLO
                go_wp2_with fail
                have r9 := (((rq.set 0 (.int .i64 0) (by simp)).set 1 (.int .i64 0) (by simp)).set 2 (.bool false) (by simp)).set 3 (.string ⟨#[]⟩) (by simp)
                have u9 := (((u1.setCell g0 0 (.int .i64 0) (by omega)).setCell g0 1 (.int .i64 0) (by omega)).setCell g0 2 (.bool false) (by omega)).setCell g0 3 (.string ⟨#[]⟩) (by omega)
                simp only [List.set_cons_zero, List.set_cons_succ] at r9
                clear p0 p1 p2 p3 y0 y1 y2 y3 rq u1 q0 q1 s0 s1
                generalize (((w3.setCell _ _).setCell _ _).setCell _ _).setCell _ _ = w9 at *
                obtain ⟨⟨p0, p1, p2, p3⟩, -⟩ := r9.c4
                refine bodyPost_ret (v := .tuple #[.agg #[.int .i64 0, .int .i64 0, .bool false, .string ⟨#[]⟩], .bool false]) (by simp [results, Try.results63, go_sem, p0, p1, p2, p3]) rfl ⟨rfl, by first | exact u9 | (rw [← hgg]; exact u9)⟩
            · have h5' : c1 > 1 := by omega
              rw [if_neg (fun h => by omega)] at hLO
              subst hLO
              go_wp2_with fail
              have r9 := (((rq.set 0 (.int .i64 0) (by simp)).set 1 (.int .i64 0) (by simp)).set 2 (.bool false) (by simp)).set 3 (.string ⟨#[]⟩) (by simp)
              have u9 := (((u1.setCell g0 0 (.int .i64 0) (by omega)).setCell g0 1 (.int .i64 0) (by omega)).setCell g0 2 (.bool false) (by omega)).setCell g0 3 (.string ⟨#[]⟩) (by omega)
              simp only [List.set_cons_zero, List.set_cons_succ] at r9
              clear p0 p1 p2 p3 y0 y1 y2 y3 rq u1 q0 q1 s0 s1
              generalize (((w3.setCell _ _).setCell _ _).setCell _ _).setCell _ _ = w9 at *
              obtain ⟨⟨p0, p1, p2, p3⟩, -⟩ := r9.c4
              refine bodyPost_ret (v := .tuple #[.agg #[.int .i64 0, .int .i64 0, .bool false, .string ⟨#[]⟩], .bool false]) (by simp [results, Try.results63, go_sem, p0, p1, p2, p3]) rfl ⟨rfl, by first | exact u9 | (rw [← hgg]; exact u9)⟩
          · have h4' : (a2 != (i : Int)) = true := by simpa using h4
            rw [if_neg (fun h => by omega)] at hLO
            subst hLO
            go_wp2_with fail
            have r9 := (((rq.set 0 (.int .i64 0) (by simp)).set 1 (.int .i64 0) (by simp)).set 2 (.bool false) (by simp)).set 3 (.string ⟨#[]⟩) (by simp)
            have u9 := (((u1.setCell g0 0 (.int .i64 0) (by omega)).setCell g0 1 (.int .i64 0) (by omega)).setCell g0 2 (.bool false) (by omega)).setCell g0 3 (.string ⟨#[]⟩) (by omega)
            simp only [List.set_cons_zero, List.set_cons_succ] at r9
            clear p0 p1 p2 p3 y0 y1 y2 y3 rq u1 q0 q1 s0 s1
            generalize (((w3.setCell _ _).setCell _ _).setCell _ _).setCell _ _ = w9 at *
            obtain ⟨⟨p0, p1, p2, p3⟩, -⟩ := r9.c4
            refine bodyPost_ret (v := .tuple #[.agg #[.int .i64 0, .int .i64 0, .bool false, .string ⟨#[]⟩], .bool false]) (by simp [results, Try.results63, go_sem, p0, p1, p2, p3]) rfl ⟨rfl, by first | exact u9 | (rw [← hgg]; exact u9)⟩
      · have h2' : (a2 == b2) = false := by simpa using h2
        rw [if_neg (fun h => by omega)] at hLO
        subst hLO
        go_wp2_with fail
        have r9 := (((rq.set 0 (.int .i64 0) (by simp)).set 1 (.int .i64 0) (by simp)).set 2 (.bool false) (by simp)).set 3 (.string ⟨#[]⟩) (by simp)
        have u9 := (((u1.setCell g0 0 (.int .i64 0) (by omega)).setCell g0 1 (.int .i64 0) (by omega)).setCell g0 2 (.bool false) (by omega)).setCell g0 3 (.string ⟨#[]⟩) (by omega)
        simp only [List.set_cons_zero, List.set_cons_succ] at r9
        clear p0 p1 p2 p3 y0 y1 y2 y3 rq u1 q0 q1 s0 s1
        generalize (((w3.setCell _ _).setCell _ _).setCell _ _).setCell _ _ = w9 at *
        obtain ⟨⟨p0, p1, p2, p3⟩, -⟩ := r9.c4
        refine bodyPost_ret (v := .tuple #[.agg #[.int .i64 0, .int .i64 0, .bool false, .string ⟨#[]⟩], .bool false]) (by simp [results, Try.results63, go_sem, p0, p1, p2, p3]) rfl ⟨rfl, by first | exact u9 | (rw [← hgg]; exact u9)⟩
    · have h1' : (a1 == b1) = false := by simpa using h1
      rw [if_neg (fun h => by omega)] at hLO
      subst hLO
      go_wp2_with fail
      have r9 := (((rq.set 0 (.int .i64 0) (by simp)).set 1 (.int .i64 0) (by simp)).set 2 (.bool false) (by simp)).set 3 (.string ⟨#[]⟩) (by simp)
      have u9 := (((u1.setCell g0 0 (.int .i64 0) (by omega)).setCell g0 1 (.int .i64 0) (by omega)).setCell g0 2 (.bool false) (by omega)).setCell g0 3 (.string ⟨#[]⟩) (by omega)
      simp only [List.set_cons_zero, List.set_cons_succ] at r9
      clear p0 p1 p2 p3 y0 y1 y2 y3 rq u1 q0 q1 s0 s1
      generalize (((w3.setCell _ _).setCell _ _).setCell _ _).setCell _ _ = w9 at *
      obtain ⟨⟨p0, p1, p2, p3⟩, -⟩ := r9.c4
      refine bodyPost_ret (v := .tuple #[.agg #[.int .i64 0, .int .i64 0, .bool false, .string ⟨#[]⟩], .bool false]) (by simp [results, Try.results63, go_sem, p0, p1, p2, p3]) rfl ⟨rfl, by first | exact u9 | (rw [← hgg]; exact u9)⟩
  · rw [if_neg hE] at HL
    have hZ := HL.out
    clear HL
    subst hZ
    clear CL2 CR hmul hM1 hQ hQ2 N1 N2 N3 N4 N5 N6
    go_wp2_with fail
    have r9 := (((rp.set 0 (.int .i64 0) (by simp)).set 1 (.int .i64 0) (by simp)).set 2 (.bool false) (by simp)).set 3 (.string ⟨#[]⟩) (by simp)
    have u9 := (((hu.setCell g0 0 (.int .i64 0) (by omega)).setCell g0 1 (.int .i64 0) (by omega)).setCell g0 2 (.bool false) (by omega)).setCell g0 3 (.string ⟨#[]⟩) (by omega)
    simp only [List.set_cons_zero, List.set_cons_succ] at r9
    clear p0 p1 p2 p3 y0 y1 y2 y3 rp hu
    generalize (((wm.setCell _ _).setCell _ _).setCell _ _).setCell _ _ = w9 at *
    obtain ⟨⟨p0, p1, p2, p3⟩, -⟩ := r9.c4
    refine bodyPost_ret (v := .tuple #[.agg #[.int .i64 0, .int .i64 0, .bool false, .string ⟨#[]⟩], .bool false]) (by simp [results, Try.results63, go_sem, p0, p1, p2, p3]) rfl ⟨rfl, by first | exact u9 | (rw [← hgg]; exact u9)⟩
end Go.Proofs.Ytokpkkjgagbpfaa
