/- Layer 18: the document's Of. -/
import Derived.Test.YthhbndepiofmeaaDoorSpTell2
namespace Go.Proofs.YthhbndepiofmeaaDoor
open Go.RowKit Bw
set_option linter.unusedVariables false
set_option maxHeartbeats 2000000 in
theorem r_Of (l : List LeafZ) (q : Option Addr) (cap : Nat) (most : Int) (w : World) (hl : LeavesAt w q l) (hn : l.length ≤ 1024) :
    Calls Tryd.prog 11 #[.slice q l.length cap, .int .i64 most] w fun e w' => e = .returned (.tuple #[spV (ofS l most).1 (ofS l most).2, .int .i64 (ofZ l most)]) ∧ Below w.heap.size w w' := by
  have hD : Hold w ((w.alloc (.cells #[.int .i64 0, .int .i64 0] 30)).alloc (.cells #[.int .i64 0, .int .i64 0] 30)) [rowR w.heap.size (.int .i64 0) [.int .i64 0], rowR (w.heap.size + 1) (.int .i64 0) [.int .i64 0]] := by
    have h := ((Hold.start w).madeRow (.int .i64 0) [.int .i64 0] 30).madeRow (.int .i64 0) [.int .i64 0] 30
    rw [World.size_alloc] at h
    exact h
  have HL := Lib.hid hl
  have HM := Lib.hid (r_in most 0 1000)
  have HF0 := Lib.hid (Eq.refl (ofFrom most l.length 0 (0, 0) (-1) l))
  have HO := Lib.hid (show ofO l most = if inB most 0 1000 = true then ofFrom most l.length 0 (0, 0) (-1) l else none by unfold ofO; rw [decide_eq_true hn, Bool.true_and])
  clear hl
  unfold spV
  go_enter Tryd.func11, Tryd.ntmps11
  go_upto_region 2 with fail
  have hne : ¬ w.heap.size + 1 = w.heap.size := by omega
  have hlt1 := hD.up
  generalize w.heap.size + 1 = g2 at *
  generalize w.heap.size = g1 at *
  generalize (w.alloc _).alloc _ = w0 at *
  go_wp2_with fail
  go_loopw [7, 8] (fun v7 v8 wr => ∃ (k : Nat) (s r ahead : Int), k ≤ l.length ∧ v7 = .int .i64 ahead ∧ v8 = .int .i64 k ∧ ofFrom most l.length 0 (0, 0) (-1) l = ofFrom most l.length k (s, r) ahead (l.drop k) ∧ 0 ≤ s ∧ s ≤ 1024 * k ∧ 0 ≤ r ∧ r ≤ 1024 * k ∧ Hold w wr [rowR g1 (.int .i64 0) [.int .i64 0], rowR g2 (.int .i64 s) [.int .i64 r]]) (fun _ v _ => l.length - (intOf v).toNat)
  case atStart => exact ⟨0, 0, 0, -1, by omega, rfl, rfl, rfl, by omega, by omega, by omega, by omega, hD⟩
  case round =>
  clear hD HF0
  obtain ⟨k, s, r, ahead, hk, rfl, rfl, hF, s0, s1, r0, r1, hD⟩ := hrel
  have hu := hD.up
  have hg1 : w.heap.size ≤ g1 := hD.new 0 rfl g1 rfl
  have hg2 : w.heap.size ≤ g2 := hD.new 1 rfl g2 rfl
  by_cases hlt : k < l.length
  · have i0 : (0 : Int) ≤ (k : Int) := by omega
    have i1 : (k : Int) < (l.length : Int) := by omega
    obtain ⟨g, o, rfl, a1, a2⟩ := (HL.out.up hu) k hlt
    have HA := Lib.hid (fun (w' : World) (h : Up w w') => (show w'.cell? ⟨g, o + k * 2, none⟩ = some (.int .i64 l[k].1) by
      obtain ⟨g', o', e, c, -⟩ := (HL.out.up h) k hlt
      injection e with e
      injection e with e1 e2
      rw [e1, e2]
      exact c))
    rw [List.drop_eq_getElem_cons hlt] at hF
    generalize l[k] = x at *
    obtain ⟨p, q⟩ := x
    simp only at a1 a2 HA
    have c1 := r_in p 0 1023
    have c2 := r_in q 0 most
    have C3 := Lib.hid (r_One ahead p q most)
    unfold spV at C3
    cases hok : leafOk most (p, q)
    · have hF2 : ofFrom most l.length 0 (0, 0) (-1) l = none := by rw [hF]; simp [ofFrom, hok]
      have hO2 : ofO l most = none := by rw [HO.out, hF2]; split <;> rfl
      have HF := Lib.hid (show ofS l most = (0, 0) ∧ ofZ l most = 1 by simp [ofS, ofZ, hO2])
      have HK := Lib.hid (show (inB p 0 1023 && inB q 0 most) = false from hok)
      obtain ⟨t0, t1, t2, t3⟩ := hD.row2 0 rfl
      clear hF hF2 hO2 hok hD HO
      generalize inB p 0 1023 = b1 at *
      generalize inB q 0 most = b2 at *
      have C1 := Lib.hid c1; have C2 := Lib.hid c2
      clear c1 c2
      cases b1 <;> cases b2
      all_goals first
        | (exfalso; have := HK.out; simp at this; done)
        | (clear HK
           go_wp2_with (first
             | ((with_reducible refine (C1.out _).mono ?_); rintro e w1 ⟨rfl, rfl⟩)
             | ((with_reducible refine (C2.out _).mono ?_); rintro e w1 ⟨rfl, rfl⟩))
           refine bodyPost_ret (v := .tuple #[.agg #[.int .i64 0, .int .i64 0], .int .i64 1]) (by simp [results, Tryd.results11, go_sem, *]) rfl ⟨by rw [HF.out.1, HF.out.2], ?_⟩
           exact (hu.setCell _ _ _ hg1).setCell _ _ _ hg1)
    · obtain ⟨k1, k2⟩ := Bool.and_eq_true_iff.1 (show (inB p 0 1023 && inB q 0 most) = true from hok)
      rw [k1] at c1
      rw [k2] at c2
      obtain ⟨p0, p1⟩ : 0 ≤ p ∧ p ≤ 1023 := by simpa [inB] using k1
      have hF2 : ofFrom most l.length 0 (0, 0) (-1) l = ofFrom most l.length (k + 1) (stepP ahead (p, q) most (s, r) (isLast l.length k)) p (l.drop (k + 1)) := by rw [hF]; simp [ofFrom, hok]
      obtain ⟨b1, b2, b3, b4⟩ := one_bounds ahead p q most
      have C1 := Lib.hid c1; have C2 := Lib.hid c2
      clear c1 c2 hok k1 k2 hF
      have hlast : (isLast l.length k = false ∧ stepP ahead (p, q) most (s, r) (isLast l.length k) = (s + oneP ahead p q most, r + oneW ahead p q most)) ∨ (isLast l.length k = true ∧ stepP ahead (p, q) most (s, r) (isLast l.length k) = (s + oneP ahead p q most, r)) := by
        cases isLast l.length k
        · left; exact ⟨rfl, rfl⟩
        · right; exact ⟨rfl, by simp [stepP]⟩
      have HS := Lib.hid hlast
      have HF := Lib.hid hF2
      clear hlast hF2
      generalize oneP ahead p q most = P at *
      generalize oneW ahead p q most = U at *
      go_upto_region 7 with (first
             | ((with_reducible refine (C1.out _).mono ?_); rintro e w1 ⟨rfl, rfl⟩)
             | ((with_reducible refine (C2.out _).mono ?_); rintro e w1 ⟨rfl, rfl⟩))
      refine wp_region_tail 14 (by kernel_rfl) (by kernel_rfl) (by kernel_rfl) (by kernel_rfl) ?_
      refine wpHeadS_quiet 0 13 1 85 (by rfl) (by kernel_rfl) (fun _ _ _ _ _ h => h) (by kernel_rfl) (by kernel_rfl) ?_
      apply Exists.intro
      refine ⟨fun w1 hw1 => ?_, ?_⟩
      · have l_q0 := Later.of_base a1 hw1
        have l_q1 := Later.of_base a2 hw1
        have hne2 := later_ne w1
        simp only [List.drop_zero, List.take_succ_cons, List.take_zero]
        repeat (go_big_quiet_step (first | (go_at_call 15; with_reducible exact Calls.later (C3.out _))))
        exact wpQuiet_nil rfl
      refine wpHeadS_one 13 0 (by rfl) (by kernel_rfl) (by kernel_rfl) ?_
      intro w1 hw1
      simp only [List.drop_succ_cons, List.drop_zero, List.take_succ_cons, List.take_zero]
      go_wp2_with fail
      refine ⟨(Up.refl w1).alloc _, ?_⟩
      have hm : Hold w (w1.alloc (.cells #[.int .i64 0, .int .i64 0] 30)) [rowR g1 (.int .i64 0) [.int .i64 0], rowR g2 (.int .i64 s) [.int .i64 r], rowR w1.heap.size (.int .i64 0) [.int .i64 0]] := (hD.next hw1).madeRow (.int .i64 0) [.int .i64 0] 30
      have hl1 := HL.out.up (hu.next hw1)
      clear hD hu
      have hD := hm
      have hne3 : ¬ w1.heap.size = g2 := fun h => hm.apart' 2 1 rfl rfl (by decide) g2 h.symm rfl
      clear hm
      generalize w1.heap.size = g6 at *
      generalize w1.alloc (.cells #[.int .i64 0, .int .i64 0] 30) = w2 at *
      refine wpHeadS_tail (by rfl) (by kernel_rfl) ?_
      intro w4' hw4
      replace hD := hD.next hw4
      obtain ⟨q0, q1, q2, q3⟩ := hD.row2 2 rfl
      simp only [List.drop_succ_cons, List.drop_zero]
      go_upto_region 8 with fail
      replace hD : Hold w ((w4'.setCell ⟨g6, 0, none⟩ (.int .i64 P)).setCell ⟨g6, 1, none⟩ (.int .i64 U)) [rowR g1 (.int .i64 0) [.int .i64 0], rowR g2 (.int .i64 s) [.int .i64 r], rowR g6 (.int .i64 P) [.int .i64 U]] := (hD.putRow 2 rfl 0 (.int .i64 P) (.int .i64 P) [.int .i64 0] (by simp) rfl).putRow 2 rfl 1 (.int .i64 U) (.int .i64 P) [.int .i64 U] (by simp) rfl
      clear q0 q1 q2 q3
      generalize (w4'.setCell ⟨g6, 0, none⟩ (.int .i64 P)).setCell ⟨g6, 1, none⟩ (.int .i64 U) = w5 at *
      obtain ⟨q0, q1, q2, q3⟩ := hD.row2 2 rfl
      obtain ⟨t0, t1, t2, t3⟩ := hD.row2 1 rfl
      have d1 : 0 ≤ s + P ∧ s + P ≤ 1024 * (k + 1 : Nat) := by omega
      have d2 : 0 ≤ r + U ∧ r + U ≤ 1024 * (k + 1 : Nat) := by omega
      have d3 : s + P ≤ 2000000 := by omega
      have d4 : r + U ≤ 2000000 := by omega
      have d0 := d1.1
      have d5 := d2.1
      go_upto_region 9 with fail
      replace hD : Hold w (w5.setCell ⟨g2, 0, none⟩ (.int .i64 (s + P))) [rowR g1 (.int .i64 0) [.int .i64 0], rowR g2 (.int .i64 (s + P)) [.int .i64 r], rowR g6 (.int .i64 P) [.int .i64 U]] := hD.putRow 1 rfl 0 (.int .i64 (s + P)) (.int .i64 (s + P)) [.int .i64 r] (by simp) rfl
      clear q0 q1 q2 q3 t0 t1 t2 t3
      generalize w5.setCell ⟨g2, 0, none⟩ (.int .i64 (s + P)) = w6 at *
      obtain ⟨q0, q1, q2, q3⟩ := hD.row2 2 rfl
      obtain ⟨t0, t1, t2, t3⟩ := hD.row2 1 rfl
      have a3 := HA.out w6 hD.up
      rcases HS.out with ⟨hlast, hst⟩ | ⟨hlast, hst⟩
      · have hcase : (k : Int) < (l.length : Int) - 1 ∨ (¬ (k : Int) < (l.length : Int) - 1 ∧ ((l.length : Int) == 1) = true) := by
          simp only [isLast, Bool.and_eq_false_iff, decide_eq_false_iff_not] at hlast
          by_cases h : (k : Int) < (l.length : Int) - 1
          · exact .inl h
          · exact .inr ⟨h, beq_iff_eq.2 (by omega)⟩
        clear hlast
        rcases hcase with n0 | ⟨n0, n1⟩
        all_goals
          go_upto_region 11 with fail
          have hE : Hold w (w6.setCell ⟨g2, 1, none⟩ (.int .i64 (r + U))) [rowR g1 (.int .i64 0) [.int .i64 0], rowR g2 (.int .i64 (s + P)) [.int .i64 (r + U)], rowR g6 (.int .i64 P) [.int .i64 U]] := hD.putRow 1 rfl 1 (.int .i64 (r + U)) (.int .i64 (s + P)) [.int .i64 (r + U)] (by simp) rfl
          clear q0 q1 q2 q3 t0 t1 t2 t3 hD a3
          have hD := hE
          clear hE
          generalize w6.setCell ⟨g2, 1, none⟩ (.int .i64 (r + U)) = w7 at *
          have a3 := HA.out w7 hD.up
          go_wp2_with fail
          exact ⟨⟨k + 1, s + P, r + U, p, by omega, rfl, by go_num, by rw [HF.out, hst], d1.1, d1.2, d2.1, d2.2, hD.sub (List.sublist_append_left [_, _] [_])⟩, by simp [intOf]; omega⟩
      · obtain ⟨hk0, hk1⟩ : 0 < k ∧ k + 1 = l.length := by simpa [isLast] using hlast
        clear hlast
        have n0 : ¬ (k : Int) < (l.length : Int) - 1 := by omega
        have n1 : ((l.length : Int) == 1) = false := beq_eq_false_iff_ne.2 (by omega)
        go_wp2_with fail
        exact ⟨⟨k + 1, s + P, r, p, by omega, rfl, by go_num, by rw [HF.out, hst], d1.1, d1.2, by omega, by omega, hD.sub (List.sublist_append_left [_, _] [_])⟩, by simp [intOf]; omega⟩
  · have i1 : ¬ (k : Int) < (l.length : Int) := by omega
    have j0 : ¬ (1024 : Int) < (l.length : Int) := by omega
    have hF2 : ofFrom most l.length 0 (0, 0) (-1) l = some (s, r) := by rw [hF, List.drop_of_length_le (by omega)]; rfl
    rw [hF2] at HO
    obtain ⟨q0, q1, q2, q3⟩ := hD.row2 1 rfl
    obtain ⟨t0, t1, t2, t3⟩ := hD.row2 0 rfl
    have hm := HM.out
    clear hF hF2 hlt hD HM
    cases hb : inB most 0 1000
    · rw [hb] at HO hm
      have HF := Lib.hid (show ofS l most = (0, 0) ∧ ofZ l most = 1 by simp [ofS, ofZ, HO.out])
      have C1 := Lib.hid hm
      clear hm hb HO
      go_wp2_with ((with_reducible refine (C1.out _).mono ?_); rintro e w1 ⟨rfl, rfl⟩)
      refine bodyPost_ret (v := .tuple #[.agg #[.int .i64 0, .int .i64 0], .int .i64 1]) (by simp [results, Tryd.results11, go_sem, *]) rfl ⟨by rw [HF.out.1, HF.out.2], ?_⟩
      exact (hu.setCell _ _ _ hg1).setCell _ _ _ hg1
    · rw [hb] at HO hm
      have HF := Lib.hid (show ofS l most = (s, r) ∧ ofZ l most = 0 by simp [ofS, ofZ, HO.out])
      have C1 := Lib.hid hm
      clear hm hb HO
      go_wp2_with ((with_reducible refine (C1.out _).mono ?_); rintro e w1 ⟨rfl, rfl⟩)
      refine bodyPost_ret (v := .tuple #[.agg #[.int .i64 s, .int .i64 r], .int .i64 0]) (by simp [results, Tryd.results11, go_sem, *]) rfl ⟨by rw [HF.out.1, HF.out.2], ?_⟩
      exact (hu.setCell _ _ _ hg1).setCell _ _ _ hg1
end Go.Proofs.YthhbndepiofmeaaDoor
