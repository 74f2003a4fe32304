/- SpreadSum. -/
import Derived.Test.YthhbndepiofmeaaDoorSpSum0
import Derived.Test.YthhbndepiofmeaaDoorSpFixed
import Derived.Test.YthhbndepiofmeaaDoorSpOpen
namespace Go.Proofs.YthhbndepiofmeaaDoor
open Go.RowKit Bw
set_option linter.unusedVariables false
theorem infoLeaf : ∃ i, Tryd.prog.info? 56 = some i ∧ i.zero = some (.agg #[.int .i64 0, .int .i64 0]) ∧ i.size = 2 ∧ i.bytes = 16 := by
  refine ⟨_, rfl, ?_, ?_, ?_⟩ <;> kernel_rfl
set_option maxHeartbeats 4000000 in
set_option maxRecDepth 100000 in
theorem sum_law (a0 : Option Addr) (z0 : List Int) (c0' : Nat) (a1 : Option Addr) (z1 : List Int) (c1' : Nat) (w : World) (h0 : z0.length ≤ c0' ∧ NumsIn .u16 w a0 z0) (h1 : z1.length ≤ c1' ∧ NumsIn .u8 w a1 z1) (ht : Tab w) :
    Calls Tryd.prog 8 #[.slice a0 z0.length c0', .slice a1 z1.length c1'] w fun e w' => e = .returned (.bool true) ∧ Below w.heap.size w w' := by
  obtain ⟨_, m0, x0, n0⟩ := h0
  obtain ⟨_, m1, x1, n1⟩ := h1
  have N0 := Lib.hid (show NumsIn .u16 w a0 z0 from ⟨m0, x0, n0⟩)
  have N1 := Lib.hid (show NumsIn .u8 w a1 z1 from ⟨m1, x1, n1⟩)
  have HT := Lib.hid ht
  have CF := Lib.hid law18_fixed
  clear ht x0 n0 x1 n1
  have hD := Hold.start w
  go_enter Tryd.func8, Tryd.ntmps8
  go_upto_region 2 with fail
  have hm : Hold w (w.alloc (.cells #[] 56)) [rLv 56 (.slice (some ⟨w.heap.size, 0, none⟩) 0 0) []] := hD.madeZ 56 2
  clear hD
  have hD := hm
  clear hm
  generalize w.heap.size = g at *
  generalize w.alloc _ = w0 at *
  go_wp2_with fail
  go_loopw [5, 6, 7, 8, 9] (fun v5 v6 v7 v8 v9 wr => ∃ (l : List LeafZ) (q : Option Addr) (cap : Nat) (s r ahead lk : Int), l.length ≤ 60 ∧ l.length ≤ z0.length ∧ l.length ≤ z1.length ∧ (∀ x ∈ l, leafOk 231 x = true) ∧ accL l = (s, r, ahead, lk) ∧
    (0 ≤ s ∧ s ≤ 1024 * l.length ∧ lk ≤ r ∧ r ≤ 1024 * l.length ∧ 0 ≤ lk) ∧ v5 = .slice q l.length cap ∧ v6 = .complex .f64 (fltZ s) (fltZ r) ∧ v7 = .int .i64 ahead ∧ v8 = .complex .f64 0 (fltZ lk) ∧ v9 = .int .i64 l.length ∧ Hold w wr [rLv 56 (.slice q l.length cap) l]) (fun _ _ _ _ v _ => z0.length - (intOf v).toNat)
  case atStart => exact ⟨[], _, _, 0, 0, -1, 0, by simp, by simp, by simp, by simp, rfl, by simp, rfl, by rw [c0], rfl, by rw [c0], rfl, hD⟩
  case round =>
  clear hD
  obtain ⟨l, q, cap, s, r, ahead, lk, l60, l0, l1, hok, hac, ⟨s0, s1, r0, r1, k0⟩, rfl, rfl, rfl, rfl, rfl, hD⟩ := hrel
  by_cases hlt : l.length < z0.length ∧ l.length < z1.length ∧ l.length < 60
  · obtain ⟨j0, j1, j2⟩ := hlt
    have i0 : (l.length : Int) < (z0.length : Int) := by omega
    have i1 : (l.length : Int) < (z1.length : Int) := by omega
    have i2 : (l.length : Int) < 60 := by omega
    obtain ⟨g0, o0, rfl, e0⟩ := (N0.out.up hD.up).2.2 l.length j0
    obtain ⟨g1, o1, rfl, e1⟩ := (N1.out.up hD.up).2.2 l.length j1
    have y0 := N0.out.2.1 _ (List.getElem_mem j0)
    have y1 := N1.out.2.1 _ (List.getElem_mem j1)
    obtain ⟨p0, p1⟩ : 0 ≤ z0[l.length] ∧ z0[l.length] < 65536 := by simp [Lit.wf, IntKind.min, IntKind.max, IntKind.signed, IntKind.bits] at y0; omega
    obtain ⟨p2, p3⟩ : 0 ≤ z1[l.length] ∧ z1[l.length] < 256 := by simp [Lit.wf, IntKind.min, IntKind.max, IntKind.signed, IntKind.bits] at y1; omega
    clear y0 y1
    generalize z0[l.length] = P at *
    generalize z1[l.length] = Q at *
    obtain ⟨inf, hi0', hz0, hz1, hz2⟩ := infoLeaf
    have i3 : (0 : Int) ≤ (l.length : Int) := by omega
    have e0' := e0
    go_upto_region 7 with fail
    refine wp_region_tail 14 (by kernel_rfl) (by kernel_rfl) (by kernel_rfl) (by kernel_rfl) ?_
    refine wpHeadS_quiet 0 13 1 104 (by rfl) (by kernel_rfl) (fun _ _ _ _ _ h => h) (by kernel_rfl) (by kernel_rfl) ?_
    apply Exists.intro
    refine ⟨fun w1 hw1 => ?_, ?_⟩
    · have l_q0 := Later.of_base e0 hw1
      have l_q1 := Later.of_base e1 hw1
      have hne := later_ne w1
      simp only [List.drop_zero, List.take_succ_cons, List.take_zero]
      repeat (go_big_quiet_step (fail))
      exact wpQuiet_nil rfl
    clear e0 e1 e0'
    refine wpHeadS_one 13 0 (by rfl) (by kernel_rfl) (by kernel_rfl) ?_
    intro w1 hw1
    simp only [List.drop_succ_cons, List.drop_zero, List.take_succ_cons, List.take_zero]
    go_wp2_with fail
    refine ⟨(Up.refl w1).alloc _, ?_⟩
    have hm : Hold w (w1.alloc (.cells #[.int .i64 0, .int .i64 0] 56)) [rLv 56 (.slice q l.length cap) l, rowR w1.heap.size (.int .i64 0) [.int .i64 0]] := (hD.next hw1).madeRow (.int .i64 0) [.int .i64 0] 56
    clear hD
    have hD := hm
    clear hm
    generalize w1.heap.size = g6 at *
    generalize w1.alloc (.cells #[.int .i64 0, .int .i64 0] 56) = w2 at *
    refine wpHeadS_tail (by rfl) (by kernel_rfl) ?_
    intro w4' hw4
    replace hD := hD.next hw4
    obtain ⟨q0, q1, q2, q3⟩ := hD.row2 1 rfl
    simp only [List.drop_succ_cons, List.drop_zero]
    go_upto_region 8 with fail
    replace hD := (hD.putRow 1 rfl 0 (.int .i64 (P % 1024)) (.int .i64 (P % 1024)) [.int .i64 0] (by simp) rfl).putRow 1 rfl 1 (.int .i64 (Q % 232)) (.int .i64 (P % 1024)) [.int .i64 (Q % 232)] (by simp) rfl
    clear q0 q1 q2 q3
    have b0 : 0 ≤ P % 1024 ∧ P % 1024 ≤ 1023 := by omega
    have b1 : 0 ≤ Q % 232 ∧ Q % 232 ≤ 231 := by omega
    clear p0 p1 p2 p3
    generalize P % 1024 = p at *
    generalize Q % 232 = u at *
    replace hD : Hold w ((w4'.setCell { block := g6, off := 0 } (Value.int IntKind.i64 p)).setCell { block := g6, off := 1 } (Value.int IntKind.i64 u)) [rLv 56 (.slice q l.length cap) l, rowR g6 (.int .i64 p) [.int .i64 u]] := hD
    generalize (w4'.setCell { block := g6, off := 0 } (Value.int IntKind.i64 p)).setCell { block := g6, off := 1 } (Value.int IntKind.i64 u) = w5 at *
    obtain ⟨q0, q1, q2, q3⟩ := hD.row2 1 rfl
    have r7 := RowAt.made w5 56 [.int .i64 p, .int .i64 u]
    have C1 := Lib.hid (sp_One ahead p u 231)
    have hok2 : leafOk 231 (p, u) = true := by simp [leafOk, inB]; omega
    have hac2 : accL (l ++ [(p, u)]) = (s + oneP ahead p u 231, r + oneW ahead p u 231, p, oneW ahead p u 231) := by rw [accL_snoc, hac]; rfl
    obtain ⟨d0, d1, d2, d3⟩ := one_bounds ahead p u 231
    have HA := add_complex s r (oneP ahead p u 231) (oneW ahead p u 231) (by omega) (by omega) (by omega) (by omega) (by omega) (by omega)
    have HC := Lib.hid hac2
    clear hac2
    generalize oneP ahead p u 231 = ep at *
    generalize oneW ahead p u 231 = eu at *
    go_wp2_with (first
      | (at_builtin; refine wpList_appendZ rfl _ _ 22 rfl 56 inf (.agg #[.int .i64 0, .int .i64 0]) 2 16 (by kernel_rfl) hi0' hz0 hz1 hz2 rfl (by decide) (hD.next ((Below.refl _ _).alloc (Nat.le_refl _) (.cells #[.int .i64 p, .int .i64 u] 56))) 0 _ (cellsL l) l.length rfl rfl ⟨w5.heap.size, 0, none⟩ 1 [.int .i64 p, .int .i64 u] rfl rfl r7.addsAt (fun x hx => by simp at hx; rcases hx with rfl | rfl <;> rfl) (by unfold maxLen; omega) (by omega) ?_; intro b5 c5 w6 hw; clear q0 q1 q2 q3; obtain ⟨q0, q1, q2, q3⟩ := hw.row2 1 rfl)
      | ((with_reducible refine (C1.out _).mono ?_); rintro e wn ⟨rfl, rfl⟩))
    refine ⟨⟨l ++ [(p, u)], some ⟨b5, 0, none⟩, c5, s + ep, r + eu, p, eu, by simp; omega, by simp; omega, by simp; omega, ?_, HC.out, ⟨by omega, by simp; omega, by omega, by simp; omega, by omega⟩, by simp, rfl, rfl, rfl, by simp, ?_⟩, by simp [intOf]; omega⟩
    · intro x hx
      rcases List.mem_append.1 hx with hx | hx
      · exact hok x hx
      · obtain rfl := List.mem_singleton.1 hx; exact hok2
    · have e3 : rLv 56 (.slice (some ⟨b5, 0, none⟩) (l ++ [(p, u)]).length c5) (l ++ [(p, u)]) = ownZ 56 2 (.slice (some ⟨b5, 0, none⟩) (l.length + 1) c5) (l.length + 1) (cellsL l ++ [.int .i64 p, .int .i64 u]) := by
        unfold rLv; rw [cellsL_append, List.length_append]; rfl
      rw [e3]
      exact hw.sub (List.sublist_append_left [_] [_])
  · obtain ⟨hz, ho⟩ := of_acc l hok (by omega)
    rw [hac] at ho
    have HL := (leaves_at (hD.get 0 rfl)).choose_spec.choose_spec
    have hLv : LeavesAt wr q l := by
      obtain ⟨q', cap', e, hl⟩ := leaves_at (hD.get 0 rfl)
      obtain ⟨rfl, -, rfl⟩ : q = q' ∧ l.length = l.length ∧ cap = cap' := by injection e with e1 e2 e3; exact ⟨e1, e2, e3⟩
      exact hl
    have C1 := Lib.hid (sp_Of_in l q cap 231 wr hLv (by omega) rfl)
    have HU := Lib.hid hD.up
    have HO := Lib.hid ho
    rw [hz] at C1
    clear hz ho HL hLv hD hok hac
    have f1 := ford_eq (show Small s by unfold Small; omega)
    by_cases h2 : l.length < 2
    · have i2 : (l.length : Int) < 2 := by omega
      have f2 := ford_eq (show Small r by unfold Small; omega)
      have HR := Lib.hid (show (s, r) = ofS l 231 by rw [HO.out, if_neg (by omega)])
      clear HO h2
      rcases (by omega : ¬ (l.length : Int) < (z0.length : Int) ∨ ((l.length : Int) < (z0.length : Int) ∧ ¬ (l.length : Int) < (z1.length : Int)) ∨ ((l.length : Int) < (z0.length : Int) ∧ (l.length : Int) < (z1.length : Int) ∧ ¬ (l.length : Int) < 60)) with g1 | ⟨g1, g2⟩ | ⟨g1, g2, g3⟩
      all_goals
        clear hlt
        go_wp2_with (first
          | ((with_reducible refine C1.out.mono ?_); rintro e wn ⟨s', r', rfl, hs, hB⟩; rw [← HR.out] at hs; injection hs with hs1 hs2; subst hs1 hs2; have hu := HU.out.next hB; clear hB)
          | ((with_reducible refine (CF.out _ (HT.out.up hu)).mono ?_); rintro e wm ⟨rfl, hB⟩; replace hu := hu.next hB; clear hB))
        go_ret
        exact ⟨rfl, hu⟩
    · have i2 : ¬ (l.length : Int) < 2 := by omega
      have f2 := ford_eq (show Small (r - lk) by unfold Small; omega)
      have HR := Lib.hid (show (s, r - lk) = ofS l 231 by rw [HO.out, if_pos (by omega)])
      have HS := sub_complex s r 0 lk (by omega) k0 s0 r0 (by omega) (by omega)
      rw [c0, Int.sub_zero] at HS
      have C2 := sp_Far s (r - lk) (by unfold Small; omega) (by unfold Small; omega)
      rw [show farZ s (r - lk) = s + (r - lk) from if_pos (by simp [okZ]; omega)] at C2
      have C2 := Lib.hid C2
      have v1 := conv_flt s (by unfold Small; omega) (by omega) (by omega)
      have v2 := conv_flt (r - lk) (by unfold Small; omega) (by omega) (by omega)
      clear HO h2
      rcases (by omega : ¬ (l.length : Int) < (z0.length : Int) ∨ ((l.length : Int) < (z0.length : Int) ∧ ¬ (l.length : Int) < (z1.length : Int)) ∨ ((l.length : Int) < (z0.length : Int) ∧ (l.length : Int) < (z1.length : Int) ∧ ¬ (l.length : Int) < 60)) with g1 | ⟨g1, g2⟩ | ⟨g1, g2, g3⟩
      all_goals
        clear hlt
        go_wp2_with (first
          | ((with_reducible refine C1.out.mono ?_); rintro e wn ⟨s', r', rfl, hs, hB⟩; rw [← HR.out] at hs; injection hs with hs1 hs2; subst hs1 hs2; have hu := HU.out.next hB; clear hB)
          | ((with_reducible refine (C2.out _).mono ?_); rintro e wm ⟨rfl, rfl⟩)
          | ((with_reducible refine (CF.out _ (HT.out.up hu)).mono ?_); rintro e wm ⟨rfl, hB⟩; replace hu := hu.next hB; clear hB))
        go_ret
        exact ⟨rfl, hu⟩
end Go.Proofs.YthhbndepiofmeaaDoor
