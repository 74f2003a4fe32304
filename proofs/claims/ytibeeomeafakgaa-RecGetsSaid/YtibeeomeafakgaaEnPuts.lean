import Derived.Test.YtibeeomeafakgaaEnLaws
import Derived.Test.YtibeeomeafakgaaEnRef3
namespace Go.Proofs.Ytibeeomeafakgaa
open Go.RowKit Bw
set_option linter.unusedVariables false

set_option maxHeartbeats 1000000 in
theorem law5_Ref (r : RecD) (pp : Option Addr) (pn pc : Nat) (w : World) : Calls Try.prog 13 #[recV r (.slice pp pn pc)] w fun e w' => e = .returned (recV r (.slice pp pn pc)) ∧ Below w.heap.size w w' := by
  obtain ⟨k, t, key, val, p, u, n, l⟩ := r
  unfold recV
  have hu := Up.refl w
  go_enter Try.func13, Try.ntmps13
  go_upto_region 1 with fail
  have rp := ((RowAt.made w 24 [.int .i64 k, .int .i64 t, .string key, .string val, .int .i64 p, .int .i64 u, .int .i64 n, .slice pp pn pc]).alloc (.cells #[.int .i64 0, .int .i64 0, .string ⟨#[]⟩, .string ⟨#[]⟩, .int .i64 0, .int .i64 0, .int .i64 0, .slice none 0 0] 28))
  have rr := (RowAt.made (w.alloc (.cells #[.int .i64 k, .int .i64 t, .string key, .string val, .int .i64 p, .int .i64 u, .int .i64 n, .slice pp pn pc] 24)) 28 [.int .i64 0, .int .i64 0, .string ⟨#[]⟩, .string ⟨#[]⟩, .int .i64 0, .int .i64 0, .int .i64 0, .slice none 0 0])
  simp at rp rr
  replace hu := ((hu.alloc (.cells #[.int .i64 k, .int .i64 t, .string key, .string val, .int .i64 p, .int .i64 u, .int .i64 n, .slice pp pn pc] 24)).alloc (.cells #[.int .i64 0, .int .i64 0, .string ⟨#[]⟩, .string ⟨#[]⟩, .int .i64 0, .int .i64 0, .int .i64 0, .slice none 0 0] 28))
  generalize hw3 : (w.alloc (.cells #[.int .i64 k, .int .i64 t, .string key, .string val, .int .i64 p, .int .i64 u, .int .i64 n, .slice pp pn pc] 24)).alloc (.cells #[.int .i64 0, .int .i64 0, .string ⟨#[]⟩, .string ⟨#[]⟩, .int .i64 0, .int .i64 0, .int .i64 0, .slice none 0 0] 28) = w3 at *
  clear hw3
  obtain ⟨p0, p1, p2, p3, p4, p5, p6, p7, -⟩ := rp.c8
  obtain ⟨r0, r1, r2, r3, r4, r5, r6, r7, z0, z1, z2, z3, z4, z5, z6, z7⟩ := rr.c8
  have hrl := rr.lt
  go_wp2_with fail
  refine bodyPost_ret (v := .agg #[.int .i64 k, .int .i64 t, .string key, .string val, .int .i64 p, .int .i64 u, .int .i64 n, .slice pp pn pc]) (by simp [results, Try.results13, go_sem, *]) rfl ⟨rfl, ?_⟩
  repeat (first | refine Up.setCell ?_ _ _ _ (by first | omega | (simp; done) | (simp; omega)) | refine Up.alloc ?_ _)
  exact hu

theorem cutR_strs (r : RecD) : ∀ p ∈ (cutR r).l, p.1.size ≤ 1099511627776 := by
  intro p hp
  obtain ⟨q, _, rfl⟩ := List.mem_map.1 hp
  have := cutS_size q.1
  show (cutS q.1).size ≤ _
  omega
theorem cut60_size (s : ByteArray) : (s.extract 0 (min (s.size : Int) 60).toNat).size ≤ 60 := by
  rw [ByteArray.size_extract]; omega
set_option maxHeartbeats 4000000 in
set_option maxRecDepth 100000 in
theorem puts_walk (F G : RecD) (hl : F.l.length ≤ 40) (hl' : G.l.length ≤ 40) (hst : ∀ p ∈ F.l, p.1.size ≤ 1099511627776) (r0 r1 : RecD) (p0 p1 : Option Addr) (c0 c1 : Nat) (s : ByteArray) (w : World)
    (C0 : Hid (∀ w1, Up w w1 → Calls Try.prog 10 #[.agg #[.int .i64 (r0).k, .int .i64 (r0).t, .string (r0).key, .string (r0).val, .int .i64 (r0).p, .int .i64 (r0).u, .int .i64 (r0).n, .slice p0 r0.l.length c0]] w1 fun e w' => ∃ q d, e = .returned (.agg #[.int .i64 (F).k, .int .i64 (F).t, .string (F).key, .string (F).val, .int .i64 (F).p, .int .i64 (F).u, .int .i64 (F).n, .slice q F.l.length d]) ∧ PairsAt w' q F.l ∧ InB w1.heap.size w'.heap.size q ∧ Below w1.heap.size w1 w'))
    (C1 : Hid (∀ w1, Up w w1 → Calls Try.prog 10 #[.agg #[.int .i64 (r1).k, .int .i64 (r1).t, .string (r1).key, .string (r1).val, .int .i64 (r1).p, .int .i64 (r1).u, .int .i64 (r1).n, .slice p1 r1.l.length c1]] w1 fun e w' => ∃ q d, e = .returned (.agg #[.int .i64 (G).k, .int .i64 (G).t, .string (G).key, .string (G).val, .int .i64 (G).p, .int .i64 (G).u, .int .i64 (G).n, .slice q G.l.length d]) ∧ PairsAt w' q G.l ∧ InB w1.heap.size w'.heap.size q ∧ Below w1.heap.size w1 w')) :
    Calls Try.prog 3 #[.agg #[.int .i64 (r0).k, .int .i64 (r0).t, .string (r0).key, .string (r0).val, .int .i64 (r0).p, .int .i64 (r0).u, .int .i64 (r0).n, .slice p0 r0.l.length c0], .agg #[.int .i64 (r1).k, .int .i64 (r1).t, .string (r1).key, .string (r1).val, .int .i64 (r1).p, .int .i64 (r1).u, .int .i64 (r1).n, .slice p1 r1.l.length c1], .string s] w fun e w' => e = .returned (.bool true) ∧ Below w.heap.size w w' := by
  have k1 : ∀ w q d, PairsAt w q F.l → Calls Try.prog 11 #[.agg #[.int .i64 (F).k, .int .i64 (F).t, .string (F).key, .string (F).val, .int .i64 (F).p, .int .i64 (F).u, .int .i64 (F).n, .slice q F.l.length d]] w fun e w' => e = .returned (.bool F.rightR) ∧ Below w.heap.size w w' := fun w q d hh => cRight F q d w hh (by omega)
  have k2 : ∀ w q d, PairsAt w q F.l → Calls Try.prog 12 #[.agg #[.int .i64 (F).k, .int .i64 (F).t, .string (F).key, .string (F).val, .int .i64 (F).p, .int .i64 (F).u, .int .i64 (F).n, .slice q F.l.length d]] w fun e w' => e = .returned (.bool F.rightR) ∧ Below w.heap.size w w' := fun w q d hh => ref5_Right F q d w hh (by omega) hst
  have k3 : ∀ w q d, PairsAt w q F.l → Calls Try.prog 14 #[.agg #[.int .i64 (F).k, .int .i64 (F).t, .string (F).key, .string (F).val, .int .i64 (F).p, .int .i64 (F).u, .int .i64 (F).n, .slice q F.l.length d]] w fun e w' => e = .returned (.string F.enc) ∧ Below w.heap.size w w' := fun w q d hh => cEnc F q d w hh (by omega)
  have k4 : ∀ w q d, PairsAt w q F.l → Calls Try.prog 15 #[.agg #[.int .i64 (F).k, .int .i64 (F).t, .string (F).key, .string (F).val, .int .i64 (F).p, .int .i64 (F).u, .int .i64 (F).n, .slice q F.l.length d]] w fun e w' => e = .returned (.string F.enc) ∧ Below w.heap.size w w' := fun w q d hh => ref5_Encode F q d w hh (by omega) hst
  have k5 : ∀ w q q' d d', PairsAt w q F.l → PairsAt w q' G.l → Calls Try.prog 16 #[.agg #[.int .i64 (F).k, .int .i64 (F).t, .string (F).key, .string (F).val, .int .i64 (F).p, .int .i64 (F).u, .int .i64 (F).n, .slice q F.l.length d], .agg #[.int .i64 (G).k, .int .i64 (G).t, .string (G).key, .string (G).val, .int .i64 (G).p, .int .i64 (G).u, .int .i64 (G).n, .slice q' G.l.length d']] w fun e w' => e = .returned (.bool (F.same G)) ∧ Below w.heap.size w w' := fun w q q' d d' h1 h2 => cSame F G q q' d d' w h1 h2 (by omega) (by omega)
  have k6 : ∀ w q q' d d', PairsAt w q F.l → PairsAt w q' G.l → Calls Try.prog 17 #[.agg #[.int .i64 (F).k, .int .i64 (F).t, .string (F).key, .string (F).val, .int .i64 (F).p, .int .i64 (F).u, .int .i64 (F).n, .slice q F.l.length d], .agg #[.int .i64 (G).k, .int .i64 (G).t, .string (G).key, .string (G).val, .int .i64 (G).p, .int .i64 (G).u, .int .i64 (G).n, .slice q' G.l.length d']] w fun e w' => e = .returned (.bool (F.same G)) ∧ Below w.heap.size w w' := fun w q q' d d' h1 h2 => ref5_Same F G q q' d d' w h1 h2 (by omega) (by omega)
  have k7 : ∀ w q d, Calls Try.prog 13 #[.agg #[.int .i64 (F).k, .int .i64 (F).t, .string (F).key, .string (F).val, .int .i64 (F).p, .int .i64 (F).u, .int .i64 (F).n, .slice q F.l.length d]] w fun e w' => e = .returned (.agg #[.int .i64 (F).k, .int .i64 (F).t, .string (F).key, .string (F).val, .int .i64 (F).p, .int .i64 (F).u, .int .i64 (F).n, .slice q F.l.length d]) ∧ Below w.heap.size w w' := fun w q d => law5_Ref F q F.l.length d w
  have k8 : ∀ w q d, Calls Try.prog 13 #[.agg #[.int .i64 (G).k, .int .i64 (G).t, .string (G).key, .string (G).val, .int .i64 (G).p, .int .i64 (G).u, .int .i64 (G).n, .slice q G.l.length d]] w fun e w' => e = .returned (.agg #[.int .i64 (G).k, .int .i64 (G).t, .string (G).key, .string (G).val, .int .i64 (G).p, .int .i64 (G).u, .int .i64 (G).n, .slice q G.l.length d]) ∧ Below w.heap.size w w' := fun w q d => law5_Ref G q G.l.length d w
  have K1 := Lib.hid k1; have K2 := Lib.hid k2; have K3 := Lib.hid k3; have K4 := Lib.hid k4; have K5 := Lib.hid k5; have K6 := Lib.hid k6; have K7 := Lib.hid k7; have K8 := Lib.hid k8
  clear k1 k2 k3 k4 k5 k6 k7 k8 hst
  generalize F.rightR = RB at *
  generalize F.enc = EF at *
  generalize F.same G = SB at *
  have C9 := Lib.hid law5_fixed
  have hu := Up.refl w
  go_enter Try.func3, Try.ntmps3
  go_upto_region 1 with fail
  have r2 := (RowAt.made w 24 [.int .i64 (r0).k, .int .i64 (r0).t, .string (r0).key, .string (r0).val, .int .i64 (r0).p, .int .i64 (r0).u, .int .i64 (r0).n, .slice p0 r0.l.length c0]).alloc (.cells #[.int .i64 (r1).k, .int .i64 (r1).t, .string (r1).key, .string (r1).val, .int .i64 (r1).p, .int .i64 (r1).u, .int .i64 (r1).n, .slice p1 r1.l.length c1] 24)
  have r3 := RowAt.made (w.alloc (.cells #[.int .i64 (r0).k, .int .i64 (r0).t, .string (r0).key, .string (r0).val, .int .i64 (r0).p, .int .i64 (r0).u, .int .i64 (r0).n, .slice p0 r0.l.length c0] 24)) 24 [.int .i64 (r1).k, .int .i64 (r1).t, .string (r1).key, .string (r1).val, .int .i64 (r1).p, .int .i64 (r1).u, .int .i64 (r1).n, .slice p1 r1.l.length c1]
  simp at r2 r3
  replace hu := (hu.alloc (.cells #[.int .i64 (r0).k, .int .i64 (r0).t, .string (r0).key, .string (r0).val, .int .i64 (r0).p, .int .i64 (r0).u, .int .i64 (r0).n, .slice p0 r0.l.length c0] 24)).alloc (.cells #[.int .i64 (r1).k, .int .i64 (r1).t, .string (r1).key, .string (r1).val, .int .i64 (r1).p, .int .i64 (r1).u, .int .i64 (r1).n, .slice p1 r1.l.length c1] 24)
  generalize (w.alloc (.cells #[.int .i64 (r0).k, .int .i64 (r0).t, .string (r0).key, .string (r0).val, .int .i64 (r0).p, .int .i64 (r0).u, .int .i64 (r0).n, .slice p0 r0.l.length c0] 24)).alloc (.cells #[.int .i64 (r1).k, .int .i64 (r1).t, .string (r1).key, .string (r1).val, .int .i64 (r1).p, .int .i64 (r1).u, .int .i64 (r1).n, .slice p1 r1.l.length c1] 24) = w1 at *
  have lt2 := r2.lt
  have lt3 := r3.lt
  obtain ⟨x0, x1, x2, x3, x4, x5, x6, x7, z0, z1, z2, z3, z4, z5, z6, z7⟩ := r2.c8
  go_upto_region 2 with ((with_reducible refine (C0.out _ hu).mono ?_); rintro e w2 ⟨q, d, rfl, hP, hB, hw⟩; have sz := Below.size hw; replace r2 := r2.up hw; replace r3 := r3.up hw; replace hu := hu.next hw; clear hw; clear x0 x1 x2 x3 x4 x5 x6 x7 z0 z1 z2 z3 z4 z5 z6 z7; obtain ⟨x0, x1, x2, x3, x4, x5, x6, x7, z0, z1, z2, z3, z4, z5, z6, z7⟩ := r2.c8)
  change Code.wp _ _ _ _ (set8 w2 w.heap.size F (.slice q F.l.length d))
  clear x0 x1 x2 x3 x4 x5 x6 x7 z0 z1 z2 z3 z4 z5 z6 z7 C0
  replace r2 := set8_row r2 F (.slice q F.l.length d)
  replace r3 := set8_other (g := w.heap.size) r3 F (.slice q F.l.length d) (by omega)
  replace hP := set8_pairs hP hB F (.slice q F.l.length d) lt2
  replace hu := set8_up hu F (.slice q F.l.length d) (Nat.le_refl _)
  have sz2 := set8_size w2 w.heap.size F (.slice q F.l.length d)
  generalize set8 w2 w.heap.size F (.slice q F.l.length d) = w3 at *
  obtain ⟨x0, x1, x2, x3, x4, x5, x6, x7, z0, z1, z2, z3, z4, z5, z6, z7⟩ := r3.c8
  go_upto_region 3 with ((with_reducible refine (C1.out _ hu).mono ?_); rintro e w4 ⟨q', d', rfl, hQ, hD, hw⟩; replace r2 := r2.up hw; replace r3 := r3.up hw; replace hP := PairsAt.up hP hw; replace hu := hu.next hw; clear hw; clear x0 x1 x2 x3 x4 x5 x6 x7 z0 z1 z2 z3 z4 z5 z6 z7; obtain ⟨x0, x1, x2, x3, x4, x5, x6, x7, z0, z1, z2, z3, z4, z5, z6, z7⟩ := r3.c8)
  change Code.wp _ _ _ _ (set8 w4 (w.heap.size + 1) G (.slice q' G.l.length d'))
  clear x0 x1 x2 x3 x4 x5 x6 x7 z0 z1 z2 z3 z4 z5 z6 z7 C1
  replace r3 := set8_row r3 G (.slice q' G.l.length d')
  replace r2 := set8_other (g := w.heap.size + 1) r2 G (.slice q' G.l.length d') (by omega)
  replace hP := set8_pairs hP hB G (.slice q' G.l.length d') lt3
  replace hQ := set8_pairs (g := w.heap.size + 1) hQ hD G (.slice q' G.l.length d') (by omega)
  replace hu := set8_up (g := w.heap.size + 1) hu G (.slice q' G.l.length d') (by omega)
  clear hB hD sz sz2
  generalize set8 w4 (w.heap.size + 1) G (.slice q' G.l.length d') = w5 at *
  obtain ⟨x0, x1, x2, x3, x4, x5, x6, x7, -⟩ := r2.c8
  obtain ⟨s0, s1, s2', s3, s4, s5, s6, s7, -⟩ := r3.c8
  go_upto_region 4 with fail
  generalize s.extract 0 (min (s.size : Int) 60).toNat = s2 at *
  have k1 := fun w => rec_Key s2 w
  have k2 := fun w => ref5_Key s2 w
  have k3 := fun w => rec_Value s2 w
  have k4 := fun w => ref5_Value s2 w
  generalize keyB s2 = KB at *
  generalize valB s2 = VB at *
  have J1 := Lib.hid k1; have J2 := Lib.hid k2; have J3 := Lib.hid k3; have J4 := Lib.hid k4
  clear k1 k2 k3 k4
  have HP := Lib.hid (show ∀ u : Later w5, PairsAt u.world q F.l from fun u => PairsAt.up hP u.up)
  have HQ := Lib.hid (show ∀ u : Later w5, PairsAt u.world q' G.l from fun u => PairsAt.up hQ u.up)
  have a0 := Later.cell_of x0; have a1 := Later.cell_of x1; have a2 := Later.cell_of x2; have a3 := Later.cell_of x3; have a4 := Later.cell_of x4; have a5 := Later.cell_of x5; have a6 := Later.cell_of x6; have a7 := Later.cell_of x7
  have b0 := Later.cell_of s0; have b1 := Later.cell_of s1; have b2 := Later.cell_of s2'; have b3 := Later.cell_of s3; have b4 := Later.cell_of s4; have b5 := Later.cell_of s5; have b6 := Later.cell_of s6; have b7 := Later.cell_of s7
  clear x0 x1 x2 x3 x4 x5 x6 x7 s0 s1 s2' s3 s4 s5 s6 s7 hP hQ
  have hne := later_ne w5
  refine wp_region_later (by kernel_rfl) (by kernel_rfl) ?_
  repeat (go_big_quiet_step (first
    | (go_at_call 11; with_reducible exact Calls.later (K1.out _ _ _ (HP.out _)))
    | (go_at_call 12; with_reducible exact Calls.later (K2.out _ _ _ (HP.out _)))
    | (go_at_call 14; with_reducible exact Calls.later (K3.out _ _ _ (HP.out _)))
    | (go_at_call 15; with_reducible exact Calls.later (K4.out _ _ _ (HP.out _)))
    | (go_at_call 16; with_reducible exact Calls.later (K5.out _ _ _ _ _ (HP.out _) (HQ.out _)))
    | (go_at_call 17; with_reducible exact Calls.later (K6.out _ _ _ _ _ (HP.out _) (HQ.out _)))
    | (go_at_call 13; with_reducible exact Calls.later (K7.out _ _ _))
    | (go_at_call 13; with_reducible exact Calls.later (K8.out _ _ _))
    | (go_at_call 18; with_reducible exact Calls.later_same (J1.out _))
    | (go_at_call 19; with_reducible exact Calls.later_same (J2.out _))
    | (go_at_call 20; with_reducible exact Calls.later_same (J3.out _))
    | (go_at_call 21; with_reducible exact Calls.later_same (J4.out _))
    | (go_at_call 22; with_reducible exact Calls.later (C9.out _))))
  refine wpQuiet_nil ?_
  intro w9 hw9
  obtain ⟨u9, rfl⟩ := hw9
  replace hu := hu.trans u9.up
  generalize u9.world = w9 at *
  go_wp2_with fail
  go_ret
  exact ⟨rfl, hu⟩

theorem puts_law (r0 : RecD) (p0 : Option Addr) (c0 : Nat) (w : World) (hA : RecIn w r0 p0) (r1 : RecD) (p1 : Option Addr) (c1 : Nat) (w' : World) (hw : w' = w) (hB : RecIn w' r1 p1) (s : ByteArray) (hs : s.size ≤ maxLen) :
    Calls Try.prog 3 #[.agg #[.int .i64 (r0).k, .int .i64 (r0).t, .string (r0).key, .string (r0).val, .int .i64 (r0).p, .int .i64 (r0).u, .int .i64 (r0).n, .slice p0 r0.l.length c0], .agg #[.int .i64 (r1).k, .int .i64 (r1).t, .string (r1).key, .string (r1).val, .int .i64 (r1).p, .int .i64 (r1).u, .int .i64 (r1).n, .slice p1 r1.l.length c1], .string s] w fun e w' => e = .returned (.bool true) ∧ Below w.heap.size w w' := by
  subst hw
  have C0 := Lib.hid (fun w1 (h : Up w' w1) => cut_call r0 p0 c0 w1 (recIn_up hA h))
  have C1 := Lib.hid (fun w1 (h : Up w' w1) => cut_call r1 p1 c1 w1 (recIn_up hB h))
  exact puts_walk (cutR r0) (cutR r1) (cutR_l r0) (cutR_l r1) (cutR_strs r0) r0 r1 p0 p1 c0 c1 s w' C0 C1
end Go.Proofs.Ytibeeomeafakgaa
