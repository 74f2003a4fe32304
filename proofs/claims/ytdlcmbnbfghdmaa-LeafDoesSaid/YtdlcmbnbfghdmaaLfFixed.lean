/- The fixed calls of layer 10: the walk; and ref. -/
import Derived.Test.YtdlcmbnbfghdmaaLfFixed0
namespace Go.Proofs.Ytdlcmbnbfghdmaa
open Go.RowKit Bw
set_option linter.unusedVariables false
theorem law10_ref (x : LfD) (q : Option Addr) (c : Nat) (w : World) : Calls Try.prog 15 #[lfV x q c] w fun e w' => e = .returned (lfV x q c) ∧ Below w.heap.size w w' := by
  obtain ⟨L, H, N⟩ := x
  simp only [lfV]
  have hu := ((Up.refl w).alloc (.cells #[.slice q L.length c, .string H, .int .i64 N] 24)).alloc (.cells #[.slice q L.length c, .string H, .int .i64 N] 29)
  go_enter Try.func15, Try.ntmps15
  go_wp2_with fail
  exact bodyPost_ret (v := .agg #[.slice q L.length c, .string H, .int .i64 N]) (by simp [results, Try.results15, go_sem, *]) rfl ⟨rfl, hu⟩
set_option maxHeartbeats 4000000 in
set_option maxRecDepth 100000 in
theorem law10_fixed (w : World) :
    Calls Try.prog 22 #[] w fun e w' => e = .returned (.bool true) ∧ Below w.heap.size w w' := by
  have hD := Hold.start w
  have p1 := Lib.hid fp1
  have p2 := Lib.hid fp2
  have p3 := Lib.hid fp3
  go_enter Try.func22, Try.ntmps22
  go_upto_region 2 with ((with_reducible refine (fp1 _).mono ?_); rintro e wn ⟨q1, c1, rfl, hs, hn, hb⟩; replace hD := hold_addSl hD hb hs hn; clear hs hn hb)
  replace hD := hD.madeRow (.slice q1 1 c1) [.string ⟨#[]⟩, .int .i64 0] 24
  simp only [List.nil_append, List.cons_append] at hD
  generalize wn.heap.size = g1 at *
  generalize wn.alloc _ = w1 at *
  obtain ⟨t0, t1, t2, -⟩ := RowAt.c3 (hD.get 1 rfl)
  go_upto_region 3 with ((with_reducible refine (fp2 _ _ _ (slR_sl (hD.get 0 rfl))).mono ?_); rintro e wn ⟨q2, c2, rfl, hs, hn, hb⟩; replace hD := hold_addSl hD hb hs hn; clear hs hn hb)
  replace hD := hD.madeRow (.slice q2 2 c2) [.string ⟨#[]⟩, .int .i64 0] 24
  simp only [List.nil_append, List.cons_append] at hD
  generalize wn.heap.size = g2 at *
  generalize wn.alloc _ = w2 at *
  clear t0 t1 t2
  obtain ⟨t0, t1, t2, -⟩ := RowAt.c3 (hD.get 3 rfl)
  go_upto_region 4 with ((with_reducible refine (fg1 _ _ _ (slR_sl (hD.get 2 rfl))).mono ?_); rintro e wn ⟨rfl, hb⟩; replace hD := hD.next hb; clear hb)
  clear t0 t1 t2
  obtain ⟨t0, t1, t2, -⟩ := RowAt.c3 (hD.get 3 rfl)
  go_upto_region 5 with ((with_reducible refine (fg2 _ _ _ (slR_sl (hD.get 2 rfl))).mono ?_); rintro e wn ⟨rfl, hb⟩; replace hD := hD.next hb; clear hb)
  clear t0 t1 t2
  obtain ⟨t0, t1, t2, -⟩ := RowAt.c3 (hD.get 3 rfl)
  go_upto_region 6 with ((with_reducible refine (fd1 _ _ _ (slR_sl (hD.get 2 rfl))).mono ?_); rintro e wn ⟨q9, c9, rfl, hs, hn, hb⟩; replace hD := hold_addSl hD hb hs hn; clear hs hn hb)
  replace hD := hD.madeRow (.slice q9 1 c9) [.string ⟨#[]⟩, .int .i64 0] 24
  simp only [List.nil_append, List.cons_append] at hD
  generalize wn.heap.size = g9 at *
  generalize wn.alloc _ = w9 at *
  clear t0 t1 t2
  obtain ⟨t0, t1, t2, -⟩ := RowAt.c3 (hD.get 3 rfl)
  go_upto_region 7 with ((with_reducible refine (fs1 _ _ _ (slR_sl (hD.get 2 rfl))).mono ?_); rintro e wb ⟨q11, c11, q12, c12, rfl, hs1, hn1, hs2, hn2, hb⟩)
  clear t0 t1 t2
  replace hD := hD.next hb
  have U0 := Lib.hid hD.up
  have S1 := Lib.hid (slR_sl (hD.get 0 rfl))
  have S2 := Lib.hid (slR_sl (hD.get 2 rfl))
  have SO := Lib.hid (slR_sl hs1)
  have SB := Lib.hid (slR_sl hs2)
  have R1 := Lib.hid (show RowAt wb g1 [.slice q1 1 c1, .string ⟨#[]⟩, .int .i64 0] from hD.get 1 rfl)
  have R2 := Lib.hid (show RowAt wb g2 [.slice q2 2 c2, .string ⟨#[]⟩, .int .i64 0] from hD.get 3 rfl)
  have R9 := Lib.hid (show RowAt wb g9 [.slice q9 1 c9, .string ⟨#[]⟩, .int .i64 0] from hD.get 5 rfl)
  clear hs1 hs2 hn1 hn2 hb hD
  have hD := ((Hold.start wb).madeRow (.slice q11 1 c11) [.string ⟨#[98]⟩, .int .i64 7] 24).madeRow (.slice q12 1 c12) [.string ⟨#[]⟩, .int .i64 0] 24
  simp only [World.size_alloc, List.nil_append, List.cons_append] at hD
  generalize (wb.alloc _).alloc _ = w7 at *
  replace hD : Hold wb w7 [rowR wb.heap.size (.slice q11 1 c11) [.string ⟨#[98]⟩, .int .i64 7], rowR (wb.heap.size + 1) (.slice q12 1 c12) [.string ⟨#[]⟩, .int .i64 0]] := hD
  obtain ⟨t0, t1, t2, -⟩ := RowAt.c3 (hD.get 0 rfl)
  obtain ⟨s0, s1, s2, -⟩ := RowAt.c3 (hD.get 1 rfl)
  go_upto_region 8 with ((with_reducible refine (fj1 _ _ _ _ _ (SO.out.up hD.up) (SB.out.up hD.up)).mono ?_); rintro e wn ⟨q14, c14, rfl, hs, hn, hb⟩; replace hD := hold_addSl hD hb hs hn; clear hs hn hb)
  replace hD := hD.madeRow (.slice q14 2 c14) [.string ⟨#[]⟩, .int .i64 0] 24
  simp only [List.nil_append, List.cons_append] at hD
  generalize wn.heap.size = g14 at *
  generalize wn.alloc _ = w8 at *
  clear t0 t1 t2 s0 s1 s2
  obtain ⟨t0, t1, t2, -⟩ := RowAt.c3 (hD.get 0 rfl)
  go_upto_region 9 with ((with_reducible refine (fp3 _ _ _ (SO.out.up hD.up)).mono ?_); rintro e wn ⟨q16, c16, rfl, hs, hn, hb⟩; replace hD := hD.next hb; clear hs hn hb)
  replace hD := hD.next ((Up.refl wn).alloc (.cells #[.slice q16 0 c16, .string ⟨#[]⟩, .int .i64 0] 24))
  generalize wn.heap.size = g16 at *
  generalize wn.alloc _ = w9 at *
  clear t0 t1 t2
  obtain ⟨t0, t1, t2, -⟩ := RowAt.c3 (R1.out.up hD.up)
  go_upto_region 10 with ((with_reducible refine (fs2 _ _ _ (S1.out.up hD.up)).mono ?_); rintro e wn ⟨q18, c18, q19, c19, rfl, hb⟩; replace hD := hD.next hb; clear hb)
  replace hD := hD.next (((Up.refl wn).alloc (.cells #[.slice q18 0 c18, .string ⟨#[]⟩, .int .i64 0] 24)).alloc (.cells #[.slice q19 0 c19, .string ⟨#[]⟩, .int .i64 0] 24))
  generalize wn.heap.size = g18 at *
  generalize (wn.alloc _).alloc _ = w10 at *
  clear t0 t1 t2
  obtain ⟨t0, t1, t2, -⟩ := RowAt.c3 (R2.out.up hD.up)
  go_upto_region 11 with (first
    | ((with_reducible refine (fe2 _ _ _ (S2.out.up hD.up)).mono ?_); rintro e wm ⟨rfl, hb⟩; replace hD := hD.next hb; clear hb)
    | ((with_reducible refine (fdec1 _).mono ?_); rintro e wn ⟨q21, c21, rfl, hs, hn, hb⟩; replace hD := hold_addSl hD hb hs hn; clear hs hn hb))
  replace hD := hD.madeRow (.slice q21 2 c21) [.string ⟨#[]⟩, .int .i64 0] 24
  simp only [List.nil_append, List.cons_append] at hD
  generalize wn.heap.size = g21 at *
  generalize wn.alloc _ = w11 at *
  clear t0 t1 t2
  obtain ⟨t0, t1, t2, -⟩ := RowAt.c3 (R2.out.up hD.up)
  go_upto_region 12 with (first
    | ((with_reducible refine (fe2 _ _ _ (S2.out.up hD.up)).mono ?_); rintro e wm ⟨rfl, hb⟩; replace hD := hD.next hb; clear hb)
    | ((with_reducible refine (fdec2 _).mono ?_); rintro e wn ⟨q23, c23, rfl, hs, hn, hb⟩; replace hD := hD.next hb; clear hs hn hb))
  replace hD := hD.next ((Up.refl wn).alloc (.cells #[.slice q23 0 c23, .string ⟨#[]⟩, .int .i64 0] 24))
  generalize wn.heap.size = g23 at *
  generalize wn.alloc _ = w12 at *
  clear t0 t1 t2
  obtain ⟨l0, l1, l2, -⟩ := RowAt.c3 (R1.out.up hD.up)
  obtain ⟨m0, m1, m2, -⟩ := RowAt.c3 (R2.out.up hD.up)
  obtain ⟨n0, n1, n2, -⟩ := RowAt.c3 (R9.out.up hD.up)
  obtain ⟨a0, a1, a2, -⟩ := RowAt.c3 (hD.get 0 rfl)
  obtain ⟨b0, b1, b2, -⟩ := RowAt.c3 (hD.get 1 rfl)
  obtain ⟨o0, o1, o2, -⟩ := RowAt.c3 (hD.get 3 rfl)
  obtain ⟨x0, x1, x2, -⟩ := RowAt.c3 (hD.get 5 rfl)
  go_wp2_with (first
    | ((with_reducible refine (fe1 _ _ _ (S1.out.up hD.up)).mono ?_); rintro e wm ⟨rfl, hb⟩; replace hD := hD.next hb; clear hb; clear l0 l1 l2 m0 m1 m2 n0 n1 n2 a0 a1 a2 b0 b1 b2 o0 o1 o2 x0 x1 x2; obtain ⟨l0, l1, l2, -⟩ := RowAt.c3 (R1.out.up hD.up); obtain ⟨m0, m1, m2, -⟩ := RowAt.c3 (R2.out.up hD.up); obtain ⟨n0, n1, n2, -⟩ := RowAt.c3 (R9.out.up hD.up); obtain ⟨a0, a1, a2, -⟩ := RowAt.c3 (hD.get 0 rfl); obtain ⟨b0, b1, b2, -⟩ := RowAt.c3 (hD.get 1 rfl); obtain ⟨o0, o1, o2, -⟩ := RowAt.c3 (hD.get 3 rfl); obtain ⟨x0, x1, x2, -⟩ := RowAt.c3 (hD.get 5 rfl))
    | ((with_reducible refine (fsame _ _ _ _ _ (slR_sl (hD.get 2 rfl)) (S2.out.up hD.up)).mono ?_); rintro e wm ⟨rfl, hb⟩; replace hD := hD.next hb; clear hb; clear l0 l1 l2 m0 m1 m2 n0 n1 n2 a0 a1 a2 b0 b1 b2 o0 o1 o2 x0 x1 x2; obtain ⟨l0, l1, l2, -⟩ := RowAt.c3 (R1.out.up hD.up); obtain ⟨m0, m1, m2, -⟩ := RowAt.c3 (R2.out.up hD.up); obtain ⟨n0, n1, n2, -⟩ := RowAt.c3 (R9.out.up hD.up); obtain ⟨a0, a1, a2, -⟩ := RowAt.c3 (hD.get 0 rfl); obtain ⟨b0, b1, b2, -⟩ := RowAt.c3 (hD.get 1 rfl); obtain ⟨o0, o1, o2, -⟩ := RowAt.c3 (hD.get 3 rfl); obtain ⟨x0, x1, x2, -⟩ := RowAt.c3 (hD.get 5 rfl))
    | ((with_reducible refine (fsame _ _ _ _ _ (slR_sl (hD.get 4 rfl)) (S2.out.up hD.up)).mono ?_); rintro e wm ⟨rfl, hb⟩; replace hD := hD.next hb; clear hb; clear l0 l1 l2 m0 m1 m2 n0 n1 n2 a0 a1 a2 b0 b1 b2 o0 o1 o2 x0 x1 x2; obtain ⟨l0, l1, l2, -⟩ := RowAt.c3 (R1.out.up hD.up); obtain ⟨m0, m1, m2, -⟩ := RowAt.c3 (R2.out.up hD.up); obtain ⟨n0, n1, n2, -⟩ := RowAt.c3 (R9.out.up hD.up); obtain ⟨a0, a1, a2, -⟩ := RowAt.c3 (hD.get 0 rfl); obtain ⟨b0, b1, b2, -⟩ := RowAt.c3 (hD.get 1 rfl); obtain ⟨o0, o1, o2, -⟩ := RowAt.c3 (hD.get 3 rfl); obtain ⟨x0, x1, x2, -⟩ := RowAt.c3 (hD.get 5 rfl))
    | ((with_reducible refine (fsize _ _ _ (S2.out.up hD.up)).mono ?_); rintro e wm ⟨rfl, hb⟩; replace hD := hD.next hb; clear hb; clear l0 l1 l2 m0 m1 m2 n0 n1 n2 a0 a1 a2 b0 b1 b2 o0 o1 o2 x0 x1 x2; obtain ⟨l0, l1, l2, -⟩ := RowAt.c3 (R1.out.up hD.up); obtain ⟨m0, m1, m2, -⟩ := RowAt.c3 (R2.out.up hD.up); obtain ⟨n0, n1, n2, -⟩ := RowAt.c3 (R9.out.up hD.up); obtain ⟨a0, a1, a2, -⟩ := RowAt.c3 (hD.get 0 rfl); obtain ⟨b0, b1, b2, -⟩ := RowAt.c3 (hD.get 1 rfl); obtain ⟨o0, o1, o2, -⟩ := RowAt.c3 (hD.get 3 rfl); obtain ⟨x0, x1, x2, -⟩ := RowAt.c3 (hD.get 5 rfl))
    | ((with_reducible refine (fright _ _ _ (S2.out.up hD.up)).mono ?_); rintro e wm ⟨rfl, hb⟩; replace hD := hD.next hb; clear hb; clear l0 l1 l2 m0 m1 m2 n0 n1 n2 a0 a1 a2 b0 b1 b2 o0 o1 o2 x0 x1 x2; obtain ⟨l0, l1, l2, -⟩ := RowAt.c3 (R1.out.up hD.up); obtain ⟨m0, m1, m2, -⟩ := RowAt.c3 (R2.out.up hD.up); obtain ⟨n0, n1, n2, -⟩ := RowAt.c3 (R9.out.up hD.up); obtain ⟨a0, a1, a2, -⟩ := RowAt.c3 (hD.get 0 rfl); obtain ⟨b0, b1, b2, -⟩ := RowAt.c3 (hD.get 1 rfl); obtain ⟨o0, o1, o2, -⟩ := RowAt.c3 (hD.get 3 rfl); obtain ⟨x0, x1, x2, -⟩ := RowAt.c3 (hD.get 5 rfl))
    | ((with_reducible refine (fright2 _).mono ?_); rintro e wm ⟨rfl, hb⟩; replace hD := hD.next hb; clear hb; clear l0 l1 l2 m0 m1 m2 n0 n1 n2 a0 a1 a2 b0 b1 b2 o0 o1 o2 x0 x1 x2; obtain ⟨l0, l1, l2, -⟩ := RowAt.c3 (R1.out.up hD.up); obtain ⟨m0, m1, m2, -⟩ := RowAt.c3 (R2.out.up hD.up); obtain ⟨n0, n1, n2, -⟩ := RowAt.c3 (R9.out.up hD.up); obtain ⟨a0, a1, a2, -⟩ := RowAt.c3 (hD.get 0 rfl); obtain ⟨b0, b1, b2, -⟩ := RowAt.c3 (hD.get 1 rfl); obtain ⟨o0, o1, o2, -⟩ := RowAt.c3 (hD.get 3 rfl); obtain ⟨x0, x1, x2, -⟩ := RowAt.c3 (hD.get 5 rfl)))
  go_ret
  exact ⟨rfl, U0.out.trans hD.up⟩
end Go.Proofs.Ytdlcmbnbfghdmaa
