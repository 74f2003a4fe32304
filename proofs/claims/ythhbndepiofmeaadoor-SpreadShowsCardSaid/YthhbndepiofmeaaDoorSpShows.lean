import Derived.Test.YthhbndepiofmeaaDoorSpFixed
import Derived.Test.YthhbndepiofmeaaDoorSpRef2
namespace Bw
open Go Ieee
theorem small_tmod (z : Int) : Small (Int.tmod z 1125899906842624) := by
  unfold Small
  have := Int.natAbs_tmod z 1125899906842624
  have h := Nat.mod_lt z.natAbs (y := 1125899906842624) (by decide)
  rw [show (1125899906842624 : Int).natAbs = 1125899906842624 from rfl] at this
  omega
end Bw
namespace Go.Proofs.YthhbndepiofmeaaDoor
open Go.RowKit Bw
set_option linter.unusedVariables false
set_option maxHeartbeats 4000000 in
set_option maxRecDepth 100000 in
theorem shows_law (a b : Nat → Int) (ha : ∀ j, j < 2 → (Lit.int .i64 (a j)).wf = true) (hb : ∀ j, j < 2 → (Lit.int .i64 (b j)).wf = true) (w : World) (ht : Tab w) :
    Calls Tryd.prog 4 #[.agg #[.int .i64 (a 0), .int .i64 (a 1)], .agg #[.int .i64 (b 0), .int .i64 (b 1)]] w fun e w' => e = .returned (.bool true) ∧ Below w.heap.size w w' := by
  have HT := Lib.hid ht
  clear ht ha hb
  have s0 := small_tmod (a 0); have s1 := small_tmod (a 1); have s2 := small_tmod (b 0); have s3 := small_tmod (b 1)
  generalize a 0 = a0 at *
  generalize a 1 = a1 at *
  generalize b 0 = b0 at *
  generalize b 1 = b1 at *
  have hu := Up.refl w
  go_enter Tryd.func4, Tryd.ntmps4
  go_upto_region 3 with fail
  have rx := (RowAt.made ((w.alloc (.cells #[.int .i64 a0, .int .i64 a1] 40)).alloc (.cells #[.int .i64 b0, .int .i64 b1] 40)) 30 [.int .i64 (a0.tmod 1125899906842624), .int .i64 (a1.tmod 1125899906842624)]).alloc (.cells #[.int .i64 (b0.tmod 1125899906842624), .int .i64 (b1.tmod 1125899906842624)] 30)
  have ry := RowAt.made (((w.alloc (.cells #[.int .i64 a0, .int .i64 a1] 40)).alloc (.cells #[.int .i64 b0, .int .i64 b1] 40)).alloc (.cells #[.int .i64 (a0.tmod 1125899906842624), .int .i64 (a1.tmod 1125899906842624)] 30)) 30 [.int .i64 (b0.tmod 1125899906842624), .int .i64 (b1.tmod 1125899906842624)]
  simp only [World.size_alloc] at rx ry
  replace hu := (((hu.alloc (.cells #[.int .i64 a0, .int .i64 a1] 40)).alloc (.cells #[.int .i64 b0, .int .i64 b1] 40)).alloc (.cells #[.int .i64 (a0.tmod 1125899906842624), .int .i64 (a1.tmod 1125899906842624)] 30)).alloc (.cells #[.int .i64 (b0.tmod 1125899906842624), .int .i64 (b1.tmod 1125899906842624)] 30)
  generalize a0.tmod 1125899906842624 = x0 at *
  generalize a1.tmod 1125899906842624 = x1 at *
  generalize b0.tmod 1125899906842624 = y0 at *
  generalize b1.tmod 1125899906842624 = y1 at *
  change RowAt ((((w.alloc (.cells #[.int .i64 a0, .int .i64 a1] 40)).alloc (.cells #[.int .i64 b0, .int .i64 b1] 40)).alloc (.cells #[.int .i64 x0, .int .i64 x1] 30)).alloc (.cells #[.int .i64 y0, .int .i64 y1] 30)) _ _ at rx ry
  generalize (((w.alloc (.cells #[.int .i64 a0, .int .i64 a1] 40)).alloc (.cells #[.int .i64 b0, .int .i64 b1] 40)).alloc (.cells #[.int .i64 x0, .int .i64 x1] 30)).alloc (.cells #[.int .i64 y0, .int .i64 y1] 30) = w5 at *
  generalize w.heap.size + 1 + 1 + 1 = gy at *
  generalize w.heap.size + 1 + 1 = gx at *
  have CR := r_Right x0 x1
  have CB := r_Better x0 x1 y0 y1
  have CS := r_Show x0 x1
  have CO := fun w => (law_Of x0 x1 w).mono fun e w' h => (⟨h.1, by rw [h.2]; exact (Up.refl w).alloc _⟩ : e = .returned (.complex .f64 (fltZ x0) (fltZ x1)) ∧ Below w.heap.size w w')
  have CO2 := fun w => (law_Of y0 y1 w).mono fun e w' h => (⟨h.1, by rw [h.2]; exact (Up.refl w).alloc _⟩ : e = .returned (.complex .f64 (fltZ y0) (fltZ y1)) ∧ Below w.heap.size w w')
  unfold spV at CR CB CS CO CO2
  replace CR := Lib.hid CR; replace CB := Lib.hid CB; replace CS := Lib.hid CS; replace CO := Lib.hid CO; replace CO2 := Lib.hid CO2
  have DB := Lib.hid (sp_Better x0 x1 y0 y1 s0 s1 s2 s3)
  have DF := sp_Far x0 x1 s0 s1
  have DS := Lib.hid (sp_Show x0 x1 s0 s1)
  have CF := Lib.hid law18_fixed
  have hf : farZ x0 x1 = if (okZ x0 && okZ x1) = true then x0 + x1 else 0 := rfl
  rw [hf] at DF
  clear hf s0 s1 s2 s3
  generalize betterZ x0 x1 y0 y1 = bb at *
  generalize showZ x0 x1 = sh at *
  cases ho : (okZ x0 && okZ x1)
  · rw [ho] at CR DF
    rw [if_neg (by decide)] at DF
    replace DF := Lib.hid DF
    clear ho
    obtain ⟨p0, p1, p2, p3⟩ := rx.c2
    obtain ⟨q0, q1, q2, q3⟩ := ry.c2
    have rx' := rx.alloc (.cells #[.int .i64 x0, .int .i64 x1] 30)
    have ry' := ry.alloc (.cells #[.int .i64 x0, .int .i64 x1] 30)
    have hu2 := hu.alloc (.cells #[.int .i64 x0, .int .i64 x1] 30)
    go_upto_region 6 with ((with_reducible refine (CR.out _).mono ?_); rintro e w1 ⟨rfl, rfl⟩)
    clear hu p0 p1 p2 p3 q0 q1 q2 q3 rx ry CR
    generalize w5.alloc (.cells #[.int .i64 x0, .int .i64 x1] 30) = w6 at *
    obtain ⟨p0, p1, -, -⟩ := rx'.c2
    obtain ⟨q0, q1, -, -⟩ := ry'.c2
    have l0 := Later.cell_of p0; have l1 := Later.cell_of p1; have l2 := Later.cell_of q0; have l3 := Later.cell_of q1
    have hne := later_ne w6
    clear p0 p1 q0 q1 rx' ry'
    have HU := Lib.hid hu2
    clear hu2
    refine wp_region_later (by kernel_rfl) (by kernel_rfl) ?_
    repeat (go_big_quiet_step (first
      | (go_at_call 13; with_reducible first | exact Calls.later (CO.out _) | exact Calls.later (CO2.out _))
      | (go_at_call 18; with_reducible exact Calls.later_same (DB.out _))
      | (go_at_call 20; with_reducible exact Calls.later_same (DF.out _))
      | (go_at_call 21; rename_i ul; exact Calls.later (DS.out _ (HT.out.up (HU.out.next ul.up))))
      | (go_at_call 19; with_reducible exact Calls.later (CB.out _))
      | (go_at_call 22; with_reducible exact Calls.later (CS.out _))
      | (go_at_call 16; rename_i ul; exact Calls.later (CF.out _ (HT.out.up (HU.out.next ul.up))))))
    refine wpQuiet_nil ?_
    intro w9 hw9
    obtain ⟨u9, rfl⟩ := hw9
    have hu9 := HU.out.next u9.up
    clear l0 l1 l2 l3 hne
    generalize u9.world = w9 at *
    go_wp2_with fail
    go_ret
    exact ⟨rfl, hu9⟩
  · rw [ho] at CR DF
    rw [if_pos rfl] at DF
    replace DF := Lib.hid DF
    obtain ⟨o1, o2⟩ := Bool.and_eq_true_iff.1 ho
    obtain ⟨n0, n1⟩ := okZ_iff.1 o1
    obtain ⟨n2, n3⟩ := okZ_iff.1 o2
    clear ho o1 o2
    obtain ⟨p0, p1, p2, p3⟩ := rx.c2
    obtain ⟨q0, q1, q2, q3⟩ := ry.c2
    have rx' := rx.alloc (.cells #[.int .i64 x0, .int .i64 x1] 30)
    have ry' := ry.alloc (.cells #[.int .i64 x0, .int .i64 x1] 30)
    have hu2 := hu.alloc (.cells #[.int .i64 x0, .int .i64 x1] 30)
    obtain ⟨t0, t1, -, -⟩ := rx'.c2
    go_upto_region 6 with ((with_reducible refine (CR.out _).mono ?_); rintro e w1 ⟨rfl, rfl⟩)
    clear t0 t1 hu p0 p1 p2 p3 q0 q1 q2 q3 rx ry CR
    generalize w5.alloc (.cells #[.int .i64 x0, .int .i64 x1] 30) = w6 at *
    obtain ⟨p0, p1, -, -⟩ := rx'.c2
    obtain ⟨q0, q1, -, -⟩ := ry'.c2
    have l0 := Later.cell_of p0; have l1 := Later.cell_of p1; have l2 := Later.cell_of q0; have l3 := Later.cell_of q1
    have hne := later_ne w6
    clear p0 p1 q0 q1 rx' ry'
    have HU := Lib.hid hu2
    clear hu2
    refine wp_region_later (by kernel_rfl) (by kernel_rfl) ?_
    repeat (go_big_quiet_step (first
      | (go_at_call 13; with_reducible first | exact Calls.later (CO.out _) | exact Calls.later (CO2.out _))
      | (go_at_call 18; with_reducible exact Calls.later_same (DB.out _))
      | (go_at_call 20; with_reducible exact Calls.later_same (DF.out _))
      | (go_at_call 21; rename_i ul; exact Calls.later (DS.out _ (HT.out.up (HU.out.next ul.up))))
      | (go_at_call 19; with_reducible exact Calls.later (CB.out _))
      | (go_at_call 22; with_reducible exact Calls.later (CS.out _))
      | (go_at_call 16; rename_i ul; exact Calls.later (CF.out _ (HT.out.up (HU.out.next ul.up))))))
    refine wpQuiet_nil ?_
    intro w9 hw9
    obtain ⟨u9, rfl⟩ := hw9
    have hu9 := HU.out.next u9.up
    clear l0 l1 l2 l3 hne
    generalize u9.world = w9 at *
    go_wp2_with fail
    go_ret
    exact ⟨rfl, hu9⟩
end Go.Proofs.YthhbndepiofmeaaDoor
