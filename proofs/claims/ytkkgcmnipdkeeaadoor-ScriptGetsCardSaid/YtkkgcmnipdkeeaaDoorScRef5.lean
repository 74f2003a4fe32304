/- Layer 24, the document's side: an act as bytes. -/
import Derived.Test.YtkkgcmnipdkeeaaDoorScRef2
import Derived.Test.YtkkgcmnipdkeeaaDoorScWalk7
namespace Go.Proofs.YtkkgcmnipdkeeaaDoor
open Go.RowKit Bw
set_option linter.unusedVariables false
set_option maxHeartbeats 4000000 in
set_option maxRecDepth 100000 in
theorem ref24_Encode (a : ActD) (hl : a.f.length ≤ 1099511627776) (q : Option Addr) (c : Nat) (w : World) (hA : IntsAt w q a.f) :
    Calls Tryd.prog 13 #[actV a q c] w fun e w' => e = .returned (.string a.enc) ∧ Below w.heap.size w w' := by
  have CR := Lib.hid (fun w h => ref24_Right a hl q c w h)
  have HA := Lib.hid hA
  clear hA
  cases hr : a.right
  · have he : a.enc = ⟨#[]⟩ := by rw [ActD.enc, hr]; rfl
    rw [hr] at CR
    rw [he]
    clear he hr
    have hu := (Up.refl w).alloc (.cells #[.int .i64 a.k, .int .i64 a.t, .string a.key, .string a.val, .int .i64 a.n, .slice q a.f.length c] 28)
    have rp := RowAt.made w 28 [.int .i64 a.k, .int .i64 a.t, .string a.key, .string a.val, .int .i64 a.n, .slice q a.f.length c]
    obtain ⟨k, t, key, val, n, f⟩ := a
    simp only [actV] at *
    obtain ⟨⟨a0, a1, a2, a3, a4, a5⟩, -⟩ := RowAt.c6 rp
    go_enter Tryd.func13, Tryd.ntmps13
    go_wp2_with ((with_reducible refine (CR.out _ (HA.out.up hu)).mono ?_); rintro e wn ⟨rfl, hb⟩; replace hu := hu.next hb; clear hb)
    go_ret
    exact ⟨rfl, hu⟩
  · have o := ActD.ok hr
    have he : a.enc = str (numL a.k 1 ++ pT (bT a.k) a.t ++ pS (bK a.k) a.key ++ pS (bV a.k) a.val ++ pT (bN a.k) a.n ++ pF (bF a.k) a.f ++ onesL a.f) := by
      rw [ActD.enc, if_pos hr, encL_parts a o.f0]
    rw [hr] at CR
    have CO := Lib.hid (fun w => ref24_one a.k o.k0 (by have := o.k11; omega) w)
    have CH := Lib.hid (fun w => ref24_Has a.k w)
    have HF := Lib.hid (flags_of a.k o.k0 o.k11)
    rw [he]
    have HTt := Lib.hid (show bT a.k = true → 0 ≤ a.t ∧ a.t ≤ 255 from fun h => by have := o.t1 h; omega)
    have HFf := Lib.hid o.f0
    have HF2 := Lib.hid o.f1
    obtain ⟨hn0, hn1⟩ := o.n1
    have hkey := o.key1
    have hval := o.val1
    have hf60 := o.f2
    clear he hr o
    unfold hasL at CH
    generalize bT a.k = T at *
    generalize bK a.k = K at *
    generalize bV a.k = V at *
    generalize bN a.k = N at *
    generalize bF a.k = F at *
    generalize hRR : str (numL a.k 1 ++ pT T a.t ++ pS K a.key ++ pS V a.val ++ pT N a.n ++ pF F a.f ++ onesL a.f) = R
    generalize hK0 : numL a.k 1 = K0 at *
    have hk0 : (str K0).size = 1 := by rw [← hK0]; rfl
    have HRR := Lib.hid hRR
    clear hK0 hRR
    obtain ⟨k, t, key, val, n, f⟩ := a
    simp only [actV] at *
    have one1 : ∀ x : Int, (str (numL x 1)).size = 1 := fun x => by rw [size_str, numL_one]; rfl
    have CL := Lib.hid (fun w => ref24_one (key.size : Int) (by omega) (by omega) w)
    have CV := Lib.hid (fun w => ref24_one (val.size : Int) (by omega) (by omega) w)
    have CN := Lib.hid (fun w => ref24_one n hn0 hn1 w)
    have CFl := Lib.hid (fun w => ref24_one (f.length : Int) (by omega) (by omega) w)
    have xl := one1 (key.size : Int)
    have xv := one1 (val.size : Int)
    have xn := one1 n
    have xf := one1 (f.length : Int)
    have xt := one1 t
    rcases HF.out with ⟨rfl, rfl, rfl, rfl, rfl⟩ | ⟨rfl, rfl, rfl, rfl, rfl⟩ | ⟨rfl, rfl, rfl, rfl, rfl⟩ | ⟨rfl, rfl, rfl, rfl, rfl⟩ | ⟨rfl, rfl, rfl, rfl, rfl⟩ | ⟨rfl, rfl, rfl, rfl, rfl⟩
    · have hf := HFf.out rfl
      subst hf
      simp only [List.length_nil] at CR
      have CT := Lib.hid (fun w => ref24_one t (HTt.out rfl).1 (HTt.out rfl).2 w)
      have z1 : ¬ 9223372036854775807 < (str K0).size + (str (numL t 1)).size := by omega
      have HG := Lib.hid (show str K0 ++ str (numL t 1) = R by rw [← HRR.out]; simp only [pT, pS, pF, onesL, if_true, Bool.false_eq_true, if_false, str_append, List.flatMap_nil, List.append_nil])
      simp only [if_true, Bool.false_eq_true, if_false, List.append_nil] at CH
      replace CH := Lib.hid (show ∀ w, Calls Tryd.prog 33 #[.int .i64 k] w fun e w' => e = .returned (.string ⟨#[116]⟩) ∧ Below w.heap.size w w' from fun w => CH.out w)
      clear xl xv xn xf xt one1 hf60 HF2 CFl
      generalize str (numL t 1) = XT at *
      generalize str K0 = X0 at *
      go_enter Tryd.func13, Tryd.ntmps13
      go_upto_region 1 with fail
      have hD := (Hold.start w).madeRow (.int .i64 k) [.int .i64 t, .string key, .string val, .int .i64 n, .slice q 0 c] 28
      simp only [List.nil_append] at hD
      generalize w.alloc _ = w0 at *
      replace hD : Hold w w0 [rowR w.heap.size (.int .i64 k) [.int .i64 t, .string key, .string val, .int .i64 n, .slice q 0 c]] := hD
      obtain ⟨⟨a0, a1, a2, a3, a4, a5⟩, -⟩ := RowAt.c6 (hD.get 0 rfl)
      go_upto_region 3 with ((with_reducible refine (CR.out _ (HA.out.up hD.up)).mono ?_); rintro e w1 ⟨rfl, hb⟩; replace hD := hD.next hb; clear hb; clear a0 a1 a2 a3 a4 a5; obtain ⟨⟨a0, a1, a2, a3, a4, a5⟩, -⟩ := RowAt.c6 (hD.get 0 rfl))
      have l0 := Later.cell_of a0
      have hne := later_ne w1
      clear a0 a1 a2 a3 a4 a5
      refine wp_region_later (by kernel_rfl) (by kernel_rfl) ?_
      repeat (go_big_quiet_step (first
        | (go_at_call 32; with_reducible exact Calls.later (CO.out _))
        | (go_at_call 33; with_reducible exact Calls.later (CH.out _))))
      refine wpQuiet_nil ?_
      intro w9 hw9
      obtain ⟨u9, rfl⟩ := hw9
      replace hD := hD.next u9.up
      clear l0 hne
      generalize u9.world = w3 at *
      obtain ⟨⟨a0, a1, a2, a3, a4, a5⟩, -⟩ := RowAt.c6 (hD.get 0 rfl)
      go_wp2_with fail
      refine wp_loop_rounds 2 ?_
      rw [rounds_succ]
      go_wp2_with ((with_reducible refine (CT.out _).mono ?_); rintro e wn ⟨rfl, hb⟩; replace hD := hD.next hb; clear hb; clear a0 a1 a2 a3 a4 a5; obtain ⟨⟨a0, a1, a2, a3, a4, a5⟩, -⟩ := RowAt.c6 (hD.get 0 rfl))
      rw [rounds_succ]
      go_wp2_with fail
      go_ret
      exact ⟨by rw [← HG.out]; rfl, hD.up⟩
    · have hf := HFf.out rfl
      subst hf
      simp only [List.length_nil] at CR
      have CT := Lib.hid (fun w => ref24_one t (HTt.out rfl).1 (HTt.out rfl).2 w)
      have z1 : ¬ 9223372036854775807 < (str K0).size + (str (numL t 1)).size := by omega
      have z2 : ¬ 9223372036854775807 < (str (numL (key.size : Int) 1)).size + key.size := by omega
      have z3 : ¬ 9223372036854775807 < (str K0 ++ str (numL t 1)).size + (str (numL (key.size : Int) 1) ++ key).size := by rw [ByteArray.size_append, ByteArray.size_append]; omega
      have HG := Lib.hid (show str K0 ++ str (numL t 1) ++ (str (numL (key.size : Int) 1) ++ key) = R by rw [← HRR.out]; simp only [text_parts, pT, pS, pF, onesL, if_true, Bool.false_eq_true, if_false, str_append, List.flatMap_nil, List.append_nil])
      simp only [if_true, Bool.false_eq_true, if_false, List.append_nil, List.nil_append, List.cons_append] at CH
      replace CH := Lib.hid (show ∀ w, Calls Tryd.prog 33 #[.int .i64 k] w fun e w' => e = .returned (.string ⟨#[116, 107]⟩) ∧ Below w.heap.size w w' from fun w => CH.out w)
      clear xl xv xn xf xt one1 hf60 HF2 CFl
      generalize str (numL t 1) = XT at *
      generalize str (numL (key.size : Int) 1) = XL at *
      generalize str K0 = X0 at *
      go_enter Tryd.func13, Tryd.ntmps13
      go_upto_region 1 with fail
      have hD := (Hold.start w).madeRow (.int .i64 k) [.int .i64 t, .string key, .string val, .int .i64 n, .slice q 0 c] 28
      simp only [List.nil_append] at hD
      generalize w.alloc _ = w0 at *
      replace hD : Hold w w0 [rowR w.heap.size (.int .i64 k) [.int .i64 t, .string key, .string val, .int .i64 n, .slice q 0 c]] := hD
      obtain ⟨⟨a0, a1, a2, a3, a4, a5⟩, -⟩ := RowAt.c6 (hD.get 0 rfl)
      go_upto_region 3 with ((with_reducible refine (CR.out _ (HA.out.up hD.up)).mono ?_); rintro e w1 ⟨rfl, hb⟩; replace hD := hD.next hb; clear hb; clear a0 a1 a2 a3 a4 a5; obtain ⟨⟨a0, a1, a2, a3, a4, a5⟩, -⟩ := RowAt.c6 (hD.get 0 rfl))
      have l0 := Later.cell_of a0
      have hne := later_ne w1
      clear a0 a1 a2 a3 a4 a5
      refine wp_region_later (by kernel_rfl) (by kernel_rfl) ?_
      repeat (go_big_quiet_step (first
        | (go_at_call 32; with_reducible exact Calls.later (CO.out _))
        | (go_at_call 33; with_reducible exact Calls.later (CH.out _))))
      refine wpQuiet_nil ?_
      intro w9 hw9
      obtain ⟨u9, rfl⟩ := hw9
      replace hD := hD.next u9.up
      clear l0 hne
      generalize u9.world = w3 at *
      obtain ⟨⟨a0, a1, a2, a3, a4, a5⟩, -⟩ := RowAt.c6 (hD.get 0 rfl)
      go_wp2_with fail
      refine wp_loop_rounds 3 ?_
      rw [rounds_succ]
      go_wp2_with ((with_reducible refine (CT.out _).mono ?_); rintro e wn ⟨rfl, hb⟩; replace hD := hD.next hb; clear hb; clear a0 a1 a2 a3 a4 a5; obtain ⟨⟨a0, a1, a2, a3, a4, a5⟩, -⟩ := RowAt.c6 (hD.get 0 rfl))
      rw [rounds_succ]
      go_upto_region 16 with fail
      have l0 := Later.cell_of a2
      have hne := later_ne wn
      clear a0 a1 a2 a3 a4 a5
      refine wp_region_later (by kernel_rfl) (by kernel_rfl) ?_
      repeat (go_big_quiet_step ((go_at_call 32; with_reducible exact Calls.later (CL.out _))))
      refine wpQuiet_nil ?_
      intro w9 hw9
      obtain ⟨u9, rfl⟩ := hw9
      replace hD := hD.next u9.up
      clear l0 hne
      generalize u9.world = wk at *
      obtain ⟨⟨a0, a1, a2, a3, a4, a5⟩, -⟩ := RowAt.c6 (hD.get 0 rfl)
      go_wp2_with fail
      rw [rounds_succ]
      go_wp2_with fail
      go_ret
      exact ⟨by rw [← HG.out]; rfl, hD.up⟩
    · have hf := HFf.out rfl
      subst hf
      simp only [List.length_nil] at CR
      have CT := Lib.hid (fun w => ref24_one t (HTt.out rfl).1 (HTt.out rfl).2 w)
      have z1 : ¬ 9223372036854775807 < (str K0).size + (str (numL t 1)).size := by omega
      have z2 : ¬ 9223372036854775807 < (str (numL (key.size : Int) 1)).size + key.size := by omega
      have z3 : ¬ 9223372036854775807 < (str K0 ++ str (numL t 1)).size + (str (numL (key.size : Int) 1) ++ key).size := by rw [ByteArray.size_append, ByteArray.size_append]; omega
      have z4 : ¬ 9223372036854775807 < (str (numL (val.size : Int) 1)).size + val.size := by omega
      have z5 : ¬ 9223372036854775807 < (str K0 ++ str (numL t 1) ++ (str (numL (key.size : Int) 1) ++ key)).size + (str (numL (val.size : Int) 1) ++ val).size := by simp only [ByteArray.size_append]; omega
      have HG := Lib.hid (show str K0 ++ str (numL t 1) ++ (str (numL (key.size : Int) 1) ++ key) ++ (str (numL (val.size : Int) 1) ++ val) = R by rw [← HRR.out]; simp only [text_parts, pT, pS, pF, onesL, if_true, Bool.false_eq_true, if_false, str_append, List.flatMap_nil, List.append_nil])
      simp only [if_true, Bool.false_eq_true, if_false, List.append_nil, List.nil_append, List.cons_append] at CH
      replace CH := Lib.hid (show ∀ w, Calls Tryd.prog 33 #[.int .i64 k] w fun e w' => e = .returned (.string ⟨#[116, 107, 118]⟩) ∧ Below w.heap.size w w' from fun w => CH.out w)
      clear xl xv xn xf xt one1 hf60 HF2 CFl
      generalize str (numL t 1) = XT at *
      generalize str (numL (key.size : Int) 1) = XL at *
      generalize str (numL (val.size : Int) 1) = XV at *
      generalize str K0 = X0 at *
      go_enter Tryd.func13, Tryd.ntmps13
      go_upto_region 1 with fail
      have hD := (Hold.start w).madeRow (.int .i64 k) [.int .i64 t, .string key, .string val, .int .i64 n, .slice q 0 c] 28
      simp only [List.nil_append] at hD
      generalize w.alloc _ = w0 at *
      replace hD : Hold w w0 [rowR w.heap.size (.int .i64 k) [.int .i64 t, .string key, .string val, .int .i64 n, .slice q 0 c]] := hD
      obtain ⟨⟨a0, a1, a2, a3, a4, a5⟩, -⟩ := RowAt.c6 (hD.get 0 rfl)
      go_upto_region 3 with ((with_reducible refine (CR.out _ (HA.out.up hD.up)).mono ?_); rintro e w1 ⟨rfl, hb⟩; replace hD := hD.next hb; clear hb; clear a0 a1 a2 a3 a4 a5; obtain ⟨⟨a0, a1, a2, a3, a4, a5⟩, -⟩ := RowAt.c6 (hD.get 0 rfl))
      have l0 := Later.cell_of a0
      have hne := later_ne w1
      clear a0 a1 a2 a3 a4 a5
      refine wp_region_later (by kernel_rfl) (by kernel_rfl) ?_
      repeat (go_big_quiet_step (first
        | (go_at_call 32; with_reducible exact Calls.later (CO.out _))
        | (go_at_call 33; with_reducible exact Calls.later (CH.out _))))
      refine wpQuiet_nil ?_
      intro w9 hw9
      obtain ⟨u9, rfl⟩ := hw9
      replace hD := hD.next u9.up
      clear l0 hne
      generalize u9.world = w3 at *
      obtain ⟨⟨a0, a1, a2, a3, a4, a5⟩, -⟩ := RowAt.c6 (hD.get 0 rfl)
      go_wp2_with fail
      refine wp_loop_rounds 4 ?_
      rw [rounds_succ]
      go_wp2_with ((with_reducible refine (CT.out _).mono ?_); rintro e wn ⟨rfl, hb⟩; replace hD := hD.next hb; clear hb; clear a0 a1 a2 a3 a4 a5; obtain ⟨⟨a0, a1, a2, a3, a4, a5⟩, -⟩ := RowAt.c6 (hD.get 0 rfl))
      rw [rounds_succ]
      go_upto_region 16 with fail
      have l0 := Later.cell_of a2
      have hne := later_ne wn
      clear a0 a1 a2 a3 a4 a5
      refine wp_region_later (by kernel_rfl) (by kernel_rfl) ?_
      repeat (go_big_quiet_step ((go_at_call 32; with_reducible exact Calls.later (CL.out _))))
      refine wpQuiet_nil ?_
      intro w9 hw9
      obtain ⟨u9, rfl⟩ := hw9
      replace hD := hD.next u9.up
      clear l0 hne
      generalize u9.world = wk at *
      obtain ⟨⟨a0, a1, a2, a3, a4, a5⟩, -⟩ := RowAt.c6 (hD.get 0 rfl)
      go_wp2_with fail
      rw [rounds_succ]
      go_upto_region 18 with fail
      have l0 := Later.cell_of a3
      have hne := later_ne wk
      clear a0 a1 a2 a3 a4 a5
      refine wp_region_later (by kernel_rfl) (by kernel_rfl) ?_
      repeat (go_big_quiet_step ((go_at_call 32; with_reducible exact Calls.later (CV.out _))))
      refine wpQuiet_nil ?_
      intro w9 hw9
      obtain ⟨u9, rfl⟩ := hw9
      replace hD := hD.next u9.up
      clear l0 hne
      generalize u9.world = wv at *
      obtain ⟨⟨a0, a1, a2, a3, a4, a5⟩, -⟩ := RowAt.c6 (hD.get 0 rfl)
      go_wp2_with fail
      rw [rounds_succ]
      go_wp2_with fail
      go_ret
      exact ⟨by rw [← HG.out]; rfl, hD.up⟩
    · have hf := HFf.out rfl
      subst hf
      simp only [List.length_nil] at CR
      have CT := Lib.hid (fun w => ref24_one t (HTt.out rfl).1 (HTt.out rfl).2 w)
      have z1 : ¬ 9223372036854775807 < (str K0).size + (str (numL t 1)).size := by omega
      have z2 : ¬ 9223372036854775807 < (str (numL (key.size : Int) 1)).size + key.size := by omega
      have z3 : ¬ 9223372036854775807 < (str K0 ++ str (numL t 1)).size + (str (numL (key.size : Int) 1) ++ key).size := by rw [ByteArray.size_append, ByteArray.size_append]; omega
      have z4 : ¬ 9223372036854775807 < (str K0 ++ str (numL t 1) ++ (str (numL (key.size : Int) 1) ++ key)).size + (str (numL n 1)).size := by simp only [ByteArray.size_append]; omega
      have HG := Lib.hid (show str K0 ++ str (numL t 1) ++ (str (numL (key.size : Int) 1) ++ key) ++ str (numL n 1) = R by rw [← HRR.out]; simp only [text_parts, pT, pS, pF, onesL, if_true, Bool.false_eq_true, if_false, str_append, List.flatMap_nil, List.append_nil])
      simp only [if_true, Bool.false_eq_true, if_false, List.append_nil, List.nil_append, List.cons_append] at CH
      replace CH := Lib.hid (show ∀ w, Calls Tryd.prog 33 #[.int .i64 k] w fun e w' => e = .returned (.string ⟨#[116, 107, 110]⟩) ∧ Below w.heap.size w w' from fun w => CH.out w)
      clear xl xv xn xf xt one1 hf60 HF2 CFl
      generalize str (numL t 1) = XT at *
      generalize str (numL (key.size : Int) 1) = XL at *
      generalize str (numL n 1) = XN at *
      generalize str K0 = X0 at *
      go_enter Tryd.func13, Tryd.ntmps13
      go_upto_region 1 with fail
      have hD := (Hold.start w).madeRow (.int .i64 k) [.int .i64 t, .string key, .string val, .int .i64 n, .slice q 0 c] 28
      simp only [List.nil_append] at hD
      generalize w.alloc _ = w0 at *
      replace hD : Hold w w0 [rowR w.heap.size (.int .i64 k) [.int .i64 t, .string key, .string val, .int .i64 n, .slice q 0 c]] := hD
      obtain ⟨⟨a0, a1, a2, a3, a4, a5⟩, -⟩ := RowAt.c6 (hD.get 0 rfl)
      go_upto_region 3 with ((with_reducible refine (CR.out _ (HA.out.up hD.up)).mono ?_); rintro e w1 ⟨rfl, hb⟩; replace hD := hD.next hb; clear hb; clear a0 a1 a2 a3 a4 a5; obtain ⟨⟨a0, a1, a2, a3, a4, a5⟩, -⟩ := RowAt.c6 (hD.get 0 rfl))
      have l0 := Later.cell_of a0
      have hne := later_ne w1
      clear a0 a1 a2 a3 a4 a5
      refine wp_region_later (by kernel_rfl) (by kernel_rfl) ?_
      repeat (go_big_quiet_step (first
        | (go_at_call 32; with_reducible exact Calls.later (CO.out _))
        | (go_at_call 33; with_reducible exact Calls.later (CH.out _))))
      refine wpQuiet_nil ?_
      intro w9 hw9
      obtain ⟨u9, rfl⟩ := hw9
      replace hD := hD.next u9.up
      clear l0 hne
      generalize u9.world = w3 at *
      obtain ⟨⟨a0, a1, a2, a3, a4, a5⟩, -⟩ := RowAt.c6 (hD.get 0 rfl)
      go_wp2_with fail
      refine wp_loop_rounds 4 ?_
      rw [rounds_succ]
      go_wp2_with ((with_reducible refine (CT.out _).mono ?_); rintro e wn ⟨rfl, hb⟩; replace hD := hD.next hb; clear hb; clear a0 a1 a2 a3 a4 a5; obtain ⟨⟨a0, a1, a2, a3, a4, a5⟩, -⟩ := RowAt.c6 (hD.get 0 rfl))
      rw [rounds_succ]
      go_upto_region 16 with fail
      have l0 := Later.cell_of a2
      have hne := later_ne wn
      clear a0 a1 a2 a3 a4 a5
      refine wp_region_later (by kernel_rfl) (by kernel_rfl) ?_
      repeat (go_big_quiet_step ((go_at_call 32; with_reducible exact Calls.later (CL.out _))))
      refine wpQuiet_nil ?_
      intro w9 hw9
      obtain ⟨u9, rfl⟩ := hw9
      replace hD := hD.next u9.up
      clear l0 hne
      generalize u9.world = wk at *
      obtain ⟨⟨a0, a1, a2, a3, a4, a5⟩, -⟩ := RowAt.c6 (hD.get 0 rfl)
      go_wp2_with fail
      rw [rounds_succ]
      go_wp2_with ((with_reducible refine (CN.out _).mono ?_); rintro e wn ⟨rfl, hb⟩; replace hD := hD.next hb; clear hb; clear a0 a1 a2 a3 a4 a5; obtain ⟨⟨a0, a1, a2, a3, a4, a5⟩, -⟩ := RowAt.c6 (hD.get 0 rfl))
      rw [rounds_succ]
      go_wp2_with fail
      go_ret
      exact ⟨by rw [← HG.out]; rfl, hD.up⟩
    · have hf := HFf.out rfl
      subst hf
      simp only [List.length_nil] at CR
      have HG := Lib.hid (show str K0 = R by rw [← HRR.out]; simp only [pT, pS, pF, onesL, Bool.false_eq_true, if_false, List.flatMap_nil, List.append_nil])
      simp only [Bool.false_eq_true, if_false, List.append_nil] at CH
      replace CH := Lib.hid (show ∀ w, Calls Tryd.prog 33 #[.int .i64 k] w fun e w' => e = .returned (.string ⟨#[]⟩) ∧ Below w.heap.size w w' from fun w => CH.out w)
      clear xl xv xn xf xt one1 hf60 HF2 CFl
      generalize str K0 = X0 at *
      go_enter Tryd.func13, Tryd.ntmps13
      go_upto_region 1 with fail
      have hD := (Hold.start w).madeRow (.int .i64 k) [.int .i64 t, .string key, .string val, .int .i64 n, .slice q 0 c] 28
      simp only [List.nil_append] at hD
      generalize w.alloc _ = w0 at *
      replace hD : Hold w w0 [rowR w.heap.size (.int .i64 k) [.int .i64 t, .string key, .string val, .int .i64 n, .slice q 0 c]] := hD
      obtain ⟨⟨a0, a1, a2, a3, a4, a5⟩, -⟩ := RowAt.c6 (hD.get 0 rfl)
      go_upto_region 3 with ((with_reducible refine (CR.out _ (HA.out.up hD.up)).mono ?_); rintro e w1 ⟨rfl, hb⟩; replace hD := hD.next hb; clear hb; clear a0 a1 a2 a3 a4 a5; obtain ⟨⟨a0, a1, a2, a3, a4, a5⟩, -⟩ := RowAt.c6 (hD.get 0 rfl))
      have l0 := Later.cell_of a0
      have hne := later_ne w1
      clear a0 a1 a2 a3 a4 a5
      refine wp_region_later (by kernel_rfl) (by kernel_rfl) ?_
      repeat (go_big_quiet_step (first
        | (go_at_call 32; with_reducible exact Calls.later (CO.out _))
        | (go_at_call 33; with_reducible exact Calls.later (CH.out _))))
      refine wpQuiet_nil ?_
      intro w9 hw9
      obtain ⟨u9, rfl⟩ := hw9
      replace hD := hD.next u9.up
      clear l0 hne
      generalize u9.world = w3 at *
      obtain ⟨⟨a0, a1, a2, a3, a4, a5⟩, -⟩ := RowAt.c6 (hD.get 0 rfl)
      go_wp2_with fail
      refine wp_loop_rounds 1 ?_
      rw [rounds_succ]
      go_wp2_with fail
      go_ret
      exact ⟨by rw [← HG.out]; rfl, hD.up⟩
    · have z1 : ¬ 9223372036854775807 < (str K0).size + (str (numL (f.length : Int) 1)).size := by omega
      have HG := Lib.hid (show str (K0 ++ numL (f.length : Int) 1 ++ onesL f) = R by rw [← HRR.out]; simp only [pT, pS, pF, if_true, Bool.false_eq_true, if_false, List.append_nil])
      have HS := Lib.hid (show str K0 ++ str (numL (f.length : Int) 1) = str (K0 ++ numL (f.length : Int) 1) from str_append _ _)
      have hb2 : (K0 ++ numL (f.length : Int) 1).length = 2 := by
        have := hk0
        rw [size_str] at this
        rw [List.length_append, this, numL_one]; rfl
      simp only [if_true, Bool.false_eq_true, if_false, List.nil_append] at CH
      replace CH := Lib.hid (show ∀ w, Calls Tryd.prog 33 #[.int .i64 k] w fun e w' => e = .returned (.string ⟨#[102]⟩) ∧ Below w.heap.size w w' from fun w => CH.out w)
      clear xl xv xn xt CL CV CN HTt HRR
      generalize hX1 : K0 ++ numL (f.length : Int) 1 = X1 at *
      clear hX1
      generalize str (numL (f.length : Int) 1) = XF at *
      generalize str K0 = X0 at *
      go_enter Tryd.func13, Tryd.ntmps13
      go_upto_region 1 with fail
      have hD := (Hold.start w).madeRow (.int .i64 k) [.int .i64 t, .string key, .string val, .int .i64 n, .slice q f.length c] 28
      simp only [List.nil_append] at hD
      generalize w.alloc _ = w0 at *
      replace hD : Hold w w0 [rowR w.heap.size (.int .i64 k) [.int .i64 t, .string key, .string val, .int .i64 n, .slice q f.length c]] := hD
      obtain ⟨⟨a0, a1, a2, a3, a4, a5⟩, -⟩ := RowAt.c6 (hD.get 0 rfl)
      go_upto_region 3 with ((with_reducible refine (CR.out _ (HA.out.up hD.up)).mono ?_); rintro e w1 ⟨rfl, hb⟩; replace hD := hD.next hb; clear hb; clear a0 a1 a2 a3 a4 a5; obtain ⟨⟨a0, a1, a2, a3, a4, a5⟩, -⟩ := RowAt.c6 (hD.get 0 rfl))
      have l0 := Later.cell_of a0
      have hne := later_ne w1
      clear a0 a1 a2 a3 a4 a5
      refine wp_region_later (by kernel_rfl) (by kernel_rfl) ?_
      repeat (go_big_quiet_step (first
        | (go_at_call 32; with_reducible exact Calls.later (CO.out _))
        | (go_at_call 33; with_reducible exact Calls.later (CH.out _))))
      refine wpQuiet_nil ?_
      intro w9 hw9
      obtain ⟨u9, rfl⟩ := hw9
      replace hD := hD.next u9.up
      clear l0 hne
      generalize u9.world = w3 at *
      obtain ⟨⟨a0, a1, a2, a3, a4, a5⟩, -⟩ := RowAt.c6 (hD.get 0 rfl)
      go_wp2_with fail
      refine wp_loop_rounds 2 ?_
      rw [rounds_succ]
      go_wp2_with ((with_reducible refine (CFl.out _).mono ?_); rintro e wn ⟨rfl, hb⟩; replace hD := hD.next hb; clear hb; clear a0 a1 a2 a3 a4 a5; obtain ⟨⟨a0, a1, a2, a3, a4, a5⟩, -⟩ := RowAt.c6 (hD.get 0 rfl))
      rw [HS.out]
      go_loopw [3, 6] (fun v3 v6 wr => ∃ m : Nat, m ≤ f.length ∧ v6 = .int .i64 m ∧ v3 = .string (str (X1 ++ onesL (f.take m))) ∧ Hold w wr [rowR w.heap.size (.int .i64 k) [.int .i64 t, .string key, .string val, .int .i64 n, .slice q f.length c]]) (fun _ v _ => f.length - (intOf v).toNat)
      case atStart => exact ⟨0, by omega, rfl, by simp [onesL], hD⟩
      case round =>
      clear hD a0 a1 a2 a3 a4 a5
      obtain ⟨m, hm, rfl, rfl, hD⟩ := hrel
      obtain ⟨⟨a0, a1, a2, a3, a4, a5⟩, -⟩ := RowAt.c6 (hD.get 0 rfl)
      have i0 : (0 : Int) ≤ (m : Int) := by omega
      have i2 : (f.length : Int) ≤ 60 := by omega
      by_cases hlt : m < f.length
      · have b1 : (m : Int) < (f.length : Int) := by omega
        obtain ⟨g, o, rfl, e1⟩ := (HA.out.up hD.up) m hlt
        have hx := HF2.out _ (List.getElem_mem hlt)
        have HT := Lib.hid (onesL_take f m hlt)
        have hlen : (onesL (f.take m)).length ≤ 60 := by rw [onesL_len, List.length_take]; omega
        generalize f[m] = x at *
        have C1 := Lib.hid (fun w => ref24_one x hx.1 (by omega) w)
        have z3 : ¬ 9223372036854775807 < (str (X1 ++ onesL (f.take m))).size + (str (numL x 1)).size := by
          rw [one1 x, size_str, List.length_append]; omega
        have HS2 := Lib.hid (show str (X1 ++ onesL (f.take m)) ++ str (numL x 1) = str (X1 ++ onesL (f.take (m + 1))) by rw [str_append, HT.out, List.append_assoc])
        generalize str (numL x 1) = XX at *
        clear one1 hlen
        go_wp2_with ((with_reducible refine (C1.out _).mono ?_); rintro e wn ⟨rfl, hb⟩; replace hD := hD.next hb; clear hb e1 a0 a1 a2 a3 a4 a5)
        go_roundw
        case rel => exact ⟨m + 1, by omega, by go_num, by rw [HS2.out], hD⟩
        case measure => simp [intOf]; omega
      · have hml : m = f.length := by omega
        subst hml
        rw [List.take_length, HG.out]
        go_wp2_with fail
        rw [rounds_succ]
        go_wp2_with fail
        go_ret
        exact ⟨rfl, hD.up⟩
end Go.Proofs.YtkkgcmnipdkeeaaDoor
