/- Layer 24: an act as bytes. -/
import Derived.Test.YtkkgcmnipdkeeaaDoorScWalk2
import Derived.Test.YtkkgcmnipdkeeaaDoorScWalk3
namespace Bw
theorem onesL_take (f : List Int) (m : Nat) (h : m < f.length) : onesL (f.take (m + 1)) = onesL (f.take m) ++ numL f[m] 1 := by
  rw [List.take_succ_eq_append_getElem h]; simp only [onesL, List.flatMap_append, List.flatMap_cons, List.flatMap_nil, List.append_nil]
theorem onesL_len : ∀ l : List Int, (onesL l).length = l.length
  | [] => rfl
  | n :: l => by
    have := onesL_len l
    simp only [onesL, List.flatMap_cons, List.length_append, List.length_cons] at *
    rw [numL, toLE_length]; omega
def pT (T : Bool) (t : Int) : List UInt8 := if T then numL t 1 else []
def pS (K : Bool) (s : ByteArray) : List UInt8 := if K then textL s else []
def pF (F : Bool) (f : List Int) : List UInt8 := if F then numL f.length 1 else []
theorem encL_parts (a : ActD) (h : bF a.k = false → a.f = []) : a.encL = numL a.k 1 ++ pT (bT a.k) a.t ++ pS (bK a.k) a.key ++ pS (bV a.k) a.val ++ pT (bN a.k) a.n ++ pF (bF a.k) a.f ++ onesL a.f := by
  unfold ActD.encL pT pS pF
  cases hF : bF a.k
  · rw [h hF]; simp [onesL, List.append_assoc]
  · simp [List.append_assoc]
end Bw
namespace Go.Proofs.YtkkgcmnipdkeeaaDoor
open Go.RowKit Bw
set_option linter.unusedVariables false
theorem text_parts (s : ByteArray) : str (numL s.size 1) ++ s = str (textL s) := by
  have h : str (numL s.size 1) ++ str (lst s) = str (textL s) := by rw [str_append, numL_one, Int.toNat_natCast]; rfl
  rwa [str_lst] at h
set_option maxHeartbeats 4000000 in
set_option maxRecDepth 100000 in
theorem script_Encode (a : ActD) (hl : a.f.length ≤ 1099511627776) (q : Option Addr) (c : Nat) (w : World) (hA : IntsAt w q a.f) :
    Calls Tryd.prog 12 #[actV a q c] w fun e w' => e = .returned (.string a.enc) ∧ Below w.heap.size w w' := by
  have CR := Lib.hid (fun w h => script_Right a hl q c w h)
  have HA := Lib.hid hA
  clear hA
  cases hr : a.right
  · have he : a.enc = ⟨#[]⟩ := by rw [ActD.enc, hr]; rfl
    rw [hr] at CR
    rw [he]
    clear he hr
    have hu := (Up.refl w).alloc (.cells #[.int .i64 a.k, .int .i64 a.t, .string a.key, .string a.val, .int .i64 a.n, .slice q a.f.length c] 24)
    have rp := RowAt.made w 24 [.int .i64 a.k, .int .i64 a.t, .string a.key, .string a.val, .int .i64 a.n, .slice q a.f.length c]
    obtain ⟨k, t, key, val, n, f⟩ := a
    simp only [actV] at *
    obtain ⟨⟨a0, a1, a2, a3, a4, a5⟩, -⟩ := RowAt.c6 rp
    go_enter Tryd.func12, Tryd.ntmps12
    go_wp2_with ((with_reducible refine (CR.out _ (HA.out.up hu)).mono ?_); rintro e wn ⟨rfl, hb⟩; replace hu := hu.next hb; clear hb)
    go_ret
    exact ⟨rfl, hu⟩
  · have o := ActD.ok hr
    have he : a.enc = str (numL a.k 1 ++ pT (bT a.k) a.t ++ pS (bK a.k) a.key ++ pS (bV a.k) a.val ++ pT (bN a.k) a.n ++ pF (bF a.k) a.f ++ onesL a.f) := by
      rw [ActD.enc, if_pos hr, encL_parts a o.f0]
    rw [hr] at CR
    have HO := Lib.hid o
    have CK := Lib.hid script_kinds
    have HI := Lib.hid (kind_at a.k o.k0 o.k11)
    have CO := Lib.hid (fun w => script_one a.k o.k0 (by have := o.k11; omega) w)
    have HF := Lib.hid (flags_of a.k o.k0 o.k11)
    have HE := Lib.hid he
    rw [he]
    have HTt := Lib.hid (show bT a.k = true → 0 ≤ a.t ∧ a.t ≤ 255 from fun h => by have := o.t1 h; omega)
    have HFf := Lib.hid o.f0
    have HF2 := Lib.hid o.f1
    obtain ⟨hn0, hn1⟩ := o.n1
    have hkey := o.key1
    have hval := o.val1
    have hf60 := o.f2
    clear he hr o HO HE
    simp only [hasC] at HI
    generalize nameS a.k = NM at *
    generalize bT a.k = T at *
    generalize bK a.k = K at *
    generalize bV a.k = V at *
    generalize bN a.k = N at *
    generalize bF a.k = F at *
    generalize hRR : str (numL a.k 1 ++ pT T a.t ++ pS K a.key ++ pS V a.val ++ pT N a.n ++ pF F a.f ++ onesL a.f) = R
    generalize hK0 : numL a.k 1 = K0 at *
    have hk0 : (str K0).size = 1 := by rw [← hK0]; rfl
    have HRR := Lib.hid hRR
    clear hK0 hRR
    obtain ⟨k, t, key, val, n, f⟩ := a
    simp only [actV] at *
    go_enter Tryd.func12, Tryd.ntmps12
    go_upto_region 1 with fail
    have hD := (Hold.start w).madeRow (.int .i64 k) [.int .i64 t, .string key, .string val, .int .i64 n, .slice q f.length c] 24
    simp only [List.nil_append] at hD
    generalize w.alloc _ = w0 at *
    replace hD : Hold w w0 [rowR w.heap.size (.int .i64 k) [.int .i64 t, .string key, .string val, .int .i64 n, .slice q f.length c]] := hD
    obtain ⟨⟨a0, a1, a2, a3, a4, a5⟩, -⟩ := RowAt.c6 (hD.get 0 rfl)
    go_upto_region 3 with ((with_reducible refine (CR.out _ (HA.out.up hD.up)).mono ?_); rintro e w1 ⟨rfl, hb⟩; replace hD := hD.next hb; clear hb)
    clear a0 a1 a2 a3 a4 a5
    have hix := HI.out
    refine wp_region_two Up (RQ w1.drew.heap.size) (up_rq _) (by kernel_rfl) (by kernel_rfl) (by kernel_rfl) ?_
    replace hD := hD.next ((Below.refl _ w1).drew)
    generalize w1.drew = wa at *
    have r0 : RowAt wa w.heap.size [.int .i64 k, .int .i64 t, .string key, .string val, .int .i64 n, .slice q f.length c] := hD.get 0 rfl
    have a0 := r0.cell 0 (by simp)
    simp only [List.getElem_cons_zero] at a0
    refine wpAnyTS_quiet 0 7 3 74 (by rfl) (by kernel_rfl) (fun _ _ _ _ _ h => h) (by kernel_rfl) (by kernel_rfl) ?_
    apply Exists.intro
    refine ⟨fun w2 hw2 => ?_, ?_⟩
    · have hne := laterR_ne rok_upQ w2
      have l0 := laterQ a0 r0.lt (Nat.le_refl _) hw2
      simp only [List.drop_zero, List.take_succ_cons, List.take_zero]
      repeat (go_big_quiet_step (first
        | (go_at_call 22; with_reducible exact Calls.laterQ (CK.out _))
        | (go_at_call 31; with_reducible exact Calls.laterQ (CO.out _))))
      exact wpQuiet_nil rfl
    clear a0 r0 hix
    have hU := Up.refl wa
    refine wpAnyTS_some 7 [] 2 (by rfl) (by kernel_rfl) (by kernel_rfl) ?_
    intro w3 h3
    replace hD := hD.next h3
    replace hU := Up.trans hU h3
    clear h3
    refine ⟨?_, trivial⟩
    simp only [List.drop_succ_cons, List.drop_zero, List.take_succ_cons, List.take_zero]
    go_wp2_with fail
    refine ⟨.inr ((up_rq _).sub ((Up.refl _).alloc _)), ?_⟩
    have hg3 : wa.heap.size ≤ w3.heap.size := Below.size hU
    replace hD := hD.madeRow (.string ⟨#[]⟩) [.bool false, .bool false, .bool false, .bool false, .bool false] 49
    simp only [List.nil_append, List.cons_append] at hD
    replace hU := Up.trans hU ((Up.refl w3).alloc (.cells #[.string ⟨#[]⟩, .bool false, .bool false, .bool false, .bool false, .bool false] 49))
    generalize w3.heap.size = g3 at *
    generalize w3.alloc _ = w4 at *
    refine wpAnyTS_some 8 [] 1 (by rfl) (by kernel_rfl) (by kernel_rfl) ?_
    intro w5 h3
    replace hD := hD.next h3
    replace hU := Up.trans hU h3
    clear h3
    refine ⟨?_, trivial⟩
    obtain ⟨⟨x0, x1, x2, x3, x4, x5⟩, y0, y1, y2, y3, y4, y5⟩ := RowAt.c6 (hD.get 1 rfl)
    simp only [List.drop_succ_cons, List.drop_zero, List.take_succ_cons, List.take_zero]
    go_wp2_with fail
    refine ⟨.inr (fun _ => ((((((Below.refl _ w5).setCell (p := ⟨g3, 0, none⟩) hg3 _).setCell (p := ⟨g3, 1, none⟩) hg3 _).setCell (p := ⟨g3, 2, none⟩) hg3 _).setCell (p := ⟨g3, 3, none⟩) hg3 _).setCell (p := ⟨g3, 4, none⟩) hg3 _).setCell (p := ⟨g3, 5, none⟩) hg3 _), ?_⟩
    clear x0 x1 x2 x3 x4 x5 y0 y1 y2 y3 y4 y5
    replace hD := hD.put6 1 (g := g3) rfl (.string NM) (.bool T) (.bool K) (.bool V) (.bool N) (.bool F)
    replace hU := Up.setCell (Up.setCell (Up.setCell (Up.setCell (Up.setCell (Up.setCell hU g3 0 (.string NM) hg3) g3 1 (.bool T) hg3) g3 2 (.bool K) hg3) g3 3 (.bool V) hg3) g3 4 (.bool N) hg3) g3 5 (.bool F) hg3
    generalize ((((((w5.setCell ⟨g3, 0, none⟩ (.string NM)).setCell ⟨g3, 1, none⟩ (.bool T)).setCell ⟨g3, 2, none⟩ (.bool K)).setCell ⟨g3, 3, none⟩ (.bool V)).setCell ⟨g3, 4, none⟩ (.bool N)).setCell ⟨g3, 5, none⟩ (.bool F)) = w6 at *
    refine wpAnyTS_quiet 9 1 0 74 (by rfl) (by kernel_rfl) (fun _ _ _ _ _ h => h) (by kernel_rfl) (by kernel_rfl) ?_
    apply Exists.intro
    refine ⟨fun w2 hw2 => ?_, ?_⟩
    · have hne := laterR_ne rok_upQ w2
      simp only [List.drop_succ_cons, List.drop_zero, List.take_succ_cons, List.take_zero]
      repeat (go_big_quiet_step (fail))
      exact wpQuiet_nil rfl
    refine wpAnyTS_done (by kernel_rfl) ?_
    intro w7 h7
    replace hD := hD.next h7
    clear h7 hU hg3 CK HI CO CR
    replace hD : Hold w w7 [rowR w.heap.size (.int .i64 k) [.int .i64 t, .string key, .string val, .int .i64 n, .slice q f.length c], rowR g3 (.string NM) [.bool T, .bool K, .bool V, .bool N, .bool F]] := hD
    obtain ⟨⟨a0, a1, a2, a3, a4, a5⟩, -⟩ := RowAt.c6 (hD.get 0 rfl)
    obtain ⟨⟨b0, b1, b2, b3, b4, b5⟩, -⟩ := RowAt.c6 (hD.get 1 rfl)
    have one1 : ∀ x : Int, (str (numL x 1)).size = 1 := fun x => by rw [size_str, numL_one]; rfl
    have CL := Lib.hid (fun w => script_one (key.size : Int) (by omega) (by omega) w)
    have CV := Lib.hid (fun w => script_one (val.size : Int) (by omega) (by omega) w)
    have CN := Lib.hid (fun w => script_one n hn0 hn1 w)
    have CFl := Lib.hid (fun w => script_one (f.length : Int) (by omega) (by omega) w)
    have xl := one1 (key.size : Int)
    have xv := one1 (val.size : Int)
    have xn := one1 n
    have xf := one1 (f.length : Int)
    have xt := one1 t
    rcases HF.out with ⟨rfl, rfl, rfl, rfl, rfl⟩ | ⟨rfl, rfl, rfl, rfl, rfl⟩ | ⟨rfl, rfl, rfl, rfl, rfl⟩ | ⟨rfl, rfl, rfl, rfl, rfl⟩ | ⟨rfl, rfl, rfl, rfl, rfl⟩ | ⟨rfl, rfl, rfl, rfl, rfl⟩
    · have hf := HFf.out rfl
      subst hf
      have CT := Lib.hid (fun w => script_one t (HTt.out rfl).1 (HTt.out rfl).2 w)
      have z1 : ¬ 9223372036854775807 < (str K0).size + (str (numL t 1)).size := by omega
      have HG := Lib.hid (show str K0 ++ str (numL t 1) = R by rw [← HRR.out]; simp [pT, pS, pF, onesL, str_append])
      clear xl xv xn xf xt one1 hf60 HF2 CL CV CN CFl
      generalize str (numL t 1) = XT at *
      generalize str K0 = X0 at *
      go_wp2_with ((with_reducible refine (CT.out _).mono ?_); rintro e wn ⟨rfl, hb⟩; replace hD := hD.next hb; clear hb; clear a0 a1 a2 a3 a4 a5 b0 b1 b2 b3 b4 b5; obtain ⟨⟨a0, a1, a2, a3, a4, a5⟩, -⟩ := RowAt.c6 (hD.get 0 rfl); obtain ⟨⟨b0, b1, b2, b3, b4, b5⟩, -⟩ := RowAt.c6 (hD.get 1 rfl))
      refine wp_loop_rounds 1 ?_
      rw [rounds_succ]
      go_wp2_with fail
      go_ret
      exact ⟨by rw [← HG.out]; rfl, hD.up⟩
    · have hf := HFf.out rfl
      subst hf
      have CT := Lib.hid (fun w => script_one t (HTt.out rfl).1 (HTt.out rfl).2 w)
      have z1 : ¬ 9223372036854775807 < (str K0).size + (str (numL t 1)).size := by omega
      have z2 : ¬ 9223372036854775807 < (str (numL (key.size : Int) 1)).size + key.size := by omega
      have z3 : ¬ 9223372036854775807 < (str K0 ++ str (numL t 1)).size + (str (numL (key.size : Int) 1) ++ key).size := by rw [ByteArray.size_append, ByteArray.size_append]; omega
      have HG := Lib.hid (show str K0 ++ str (numL t 1) ++ (str (numL (key.size : Int) 1) ++ key) = R by rw [← HRR.out]; simp only [text_parts, pT, pS, pF, onesL, if_true, Bool.false_eq_true, if_false, str_append, List.flatMap_nil, List.append_nil])
      clear xl xv xn xf xt one1 hf60 HF2 CFl CV CN
      generalize str (numL t 1) = XT at *
      generalize str (numL (key.size : Int) 1) = XL at *
      generalize str K0 = X0 at *
      go_upto_region 7 with ((with_reducible refine (CT.out _).mono ?_); rintro e wn ⟨rfl, hb⟩; replace hD := hD.next hb; clear hb; clear a0 a1 a2 a3 a4 a5 b0 b1 b2 b3 b4 b5; obtain ⟨⟨a0, a1, a2, a3, a4, a5⟩, -⟩ := RowAt.c6 (hD.get 0 rfl); obtain ⟨⟨b0, b1, b2, b3, b4, b5⟩, -⟩ := RowAt.c6 (hD.get 1 rfl))
      have l0 := Later.cell_of a2
      have hne := later_ne wn
      clear a0 a1 a2 a3 a4 a5 b0 b1 b2 b3 b4 b5
      refine wp_region_later (by kernel_rfl) (by kernel_rfl) ?_
      repeat (go_big_quiet_step ((go_at_call 31; with_reducible exact Calls.later (CL.out _))))
      refine wpQuiet_nil ?_
      intro w9 hw9
      obtain ⟨u9, rfl⟩ := hw9
      replace hD := hD.next u9.up
      clear l0 hne
      generalize u9.world = wv at *
      obtain ⟨⟨a0, a1, a2, a3, a4, a5⟩, -⟩ := RowAt.c6 (hD.get 0 rfl)
      obtain ⟨⟨b0, b1, b2, b3, b4, b5⟩, -⟩ := RowAt.c6 (hD.get 1 rfl)
      go_wp2_with fail
      refine wp_loop_rounds 1 ?_
      rw [rounds_succ]
      go_wp2_with fail
      go_ret
      exact ⟨by rw [← HG.out]; rfl, hD.up⟩
    · have hf := HFf.out rfl
      subst hf
      have CT := Lib.hid (fun w => script_one t (HTt.out rfl).1 (HTt.out rfl).2 w)
      have z1 : ¬ 9223372036854775807 < (str K0).size + (str (numL t 1)).size := by omega
      have z2 : ¬ 9223372036854775807 < (str (numL (key.size : Int) 1)).size + key.size := by omega
      have z3 : ¬ 9223372036854775807 < (str K0 ++ str (numL t 1)).size + (str (numL (key.size : Int) 1) ++ key).size := by rw [ByteArray.size_append, ByteArray.size_append]; omega
      have z4 : ¬ 9223372036854775807 < (str (numL (val.size : Int) 1)).size + val.size := by omega
      have z5 : ¬ 9223372036854775807 < (str K0 ++ str (numL t 1) ++ (str (numL (key.size : Int) 1) ++ key)).size + (str (numL (val.size : Int) 1) ++ val).size := by simp only [ByteArray.size_append]; omega
      have HG := Lib.hid (show str K0 ++ str (numL t 1) ++ (str (numL (key.size : Int) 1) ++ key) ++ (str (numL (val.size : Int) 1) ++ val) = R by rw [← HRR.out]; simp only [text_parts, pT, pS, pF, onesL, if_true, Bool.false_eq_true, if_false, str_append, List.flatMap_nil, List.append_nil])
      clear xl xv xn xf xt one1 hf60 HF2 CFl CN
      generalize str (numL t 1) = XT at *
      generalize str (numL (key.size : Int) 1) = XL at *
      generalize str (numL (val.size : Int) 1) = XV at *
      generalize str K0 = X0 at *
      go_upto_region 7 with ((with_reducible refine (CT.out _).mono ?_); rintro e wn ⟨rfl, hb⟩; replace hD := hD.next hb; clear hb; clear a0 a1 a2 a3 a4 a5 b0 b1 b2 b3 b4 b5; obtain ⟨⟨a0, a1, a2, a3, a4, a5⟩, -⟩ := RowAt.c6 (hD.get 0 rfl); obtain ⟨⟨b0, b1, b2, b3, b4, b5⟩, -⟩ := RowAt.c6 (hD.get 1 rfl))
      have l0 := Later.cell_of a2
      have hne := later_ne wn
      clear a0 a1 a2 a3 a4 a5 b0 b1 b2 b3 b4 b5
      refine wp_region_later (by kernel_rfl) (by kernel_rfl) ?_
      repeat (go_big_quiet_step ((go_at_call 31; with_reducible exact Calls.later (CL.out _))))
      refine wpQuiet_nil ?_
      intro w9 hw9
      obtain ⟨u9, rfl⟩ := hw9
      replace hD := hD.next u9.up
      clear l0 hne
      generalize u9.world = wv at *
      obtain ⟨⟨a0, a1, a2, a3, a4, a5⟩, -⟩ := RowAt.c6 (hD.get 0 rfl)
      obtain ⟨⟨b0, b1, b2, b3, b4, b5⟩, -⟩ := RowAt.c6 (hD.get 1 rfl)
      go_upto_region 9 with fail
      have l0 := Later.cell_of a3
      have hne := later_ne wv
      clear a0 a1 a2 a3 a4 a5 b0 b1 b2 b3 b4 b5
      refine wp_region_later (by kernel_rfl) (by kernel_rfl) ?_
      repeat (go_big_quiet_step ((go_at_call 31; with_reducible exact Calls.later (CV.out _))))
      refine wpQuiet_nil ?_
      intro w9 hw9
      obtain ⟨u9, rfl⟩ := hw9
      replace hD := hD.next u9.up
      clear l0 hne
      generalize u9.world = wv at *
      obtain ⟨⟨a0, a1, a2, a3, a4, a5⟩, -⟩ := RowAt.c6 (hD.get 0 rfl)
      obtain ⟨⟨b0, b1, b2, b3, b4, b5⟩, -⟩ := RowAt.c6 (hD.get 1 rfl)
      go_wp2_with fail
      refine wp_loop_rounds 1 ?_
      rw [rounds_succ]
      go_wp2_with fail
      go_ret
      exact ⟨by rw [← HG.out]; rfl, hD.up⟩
    · have hf := HFf.out rfl
      subst hf
      have CT := Lib.hid (fun w => script_one t (HTt.out rfl).1 (HTt.out rfl).2 w)
      have z1 : ¬ 9223372036854775807 < (str K0).size + (str (numL t 1)).size := by omega
      have z2 : ¬ 9223372036854775807 < (str (numL (key.size : Int) 1)).size + key.size := by omega
      have z3 : ¬ 9223372036854775807 < (str K0 ++ str (numL t 1)).size + (str (numL (key.size : Int) 1) ++ key).size := by rw [ByteArray.size_append, ByteArray.size_append]; omega
      have z4 : ¬ 9223372036854775807 < (str K0 ++ str (numL t 1) ++ (str (numL (key.size : Int) 1) ++ key)).size + (str (numL n 1)).size := by simp only [ByteArray.size_append]; omega
      have HG := Lib.hid (show str K0 ++ str (numL t 1) ++ (str (numL (key.size : Int) 1) ++ key) ++ str (numL n 1) = R by rw [← HRR.out]; simp only [text_parts, pT, pS, pF, onesL, if_true, Bool.false_eq_true, if_false, str_append, List.flatMap_nil, List.append_nil])
      clear xl xv xn xf xt one1 hf60 HF2 CFl CV
      generalize str (numL t 1) = XT at *
      generalize str (numL (key.size : Int) 1) = XL at *
      generalize str (numL n 1) = XN at *
      generalize str K0 = X0 at *
      go_upto_region 7 with ((with_reducible refine (CT.out _).mono ?_); rintro e wn ⟨rfl, hb⟩; replace hD := hD.next hb; clear hb; clear a0 a1 a2 a3 a4 a5 b0 b1 b2 b3 b4 b5; obtain ⟨⟨a0, a1, a2, a3, a4, a5⟩, -⟩ := RowAt.c6 (hD.get 0 rfl); obtain ⟨⟨b0, b1, b2, b3, b4, b5⟩, -⟩ := RowAt.c6 (hD.get 1 rfl))
      have l0 := Later.cell_of a2
      have hne := later_ne wn
      clear a0 a1 a2 a3 a4 a5 b0 b1 b2 b3 b4 b5
      refine wp_region_later (by kernel_rfl) (by kernel_rfl) ?_
      repeat (go_big_quiet_step ((go_at_call 31; with_reducible exact Calls.later (CL.out _))))
      refine wpQuiet_nil ?_
      intro w9 hw9
      obtain ⟨u9, rfl⟩ := hw9
      replace hD := hD.next u9.up
      clear l0 hne
      generalize u9.world = wv at *
      obtain ⟨⟨a0, a1, a2, a3, a4, a5⟩, -⟩ := RowAt.c6 (hD.get 0 rfl)
      obtain ⟨⟨b0, b1, b2, b3, b4, b5⟩, -⟩ := RowAt.c6 (hD.get 1 rfl)
      go_wp2_with ((with_reducible refine (CN.out _).mono ?_); rintro e wn ⟨rfl, hb⟩; replace hD := hD.next hb; clear hb; clear a0 a1 a2 a3 a4 a5 b0 b1 b2 b3 b4 b5; obtain ⟨⟨a0, a1, a2, a3, a4, a5⟩, -⟩ := RowAt.c6 (hD.get 0 rfl); obtain ⟨⟨b0, b1, b2, b3, b4, b5⟩, -⟩ := RowAt.c6 (hD.get 1 rfl))
      refine wp_loop_rounds 1 ?_
      rw [rounds_succ]
      go_wp2_with fail
      go_ret
      exact ⟨by rw [← HG.out]; rfl, hD.up⟩
    · have hf := HFf.out rfl
      subst hf
      have HG := Lib.hid (show str K0 = R by rw [← HRR.out]; simp only [pT, pS, pF, onesL, Bool.false_eq_true, if_false, List.flatMap_nil, List.append_nil])
      clear xl xv xn xf xt one1 hf60 HF2 CFl CL CV CN
      generalize str K0 = X0 at *
      go_wp2_with fail
      refine wp_loop_rounds 1 ?_
      rw [rounds_succ]
      go_wp2_with fail
      go_ret
      exact ⟨by rw [← HG.out]; rfl, hD.up⟩
    · have z1 : ¬ 9223372036854775807 < (str K0).size + (str (numL (f.length : Int) 1)).size := by omega
      have HG := Lib.hid (show str (K0 ++ numL (f.length : Int) 1 ++ onesL f) = R by rw [← HRR.out]; simp only [pT, pS, pF, if_true, Bool.false_eq_true, if_false, List.append_nil])
      have HS := Lib.hid (show str K0 ++ str (numL (f.length : Int) 1) = str (K0 ++ numL (f.length : Int) 1) from str_append _ _)
      have hb2 : (K0 ++ numL (f.length : Int) 1).length = 2 := by
        have := hk0
        rw [size_str] at this
        rw [List.length_append, this, numL_one]; rfl
      clear xl xv xn xt CL CV CN HTt HRR
      generalize hX1 : K0 ++ numL (f.length : Int) 1 = X1 at *
      clear hX1
      generalize str (numL (f.length : Int) 1) = XF at *
      generalize str K0 = X0 at *
      go_wp2_with ((with_reducible refine (CFl.out _).mono ?_); rintro e wn ⟨rfl, hb⟩; replace hD := hD.next hb; clear hb; clear a0 a1 a2 a3 a4 a5 b0 b1 b2 b3 b4 b5; obtain ⟨⟨a0, a1, a2, a3, a4, a5⟩, -⟩ := RowAt.c6 (hD.get 0 rfl); obtain ⟨⟨b0, b1, b2, b3, b4, b5⟩, -⟩ := RowAt.c6 (hD.get 1 rfl))
      rw [HS.out]
      go_loopw [4, 64] (fun v4 v64 wr => ∃ m : Nat, m ≤ f.length ∧ v64 = .int .i64 m ∧ v4 = .string (str (X1 ++ onesL (f.take m))) ∧ Hold w wr [rowR w.heap.size (.int .i64 k) [.int .i64 t, .string key, .string val, .int .i64 n, .slice q f.length c], rowR g3 (.string NM) [.bool false, .bool false, .bool false, .bool false, .bool true]]) (fun _ v _ => f.length - (intOf v).toNat)
      case atStart => exact ⟨0, by omega, rfl, by simp [onesL], hD⟩
      case round =>
      clear hD a0 a1 a2 a3 a4 a5 b0 b1 b2 b3 b4 b5
      obtain ⟨m, hm, rfl, rfl, hD⟩ := hrel
      have i0 : (0 : Int) ≤ (m : Int) := by omega
      have i2 : (f.length : Int) ≤ 60 := by omega
      by_cases hlt : m < f.length
      · have b1 : (m : Int) < (f.length : Int) := by omega
        obtain ⟨g, o, rfl, e1⟩ := (HA.out.up hD.up) m hlt
        have hx := HF2.out _ (List.getElem_mem hlt)
        have HT := Lib.hid (onesL_take f m hlt)
        have hlen : (onesL (f.take m)).length ≤ 60 := by rw [onesL_len, List.length_take]; omega
        generalize f[m] = x at *
        have C1 := Lib.hid (fun w => script_one x hx.1 (by omega) w)
        have z3 : ¬ 9223372036854775807 < (str (X1 ++ onesL (f.take m))).size + (str (numL x 1)).size := by
          rw [one1 x, size_str, List.length_append]; omega
        have HS2 := Lib.hid (show str (X1 ++ onesL (f.take m)) ++ str (numL x 1) = str (X1 ++ onesL (f.take (m + 1))) by rw [str_append, HT.out, List.append_assoc])
        generalize str (numL x 1) = XX at *
        clear one1 hlen
        go_wp2_with ((with_reducible refine (C1.out _).mono ?_); rintro e wn ⟨rfl, hb⟩; replace hD := hD.next hb; clear hb e1)
        go_roundw
        case rel => exact ⟨m + 1, by omega, by go_num, by rw [HS2.out], hD⟩
        case measure => simp [intOf]; omega
      · have hml : m = f.length := by omega
        subst hml
        rw [List.take_length, HG.out]
        go_wp2_with fail
        go_ret
        exact ⟨rfl, hD.up⟩
end Go.Proofs.YtkkgcmnipdkeeaaDoor
