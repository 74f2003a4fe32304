/- Layer 24: whether an act may be. -/
import Derived.Test.YtkkgcmnipdkeeaaDoorScWalk1
import Derived.Test.YtkkgcmnipdkeeaaDoorScInts
import Derived.Test.YtkkgcmnipdkeeaaDoorUpQ
namespace Go.Proofs.YtkkgcmnipdkeeaaDoor
open Go.RowKit Bw
set_option linter.unusedVariables false
set_option maxHeartbeats 1000000 in
theorem slices_IndexFunc (l : List Int) (hl : l.length ≤ 1099511627776) (q : Option Addr) (c : Nat) (w : World) (hA : IntsAt w q l) :
    Calls Tryd.prog 42 #[.slice q l.length c, .func (.func 23) #[] #[]] w fun e w' => ∃ r : Int, e = .returned (.int .i64 r) ∧ decide (0 ≤ r) = !fatesB l ∧ Below w.heap.size w w' := by
  have HA := Lib.hid hA
  clear hA
  go_enter Tryd.func42, Tryd.ntmps42
  go_wp2_with fail
  go_loopw [8] (fun v8 wr => ∃ n : Nat, n ≤ l.length ∧ v8 = .int .i64 n ∧ fatesB (l.take n) = true ∧ Up w wr) (fun v _ => l.length - (intOf v).toNat)
  case atStart => exact ⟨0, by omega, rfl, rfl, Up.refl w⟩
  case round =>
    obtain ⟨n, hn, rfl, hf, hu⟩ := hrel
    have HF := Lib.hid hf
    clear hf
    have i0 : (0 : Int) ≤ (n : Int) := by omega
    have i2 : (l.length : Int) ≤ 1099511627776 := by omega
    by_cases hlt : n < l.length
    · have b1 : (n : Int) < (l.length : Int) := by omega
      obtain ⟨g, o, rfl, a1⟩ := (HA.out.up hu) n hlt
      have HT := Lib.hid (show fatesB (l.take (n + 1)) = (fatesB (l.take n) && inB l[n] 0 2) by rw [List.take_succ_eq_append_getElem hlt]; simp only [fatesB, List.all_append, List.all_cons, List.all_nil, Bool.and_true])
      have HM := Lib.hid (show fatesB l = true → inB l[n] 0 2 = true from fun h => by simp only [fatesB, List.all_eq_true] at h; exact h _ (List.getElem_mem hlt))
      generalize l[n] = x at *
      have C := Lib.hid (right_odd x)
      cases hx : inB x 0 2
      · rw [hx] at C
        go_wp2_with ((with_reducible refine (C.out _).mono ?_); rintro e wn ⟨rfl, rfl⟩)
        go_ret
        refine ⟨_, rfl, ?_, hu⟩
        have : fatesB l = false := by
          cases hh : fatesB l
          · rfl
          · have := HM.out hh; rw [hx] at this; cases this
        rw [this]; simp
      · rw [hx] at C
        go_wp2_with ((with_reducible refine (C.out _).mono ?_); rintro e wn ⟨rfl, rfl⟩)
        go_roundw
        case rel => exact ⟨n + 1, by omega, by go_num, by rw [HT.out, HF.out, hx]; rfl, hu⟩
        case measure => simp [intOf]; omega
    · have hnl : n = l.length := by omega
      subst hnl
      have hf := HF.out
      rw [List.take_length] at hf
      go_wp2_with fail
      go_ret
      exact ⟨_, rfl, by rw [hf]; rfl, hu⟩
set_option maxHeartbeats 1000000 in
theorem slices_ContainsFunc (l : List Int) (hl : l.length ≤ 1099511627776) (q : Option Addr) (c : Nat) (w : World) (hA : IntsAt w q l) :
    Calls Tryd.prog 27 #[.slice q l.length c, .func (.func 23) #[] #[]] w fun e w' => e = .returned (.bool (!fatesB l)) ∧ Below w.heap.size w w' := by
  have C := Lib.hid (slices_IndexFunc l hl q c w hA)
  generalize (!fatesB l) = B at *
  go_enter Tryd.func27, Tryd.ntmps27
  go_wp2_with ((with_reducible refine C.out.mono ?_); rintro e wn ⟨r, rfl, hr, hu⟩)
  go_ret
  exact ⟨rfl, hu⟩
/-- As the program reckons it. -/
theorem right_prog (a : ActD) : a.right = (inB a.k 0 11 && lackB (bT a.k) (bK a.k) (bV a.k) (bN a.k) (bF a.k) a && (!bT a.k || inB a.t 1 8) && (!(bK a.k && !keyB a.key) || (a.k == 4 && a.key.toList == ByteArray.toList ⟨#[]⟩)) && (valB a.val && inB a.n 0 255 && decide ((a.f.length : Int) ≤ 60) && fatesB a.f)) := by
  have e1 : ∀ s : ByteArray, (s.toList == ByteArray.toList ⟨#[]⟩) = decide (s = ByteArray.empty) := fun s => str_eqB s ByteArray.empty
  have e2 : ∀ x : Int, (x == 0) = decide (x = 0) := fun x => rfl
  have e3 : ((a.f.length : Int) == 0) = decide (a.f = []) := by
    cases a.f with
    | nil => rfl
    | cons x l => simp; omega
  have e4 : decide ((a.f.length : Int) ≤ 60) = decide (a.f.length ≤ 60) := by simp; omega
  have e5 : (a.k == 4) = decide (a.k = 4) := rfl
  unfold ActD.right lackB
  rw [e1, e1, e2, e2, e3, e4, e5]
  generalize inB a.k 0 11 = x0
  generalize inB a.t 1 8 = x1
  generalize decide (a.t = 0) = x2
  generalize keyB a.key = x3
  generalize decide (a.k = 4) = x4
  generalize decide (a.key = ByteArray.empty) = x5
  generalize valB a.val = x6
  generalize decide (a.val = ByteArray.empty) = x7
  generalize inB a.n 0 255 = x8
  generalize decide (a.n = 0) = x9
  generalize fatesB a.f = y0
  generalize decide (a.f.length ≤ 60) = y1
  generalize decide (a.f = []) = y2
  generalize bT a.k = T
  generalize bK a.k = K
  generalize bV a.k = V
  generalize bN a.k = N
  generalize bF a.k = F
  cases T <;> cases K <;> simp only [Bool.false_eq_true, if_true, if_false, Bool.true_or, Bool.false_or, Bool.not_true, Bool.not_false, Bool.true_and, Bool.false_and, Bool.and_true, Bool.not_not] <;> ac_rfl
set_option maxHeartbeats 4000000 in
set_option maxRecDepth 100000 in
theorem script_Right (a : ActD) (hl : a.f.length ≤ 1099511627776) (q : Option Addr) (c : Nat) (w : World) (hA : IntsAt w q a.f) :
    Calls Tryd.prog 9 #[actV a q c] w fun e w' => e = .returned (.bool a.right) ∧ Below w.heap.size w w' := by
  have HR := Lib.hid (right_prog a)
  by_cases hk : 0 ≤ a.k ∧ a.k ≤ 11
  · have c0 : inB a.k 0 11 = true := by simp [inB, hk]
    have C0 := Lib.hid (script_within a.k 0 11)
    rw [c0] at C0
    have CK := Lib.hid script_kinds
    have HI := Lib.hid (kind_at a.k hk.1 hk.2)
    have CL := Lib.hid (fun w => has_lack (nameS a.k) _ _ _ _ _ (flags_of a.k hk.1 hk.2) a q c w)
    have C1 := Lib.hid (script_within a.t 1 8)
    have C2 := Lib.hid (rec_Key a.key)
    have C3 := Lib.hid (rec_Value a.val)
    have C4 := Lib.hid (script_within a.n 0 255)
    have C5 := Lib.hid (fun w h => slices_ContainsFunc a.f hl q c w h)
    have HA := Lib.hid hA
    have HFL := Lib.hid (flags_of a.k hk.1 hk.2)
    rw [c0] at HR
    clear c0 hA
    simp only [hasC] at HI
    generalize nameS a.k = NM at *
    generalize lackB (bT a.k) (bK a.k) (bV a.k) (bN a.k) (bF a.k) a = LB at *
    generalize bT a.k = T at *
    generalize bK a.k = K at *
    generalize bV a.k = V at *
    generalize bN a.k = N at *
    generalize bF a.k = F at *
    generalize a.right = R at *
    obtain ⟨k, t, key, val, n, f⟩ := a
    simp only [actV] at *
    go_enter Tryd.func9, Tryd.ntmps9
    go_upto_region 1 with fail
    have hD := (Hold.start w).madeRow (.int .i64 k) [.int .i64 t, .string key, .string val, .int .i64 n, .slice q f.length c] 24
    simp only [List.nil_append] at hD
    generalize w.alloc _ = w0 at *
    replace hD : Hold w w0 [rowR w.heap.size (.int .i64 k) [.int .i64 t, .string key, .string val, .int .i64 n, .slice q f.length c]] := hD
    have r0 : RowAt w0 w.heap.size [.int .i64 k, .int .i64 t, .string key, .string val, .int .i64 n, .slice q f.length c] := hD.get 0 rfl
    have a0 := r0.cell 0 (by simp)
    simp only [List.getElem_cons_zero] at a0
    go_upto_region 3 with ((with_reducible refine (C0.out _).mono ?_); rintro e wn ⟨rfl, rfl⟩)
    clear a0 r0
    have hix := HI.out
    refine wp_region_two Up (RQ w0.drew.heap.size) (up_rq _) (by kernel_rfl) (by kernel_rfl) (by kernel_rfl) ?_
    replace hD := hD.next ((Below.refl _ w0).drew)
    generalize w0.drew = wa at *
    have r0 : RowAt wa w.heap.size [.int .i64 k, .int .i64 t, .string key, .string val, .int .i64 n, .slice q f.length c] := hD.get 0 rfl
    have a0 := r0.cell 0 (by simp)
    simp only [List.getElem_cons_zero] at a0
    refine wpAnyTS_quiet 0 4 2 68 (by rfl) (by kernel_rfl) (fun _ _ _ _ _ h => h) (by kernel_rfl) (by kernel_rfl) ?_
    apply Exists.intro
    refine ⟨fun w2 hw2 => ?_, ?_⟩
    · have hne := laterR_ne rok_upQ w2
      have l0 := laterQ a0 r0.lt (Nat.le_refl _) hw2
      simp only [List.drop_zero, List.take_succ_cons, List.take_zero]
      repeat (go_big_quiet_step ((go_at_call 22; with_reducible exact Calls.laterQ (CK.out _))))
      exact wpQuiet_nil rfl
    clear a0 r0 hix
    have hU := Up.refl wa
    refine wpAnyTS_some 4 [] 1 (by rfl) (by kernel_rfl) (by kernel_rfl) ?_
    intro w3 h3
    replace hD := hD.next h3
    replace hU := Up.trans hU h3
    clear h3
    refine ⟨?_, trivial⟩
    simp only [List.drop_succ_cons, List.drop_zero, List.take_succ_cons, List.take_zero]
    go_wp2_with fail
    refine ⟨.inr ((up_rq _).sub ((Up.refl _).alloc _)), ?_⟩
    have hg3 : wa.heap.size ≤ w3.heap.size := Below.size hU
    replace hD := hD.madeRow (.string ⟨#[]⟩) [.bool false, .bool false, .bool false, .bool false, .bool false] 49
    simp only [List.nil_append, List.cons_append] at hD
    replace hU := Up.trans hU ((Up.refl w3).alloc (.cells #[.string ⟨#[]⟩, .bool false, .bool false, .bool false, .bool false, .bool false] 49))
    generalize w3.heap.size = g3 at *
    generalize w3.alloc _ = w4 at *
    refine wpAnyTS_some 5 [] 0 (by rfl) (by kernel_rfl) (by kernel_rfl) ?_
    intro w5 h3
    replace hD := hD.next h3
    replace hU := Up.trans hU h3
    clear h3
    refine ⟨?_, trivial⟩
    obtain ⟨⟨x0, x1, x2, x3, x4, x5⟩, y0, y1, y2, y3, y4, y5⟩ := RowAt.c6 (hD.get 1 rfl)
    simp only [List.drop_succ_cons, List.drop_zero, List.take_succ_cons, List.take_zero]
    go_wp2_with fail
    refine ⟨.inr (fun _ => ((((((Below.refl _ w5).setCell (p := ⟨g3, 0, none⟩) hg3 _).setCell (p := ⟨g3, 1, none⟩) hg3 _).setCell (p := ⟨g3, 2, none⟩) hg3 _).setCell (p := ⟨g3, 3, none⟩) hg3 _).setCell (p := ⟨g3, 4, none⟩) hg3 _).setCell (p := ⟨g3, 5, none⟩) hg3 _), ?_⟩
    clear x0 x1 x2 x3 x4 x5 y0 y1 y2 y3 y4 y5
    replace hD := hD.put6 1 (g := g3) rfl (.string NM) (.bool T) (.bool K) (.bool V) (.bool N) (.bool F)
    replace hU := Up.setCell (Up.setCell (Up.setCell (Up.setCell (Up.setCell (Up.setCell hU g3 0 (.string NM) hg3) g3 1 (.bool T) hg3) g3 2 (.bool K) hg3) g3 3 (.bool V) hg3) g3 4 (.bool N) hg3) g3 5 (.bool F) hg3
    generalize ((((((w5.setCell ⟨g3, 0, none⟩ (.string NM)).setCell ⟨g3, 1, none⟩ (.bool T)).setCell ⟨g3, 2, none⟩ (.bool K)).setCell ⟨g3, 3, none⟩ (.bool V)).setCell ⟨g3, 4, none⟩ (.bool N)).setCell ⟨g3, 5, none⟩ (.bool F)) = w6 at *
    refine wpAnyTS_done (by kernel_rfl) ?_
    intro w7 h7
    replace hD := hD.next h7
    clear h7 hU hg3
    replace hD : Hold w w7 [rowR w.heap.size (.int .i64 k) [.int .i64 t, .string key, .string val, .int .i64 n, .slice q f.length c], rowR g3 (.string NM) [.bool T, .bool K, .bool V, .bool N, .bool F]] := hD
    obtain ⟨⟨a0, a1, a2, a3, a4, a5⟩, -⟩ := RowAt.c6 (hD.get 0 rfl)
    obtain ⟨⟨b0, b1, b2, b3, b4, b5⟩, -⟩ := RowAt.c6 (hD.get 1 rfl)
    clear CK HI C0
    have HF := HFL.out
    clear HFL hk
    cases hLB : LB
    · rw [hLB] at HR CL
      have hR : R = false := by rw [HR.out]; simp
      go_wp2_with ((with_reducible refine (CL.out _).mono ?_); rintro e wn ⟨rfl, hb⟩; replace hD := hD.next hb; clear hb a0 a1 a2 a3 a4 a5 b0 b1 b2 b3 b4 b5)
      go_ret
      exact ⟨by rw [hR]; rfl, hD.up⟩
    · rw [hLB] at HR CL
      clear hLB
      have KY : ∀ x : Bool, R = x → Ending.returned (Value.bool x) = Ending.returned (Value.bool R) := fun x h => by rw [h]
      rcases HF with ⟨rfl, rfl, rfl, rfl, rfl⟩ | ⟨rfl, rfl, rfl, rfl, rfl⟩ | ⟨rfl, rfl, rfl, rfl, rfl⟩ | ⟨rfl, rfl, rfl, rfl, rfl⟩ | ⟨rfl, rfl, rfl, rfl, rfl⟩ | ⟨rfl, rfl, rfl, rfl, rfl⟩
      all_goals
        go_wp2_with (first
          | ((with_reducible refine (CL.out _).mono ?_); rintro e wn ⟨rfl, hb⟩; replace hD := hD.next hb; clear hb a0 a1 a2 a3 a4 a5 b0 b1 b2 b3 b4 b5; obtain ⟨⟨a0, a1, a2, a3, a4, a5⟩, -⟩ := RowAt.c6 (hD.get 0 rfl); obtain ⟨⟨b0, b1, b2, b3, b4, b5⟩, -⟩ := RowAt.c6 (hD.get 1 rfl))
          | ((with_reducible refine (C1.out _).mono ?_); rintro e wn ⟨rfl, rfl⟩)
          | ((with_reducible refine (C2.out _).mono ?_); rintro e wn ⟨rfl, rfl⟩)
          | ((with_reducible refine (C3.out _).mono ?_); rintro e wn ⟨rfl, rfl⟩)
          | ((with_reducible refine (C4.out _).mono ?_); rintro e wn ⟨rfl, rfl⟩)
          | ((with_reducible refine (C5.out _ (HA.out.up hD.up)).mono ?_); rintro e wn ⟨rfl, hb⟩; replace hD := hD.next hb; clear hb))
      all_goals
        go_ret
        refine ⟨?_, hD.up⟩
        refine KY _ ?_
        clear C1 C2 C3 C4 C5 CL hD HA
        have hr := HR.out
        clear HR KY
        rw [hr]
        first
          | (simp [*]; done)
          | (clear hr; simp_all; done)
          | (clear hr; simp_all; omega)
  · have hR : a.right = false := by
      have : inB a.k 0 11 = false := by
        simp only [inB, Bool.and_eq_false_iff, decide_eq_false_iff_not]; omega
      rw [HR.out, this]; simp
    have c0 : inB a.k 0 11 = false := by
      simp only [inB, Bool.and_eq_false_iff, decide_eq_false_iff_not]; omega
    have C0 := Lib.hid (script_within a.k 0 11)
    rw [c0] at C0
    rw [hR]
    clear HR hR c0 hk hA
    obtain ⟨k, t, key, val, n, f⟩ := a
    simp only [actV] at *
    go_enter Tryd.func9, Tryd.ntmps9
    have hu := (Up.refl w).alloc (.cells #[.int .i64 k, .int .i64 t, .string key, .string val, .int .i64 n, .slice q f.length c] 24)
    go_wp2_with ((with_reducible refine (C0.out _).mono ?_); rintro e wn ⟨rfl, rfl⟩)
    go_ret
    exact ⟨rfl, hu⟩
end Go.Proofs.YtkkgcmnipdkeeaaDoor
