/- Layer 6: Open. -/
import Derived.Test.YtokpkkjgagbpfaaWlWalkM
namespace Bw
set_option linter.unusedVariables false
/-- The half that is chosen, behind k halves. -/
def bestK (d : DiskD) : Nat → BestW
  | 0 => ⟨0, 0, [], (d.scan 0).pages⟩
  | k + 1 => bestStep (bestK d k) k (d.scan k)
theorem maxAge_nonneg (d : DiskD) : ∀ n, 0 ≤ maxAge d n
  | 0 => Int.le_refl _
  | n + 1 => Int.le_trans (maxAge_nonneg d n) (Int.le_trans (Int.le_max_left _ _) (Int.le_max_left _ _))
theorem max3 (a x y : Int) : (if (if a < x then x else a) < y then y else if a < x then x else a) = max (max a x) y := by
  rw [Int.max_def, Int.max_def]
  split <;> split <;> (try split) <;> (try split) <;> omega
theorem bestK_two (d : DiskD) : bestK d 2 = d.best := rfl
end Bw
namespace Go.Proofs.Ytokpkkjgagbpfaa
open Go.RowKit Bw
set_option linter.unusedVariables false
set_option maxRecDepth 100000
/-- A log in memory: its block of eight cells, and its records. -/
abbrev logR (gl : Nat) (vD : Value) (L : LogD) (q : Option Addr) (c : Nat) : List Res :=
  [rowR gl vD [.int .i64 (L.which : Int), .int .i64 L.age, .int .i64 (L.pages : Int), .slice q L.recs.length c, .int .i64 (L.written : Int), .int .i64 (L.sure : Int), .string L.turned], ownZ 9 1 (.slice q L.recs.length c) L.recs.length (strC L.recs)]
/-- What Open has, while it looks for the half. -/
abbrev seekR (gl gb : Nat) (vD : Value) (A : Int) (B : BestW) (q : Option Addr) (c : Nat) : List Res :=
  [rowR gl vD [.int .i64 (B.which : Int), .int .i64 A, .int .i64 0, .slice none 0 0, .int .i64 0, .int .i64 0, .string ⟨#[]⟩], rowR gb (.int .i64 B.age) [.slice q B.recs.length c, .int .i64 (B.pages : Int)], ownZ 9 1 (.slice q B.recs.length c) B.recs.length (strC B.recs)]
/-- What Open hands back. -/
def OpenPost (w : World) (vD : Value) (d : DiskD) (e : Ending) (w' : World) : Prop :=
  (openLE d ≠ 0 ∧ e = .returned (.tuple #[.pointer none, .int .i64 (openLE d)]) ∧ Up w w') ∨ (openLE d = 0 ∧ ∃ gl q c, e = .returned (.tuple #[.pointer (some ⟨gl, 0, none⟩), .int .i64 0]) ∧ Hold w w' (logR gl vD (openL d) q c))
theorem half_pages (a : Int) (q : Option Addr) (n c : Nat) (p : Int) (w : World) : (Instr.field 70 (.agg #[.int .i64 a, .slice q n c, .int .i64 p]) 2).run Try.prog w = .ok (.int .i64 p) w := by kernel_rfl
/-- The chosen half's row reads as before. -/
def SameBest (g : Nat) (w w' : World) : Prop := w'.cell? ⟨g, 1, none⟩ = w.cell? ⟨g, 1, none⟩ ∧ w'.cell? ⟨g, 2, none⟩ = w.cell? ⟨g, 2, none⟩
theorem sameBest_ok (g : Nat) : ROk (SameBest g) := ⟨fun _ => ⟨rfl, rfl⟩, fun h k => ⟨k.1.trans h.1, k.2.trans h.2⟩⟩
theorem sameBest_of {W w w' : World} {l l' : List Res} {g : Nat} {a b c : Value} (h : Hold W w l) (h' : Hold W w' l') (hi : l[1]? = some (rowR g a [b, c])) (hi' : l'[1]? = some (rowR g a [b, c])) : SameBest g w w' := by
  obtain ⟨-, p1, p2, -⟩ := RowAt.c3 (h.get 1 hi)
  obtain ⟨-, q1, q2, -⟩ := RowAt.c3 (h'.get 1 hi')
  exact ⟨q1.trans p1.symm, q2.trans p2.symm⟩
theorem eqOK' : ROk (Eq : World → World → Prop) := ⟨fun _ => rfl, Eq.trans⟩
theorem laterB1 {g : Nat} {w w1 : World} {v : Value} (h : w.cell? ⟨g, 1, none⟩ = some v) (h1 : SameBest g w w1) : ∀ u : LaterR Eq w1, u.world.cell? ⟨g, 1, none⟩ = some v := fun u => by
  obtain ⟨_, rfl⟩ := u; exact h1.1.trans h
theorem laterB2 {g : Nat} {w w1 : World} {v : Value} (h : w.cell? ⟨g, 2, none⟩ = some v) (h1 : SameBest g w w1) : ∀ u : LaterR Eq w1, u.world.cell? ⟨g, 2, none⟩ = some v := fun u => by
  obtain ⟨_, rfl⟩ := u; exact h1.2.trans h
theorem laterA {p : Addr} {w w1 : World} {v : Value} (h : w.cell? p = some v) (h1 : SameAt p w w1) : ∀ u : LaterR Eq w1, u.world.cell? p = some v := fun u => by
  obtain ⟨_, rfl⟩ := u; exact Eq.trans h1 h
variable {W w : World} {l : List Res} {g a c : Nat} {q : Option Nat} {d : DiskD}
set_option maxHeartbeats 2000000 in
theorem wal_open (h : Hold W w l) (j : Nat) (hj : l[j]? = some (diskR g a q c d)) (hc : c ≤ 1099511627776) (hok : d.Ok) :
    Calls Try.prog 12 #[.pointer (some ⟨g, 0, none⟩)] w (OpenPost w (.pointer (some ⟨g, 0, none⟩)) d) := by
  have hn2 := hok.n2
  obtain ⟨D, hDn⟩ : ∃ D : Nat, d.n = D := ⟨_, rfl⟩
  have HDn := Lib.hid hDn
  have CL := Lib.hid (fun w1 (hh' : Hold W w1 l) => hDn ▸ hLen hh' j hj)
  have SC := Lib.hid (fun w1 (hh' : Hold W w1 l) (k : Nat) hk => wal_scan hh' j hj hc hok k hk)
  have SC0 := Lib.hid (fun w1 (hh' : Hold W w1 l) => show Calls Try.prog 38 #[.pointer (some ⟨g, 0, none⟩), .int .i64 0] w1 (ScanPost w1 (d.scan 0)) from wal_scan hh' j hj hc hok 0 (by decide))
  have CR := Lib.hid (fun w1 (hh' : Hold W w1 l) (p : Int) => hRaw hh' j hj hc p)
  rw [hDn] at hn2
  have H0 := Lib.hid h
  have HRS := Lib.hid (fun p => rawD_size hok p)
  clear hDn hj hok
  by_cases h4 : D < 4
  · have h4' : (D : Int) < 4 := by omega
    go_enter Try.func12, Try.ntmps12
    go_upto_region 2 with ((with_reducible refine (CL.out _ h).mono ?_); rintro e wn ⟨rfl, rfl⟩)
    go_wp2_with fail
    refine bodyPost_ret (v := .tuple #[.pointer none, .int .i64 1]) (by simp [results, Try.results12, go_sem]) rfl ?_
    refine .inl ⟨?_, ?_, Up.refl _⟩
    · unfold openLE; rw [HDn.out, if_pos h4]; decide
    · unfold openLE; rw [HDn.out, if_pos h4]
  · have h4' : ¬ (D : Int) < 4 := by omega
    go_enter Try.func12, Try.ntmps12
    go_upto_region 3 with ((with_reducible refine (CL.out _ h).mono ?_); rintro e wn ⟨rfl, rfl⟩)
    have hfd := half_pages
    have h3 := h.next ((Up.refl wn).alloc (.cells #[.pointer (some ⟨g, 0, none⟩), .int .i64 0, .int .i64 0, .int .i64 0, .slice none 0 0, .int .i64 0, .int .i64 0, .string ⟨#[]⟩] 68))
    go_upto_region 4 with ((with_reducible refine (SC0.out _ h3).mono ?_); rintro e wm ⟨q0, c0, rfl, hS⟩)
    have hD := ((Hold.start wn).madeRow (.pointer (some ⟨g, 0, none⟩)) [.int .i64 0, .int .i64 0, .int .i64 0, .slice none 0 0, .int .i64 0, .int .i64 0, .string ⟨#[]⟩] 68).next hS.up
    have hlg : wn.heap.size < wm.heap.size := RowAt.lt (hD.get 0 rfl)
    replace hD := hD.madeRow (.int .i64 0) [.slice none 0 0, .int .i64 ((d.scan 0).pages : Int)] 70
    replace hD := hD.nilZ 9 1
    simp only [List.nil_append, List.cons_append] at hD
    clear h h3 hS
    generalize wm.alloc _ = w4 at *
    generalize hgl : wn.heap.size = gl at *
    generalize hgb : wm.heap.size = gb at *
    have hne1 : ¬ gl = gb := by omega
    have hne2 : ¬ gb = gl := by omega
    replace hD : Hold wn w4 (seekR gl gb (.pointer (some ⟨g, 0, none⟩)) 0 (bestK d 0) none 0) := hD
    go_wp2_with fail
    go_loopw [19] (fun v19 wr => ∃ (k : Nat) (q : Option Addr) (c : Nat), v19 = .int .i64 (k : Int) ∧ k ≤ 2 ∧ Hold wn wr (seekR gl gb (.pointer (some ⟨g, 0, none⟩)) 0 (bestK d k) q c)) (fun v _ => 2 - (intOf v).toNat)
    case atStart => exact ⟨0, none, 0, rfl, by omega, hD⟩
    case round =>
    obtain ⟨k, q, c, rfl, hk, hD⟩ := hrel
    by_cases hk2 : k < 2
    · have hk2' : (k : Int) < 2 := by omega
      have SK := Lib.hid (SC.out wr (H0.out.next hD.up) k (by omega))
      have hB : bestK d (k + 1) = bestStep (bestK d k) k (d.scan k) := rfl
      obtain ⟨B1, hB1⟩ : ∃ B1, bestK d (k + 1) = B1 := ⟨_, rfl⟩
      rw [hB1] at hB
      have HB1 := Lib.hid hB1
      clear hB1
      generalize bestK d k = B at *
      generalize d.scan (k : Int) = S at *
      obtain ⟨Sa, Sr, Sp, Sl, St⟩ := S
      obtain ⟨Bw, Ba, Br, Bp⟩ := B
      go_upto_region 8 with ((with_reducible refine SK.out.mono ?_); rintro e wk ⟨q1, c1, rfl, hS⟩)
      have hE := hD.add hS.up _ (hS.get 0 rfl) (hS.new 0 rfl)
      have hl1 : gl < wk.heap.size := RowAt.lt (hE.get 0 rfl)
      have hl2 : gb < wk.heap.size := RowAt.lt (hE.get 1 rfl)
      replace hE := hE.madeRow (.int .i64 Sa) [.slice q1 Sr.length c1, .int .i64 (Sp : Int)] 70
      simp only [List.nil_append, List.cons_append] at hE
      clear hD hS SK
      generalize hgh : wk.heap.size = gh at *
      generalize wk.alloc _ = w7 at *
      have hf1 : ¬ gl = gh := by omega
      have hf2 : ¬ gh = gl := by omega
      have hf3 : ¬ gb = gh := by omega
      have hf4 : ¬ gh = gb := by omega
      obtain ⟨z0, z1, z2, z3, z4, z5⟩ := RowAt.c3 (hE.get 4 rfl)
      obtain ⟨b0, b1, b2, b3, b4, b5⟩ := RowAt.c3 (hE.get 1 rfl)
      obtain ⟨a0, a1, a2, a3, a4, a5, a6, a7, e0, e1, e2, e3, e4, e5, e6, e7⟩ := RowAt.c8 (hE.get 0 rfl)
      by_cases hz : (Sr.length : Int) > 0
      · by_cases hb : Sa > Ba
        · have hB2 : B1 = ⟨k, Sa, Sr, Sp⟩ := by
            rw [hB]; unfold bestStep; exact if_pos ⟨fun h => by rw [show Sr = [] from h] at hz; exact absurd hz (by decide), hb⟩
          go_upto_region 10 with fail
          have hF := (((hE.putRow 1 (g := gb) rfl 0 (.int .i64 Sa) (.int .i64 Sa) [.slice q Br.length c, .int .i64 (Bp : Int)] (by simp) rfl).putRow 1 (g := gb) rfl 1 (.slice q1 Sr.length c1) (.int .i64 Sa) [.slice q1 Sr.length c1, .int .i64 (Bp : Int)] (by simp) rfl).putRow 1 (g := gb) rfl 2 (.int .i64 (Sp : Int)) (.int .i64 Sa) [.slice q1 Sr.length c1, .int .i64 (Sp : Int)] (by simp) rfl).putRow 0 (g := gl) rfl 1 (.int .i64 (k : Int)) (.pointer (some ⟨g, 0, none⟩)) [.int .i64 (k : Int), .int .i64 0, .int .i64 0, .slice none 0 0, .int .i64 0, .int .i64 0, .string ⟨#[]⟩] (by simp) rfl
          replace hF := hF.sub (l' := seekR gl gb (.pointer (some ⟨g, 0, none⟩)) 0 ⟨k, Sa, Sr, Sp⟩ q1 c1) (.cons_cons _ (.cons_cons _ (.cons _ (.cons_cons _ (List.nil_sublist _)))))
          rw [← hB2] at hF
          clear hE z0 z1 z2 z3 z4 z5 b0 b1 b2 b3 b4 b5 a0 a1 a2 a3 a4 a5 a6 a7 e0 e1 e2 e3 e4 e5 e6 e7 hz hb
          generalize World.setCell _ _ _ = w8 at *
          go_wp2_with fail
          rw [← HB1.out] at hF
          exact ⟨⟨k + 1, q1, c1, rfl, by omega, hF⟩, by simp [intOf]; omega⟩
        · have hB2 : B1 = ⟨Bw, Ba, Br, Bp⟩ := by rw [hB]; unfold bestStep; exact if_neg fun h => hb h.2
          go_upto_region 10 with fail
          have hF := hE.sub (l' := seekR gl gb (.pointer (some ⟨g, 0, none⟩)) 0 ⟨Bw, Ba, Br, Bp⟩ q c) (.cons_cons _ (.cons_cons _ (.cons_cons _ (List.nil_sublist _))))
          rw [← hB2] at hF
          clear hE z0 z1 z2 z3 z4 z5 b0 b1 b2 b3 b4 b5 a0 a1 a2 a3 a4 a5 a6 a7 e0 e1 e2 e3 e4 e5 e6 e7 hz hb
          go_wp2_with fail
          rw [← HB1.out] at hF
          exact ⟨⟨k + 1, q, c, rfl, by omega, hF⟩, by simp [intOf]; omega⟩
      · have hB2 : B1 = ⟨Bw, Ba, Br, Bp⟩ := by
          rw [hB]; unfold bestStep; exact if_neg fun h => hz (by have h1 : 0 < Sr.length := List.length_pos_iff.2 h.1; omega)
        go_upto_region 10 with fail
        have hF := hE.sub (l' := seekR gl gb (.pointer (some ⟨g, 0, none⟩)) 0 ⟨Bw, Ba, Br, Bp⟩ q c) (.cons_cons _ (.cons_cons _ (.cons_cons _ (List.nil_sublist _))))
        rw [← hB2] at hF
        clear hE z0 z1 z2 z3 z4 z5 b0 b1 b2 b3 b4 b5 a0 a1 a2 a3 a4 a5 a6 a7 e0 e1 e2 e3 e4 e5 e6 e7 hz
        go_wp2_with fail
        rw [← HB1.out] at hF
        exact ⟨⟨k + 1, q, c, rfl, by omega, hF⟩, by simp [intOf]; omega⟩
    · have hk2' : ¬ (k : Int) < 2 := by omega
      have hk3 : k = 2 := by omega
      clear SC SC0
      subst hk3
      have hL1 := H0.out.next hD.up
      rw [bestK_two] at hD
      go_wp2_with ((with_reducible refine (CL.out _ hL1).mono ?_); rintro e wx ⟨rfl, rfl⟩)
      clear CL hL1
      obtain ⟨B, hBB⟩ : ∃ B, d.best = B := ⟨_, rfl⟩
      rw [hBB] at hD
      have HBB := Lib.hid hBB
      clear hBB
      go_loopw [44] (fun v44 wr => ∃ (k : Nat), v44 = .int .i64 (k : Int) ∧ k ≤ D ∧ Hold wn wr (seekR gl gb (.pointer (some ⟨g, 0, none⟩)) (maxAge d k) B q c)) (fun v _ => D - (intOf v).toNat)
      case atStart => exact ⟨0, rfl, by omega, hD⟩
      case round =>
      obtain ⟨k, rfl, hk, hD⟩ := hrel
      by_cases hk2 : k < D
      · have hk2' : (k : Int) < (D : Int) := by omega
        have hraw := HRS.out k
        have HM := Lib.hid (show maxAge d (k + 1) = max (max (maxAge d k) (getV (d.rawD k) 0 6)) (getV (d.rawD k) 244 6) from rfl)
        have RQ := Lib.hid (fun (u : Later wr) => (CR.out _ (H0.out.next (Up.trans hD.up u.up)) k).mono fun e w' ⟨h1, h2, _⟩ => (⟨h1, h2⟩ : e = Ending.returned (.string (d.rawD k)) ∧ Below u.world.heap.size u.world w'))
        generalize maxAge d k = A at *
        generalize d.rawD k = S at *
        have N1 := Lib.hid (fun w => wal_num S (by omega) 0 6 (by decide) w)
        have N3 := Lib.hid (fun w => wal_num S (by omega) 244 6 (by decide) w)
        generalize getV S 0 6 = x1 at *
        generalize getV S 244 6 = x2 at *
        obtain ⟨a0, a1, a2, a3, a4, a5, a6, a7, e0, e1, e2, e3, e4, e5, e6, e7⟩ := RowAt.c8 (hD.get 0 rfl)
        go_upto_region 14 with fail
        refine wp_region_later_tail 16 (by kernel_rfl) (by kernel_rfl) ?_
        have l2 := Later.cell_of a2
        have hne := later_ne wr
        simp only [List.take_succ_cons, List.take_zero]
        repeat (go_big_quiet_step (first | (go_at_call 25; with_reducible exact Calls.later (RQ.out _)) | (go_at_call 39; first | (with_reducible exact Calls.later_same (N1.out _)) | (with_reducible exact Calls.later_same (N3.out _)))))
        refine wpQuiet_nil ?_
        intro w9 hw9
        obtain ⟨u9, rfl⟩ := hw9
        replace hD := hD.next u9.up
        clear l2 hne RQ N1 N3 a0 a1 a2 a3 a4 a5 a6 a7 e0 e1 e2 e3 e4 e5 e6 e7
        generalize u9.world = w9 at *
        obtain ⟨a0, a1, a2, a3, a4, a5, a6, a7, e0, e1, e2, e3, e4, e5, e6, e7⟩ := RowAt.c8 (hD.get 0 rfl)
        simp only [List.drop_succ_cons, List.drop_zero]
        have hF := hD.putRow 0 (g := gl) rfl 2 (.int .i64 (max (max A x1) x2)) (.pointer (some ⟨g, 0, none⟩)) [.int .i64 (B.which : Int), .int .i64 (max (max A x1) x2), .int .i64 0, .slice none 0 0, .int .i64 0, .int .i64 0, .string ⟨#[]⟩] (by simp) rfl
        replace hF : Hold wn _ (seekR gl gb (.pointer (some ⟨g, 0, none⟩)) (max (max A x1) x2) B q c) := hF
        rw [← HM.out] at hF
        go_wp2_with fail
        rw [max3, ← HM.out]
        exact ⟨⟨k + 1, rfl, by omega, hF⟩, by simp [intOf]; omega⟩
      · have hk2' : ¬ (k : Int) < (D : Int) := by omega
        have hk3 : k = D := by omega
        subst hk3
        clear CR H0 hk hk2
        obtain ⟨a0, a1, a2, a3, a4, a5, a6, a7, e0, e1, e2, e3, e4, e5, e6, e7⟩ := RowAt.c8 (hD.get 0 rfl)
        by_cases hA : maxAge d k ≥ 1099511627776
        · have hO : openLE d = 4 := by unfold openLE; rw [HDn.out, if_neg h4, if_pos hA]
          generalize maxAge d k = A at *
          go_wp2_with fail
          refine bodyPost_ret (v := .tuple #[.pointer none, .int .i64 4]) (by simp [results, Try.results12, go_sem]) rfl ?_
          exact .inl ⟨by rw [hO]; decide, by rw [hO], hD.up⟩
        · have hO : openLE d = 0 := by unfold openLE; rw [HDn.out, if_neg h4, if_neg hA]
          have hL : openL d = ⟨d.best.which, maxAge d k + 1, d.best.pages, d.best.recs, d.best.recs.length, d.best.recs.length, ByteArray.empty⟩ := by unfold openL; rw [HDn.out]
          have hA0 := maxAge_nonneg d k
          generalize maxAge d k = A at *
          have HO := Lib.hid hO
          have HL := Lib.hid hL
          clear hO hL
          go_upto_region 19 with fail
          have hF := hD.putRow 0 (g := gl) rfl 2 (.int .i64 (A + 1)) (.pointer (some ⟨g, 0, none⟩)) [.int .i64 (B.which : Int), .int .i64 (A + 1), .int .i64 0, .slice none 0 0, .int .i64 0, .int .i64 0, .string ⟨#[]⟩] (by simp) rfl
          clear hD a0 a1 a2 a3 a4 a5 a6 a7 e0 e1 e2 e3 e4 e5 e6 e7
          generalize World.setCell _ _ _ = w1 at *
          refine wp_region_two Eq (SameBest gb) (eq_ok (sameBest_ok gb)) (by kernel_rfl) (by kernel_rfl) (by kernel_rfl) ?_
          replace hF := hF.next ((Below.refl _ w1).drew)
          generalize w1.drew = w2 at *
          refine wpAnyTS_quiet 0 6 6 103 (by rfl) (by kernel_rfl) (fun _ _ _ _ _ h => h) (by kernel_rfl) (by kernel_rfl) ?_
          apply Exists.intro
          refine ⟨fun w2' hw2 => ?_, ?_⟩
          · have hne := laterR_ne (R := Eq) eqOK' w2'
            obtain ⟨b0, b1, b2, b3, b4, b5⟩ := RowAt.c3 (hF.get 1 rfl)
            have l1 := laterB1 b1 hw2
            have l2 := laterB2 b2 hw2
            simp only [List.drop_zero, List.take_succ_cons, List.take_zero]
            repeat (go_big_quiet_step (fail))
            exact wpQuiet_nil rfl
          refine wpAnyTS_quiet 6 2 4 103 (by rfl) (by kernel_rfl) (fun _ _ _ _ _ h => h) (by kernel_rfl) (by kernel_rfl) ?_
          apply Exists.intro
          refine ⟨fun w2' hw2 => ?_, ?_⟩
          · have hne := laterR_ne (R := Eq) eqOK' w2'
            obtain ⟨b0, b1, b2, b3, b4, b5⟩ := RowAt.c3 (hF.get 1 rfl)
            have l1 := laterB1 b1 hw2
            have l2 := laterB2 b2 hw2
            simp only [List.drop_succ_cons, List.drop_zero, List.take_succ_cons, List.take_zero]
            repeat (go_big_quiet_step (fail))
            exact wpQuiet_nil rfl
          refine wpAnyTS_some 8 [] 3 (by rfl) (by kernel_rfl) (by kernel_rfl) ?_
          rintro w3 rfl
          refine ⟨?_, trivial⟩
          simp only [List.drop_succ_cons, List.drop_zero, List.take_succ_cons, List.take_zero]
          obtain ⟨a0, a1, a2, a3, a4, a5, a6, a7, e0, e1, e2, e3, e4, e5, e6, e7⟩ := RowAt.c8 (hF.get 0 rfl)
          go_wp2_with fail
          have hG := hF.putRow 0 (g := gl) rfl 3 (.int .i64 (B.pages : Int)) (.pointer (some ⟨g, 0, none⟩)) [.int .i64 (B.which : Int), .int .i64 (A + 1), .int .i64 (B.pages : Int), .slice none 0 0, .int .i64 0, .int .i64 0, .string ⟨#[]⟩] (by simp) rfl
          refine ⟨.inr (sameBest_of hF hG rfl rfl), ?_⟩
          clear hF a0 a1 a2 a3 a4 a5 a6 a7 e0 e1 e2 e3 e4 e5 e6 e7
          have hF := hG
          clear hG
          generalize World.setCell _ _ _ = w5 at *
          refine wpAnyTS_quiet 9 2 1 103 (by rfl) (by kernel_rfl) (fun _ _ _ _ _ h => h) (by kernel_rfl) (by kernel_rfl) ?_
          apply Exists.intro
          refine ⟨fun w2' hw2 => ?_, ?_⟩
          · have hne := laterR_ne (R := Eq) eqOK' w2'
            obtain ⟨b0, b1, b2, b3, b4, b5⟩ := RowAt.c3 (hF.get 1 rfl)
            have l1 := laterB1 b1 hw2
            have l2 := laterB2 b2 hw2
            simp only [List.drop_succ_cons, List.drop_zero, List.take_succ_cons, List.take_zero]
            repeat (go_big_quiet_step (fail))
            exact wpQuiet_nil rfl
          refine wpAnyTS_some 11 [] 0 (by rfl) (by kernel_rfl) (by kernel_rfl) ?_
          rintro w4 rfl
          refine ⟨?_, trivial⟩
          simp only [List.drop_succ_cons, List.drop_zero, List.take_succ_cons, List.take_zero]
          obtain ⟨a0, a1, a2, a3, a4, a5, a6, a7, e0, e1, e2, e3, e4, e5, e6, e7⟩ := RowAt.c8 (hF.get 0 rfl)
          go_wp2_with fail
          have hG := hF.putRow 0 (g := gl) rfl 4 (.slice q B.recs.length c) (.pointer (some ⟨g, 0, none⟩)) [.int .i64 (B.which : Int), .int .i64 (A + 1), .int .i64 (B.pages : Int), .slice q B.recs.length c, .int .i64 0, .int .i64 0, .string ⟨#[]⟩] (by simp) rfl
          refine ⟨.inr (sameBest_of hF hG rfl rfl), ?_⟩
          clear hF a0 a1 a2 a3 a4 a5 a6 a7 e0 e1 e2 e3 e4 e5 e6 e7
          have hF := hG
          clear hG
          generalize World.setCell _ _ _ = w6 at *
          refine wpAnyTS_done (by kernel_rfl) ?_
          rintro w2 rfl
          go_upto_region 20 with fail
          obtain ⟨a0, a1, a2, a3, a4, a5, a6, a7, e0, e1, e2, e3, e4, e5, e6, e7⟩ := RowAt.c8 (hF.get 0 rfl)
          clear a0 a1 a2 a3 a4 a5 a6 a7 e0 e1 e2 e3 e4 e5 e6 e7
          refine wp_region_two Eq (SameAt ⟨gl, 4, none⟩) (sameAt_ok _) (by kernel_rfl) (by kernel_rfl) (by kernel_rfl) ?_
          replace hF := hF.next ((Below.refl _ _).drew)
          generalize World.drew _ = w2 at *
          refine wpAnyTS_quiet 0 12 6 103 (by rfl) (by kernel_rfl) (fun _ _ _ _ _ h => h) (by kernel_rfl) (by kernel_rfl) ?_
          apply Exists.intro
          refine ⟨fun w2' hw2 => ?_, ?_⟩
          · have hne := laterR_ne (R := Eq) eqOK' w2'
            have l1 := laterA (RowAt.c8 (hF.get 0 rfl)).2.2.2.2.1 hw2
            simp only [List.drop_zero, List.take_succ_cons, List.take_zero]
            repeat (go_big_quiet_step (fail))
            exact wpQuiet_nil rfl
          refine wpAnyTS_quiet 12 2 4 103 (by rfl) (by kernel_rfl) (fun _ _ _ _ _ h => h) (by kernel_rfl) (by kernel_rfl) ?_
          apply Exists.intro
          refine ⟨fun w2' hw2 => ?_, ?_⟩
          · have hne := laterR_ne (R := Eq) eqOK' w2'
            have l1 := laterA (RowAt.c8 (hF.get 0 rfl)).2.2.2.2.1 hw2
            simp only [List.drop_succ_cons, List.drop_zero, List.take_succ_cons, List.take_zero]
            repeat (go_big_quiet_step (fail))
            exact wpQuiet_nil rfl
          refine wpAnyTS_some 14 [] 3 (by rfl) (by kernel_rfl) (by kernel_rfl) ?_
          rintro w3 rfl
          refine ⟨?_, trivial⟩
          simp only [List.drop_succ_cons, List.drop_zero, List.take_succ_cons, List.take_zero]
          obtain ⟨a0, a1, a2, a3, a4, a5, a6, a7, e0, e1, e2, e3, e4, e5, e6, e7⟩ := RowAt.c8 (hF.get 0 rfl)
          go_wp2_with fail
          have hG := hF.putRow 0 (g := gl) rfl 5 (.int .i64 (B.recs.length : Int)) (.pointer (some ⟨g, 0, none⟩)) [.int .i64 (B.which : Int), .int .i64 (A + 1), .int .i64 (B.pages : Int), .slice q B.recs.length c, .int .i64 (B.recs.length : Int), .int .i64 0, .string ⟨#[]⟩] (by simp) rfl
          refine ⟨.inr ((RowAt.c8 (hG.get 0 rfl)).2.2.2.2.1.trans a4.symm), ?_⟩
          clear hF a0 a1 a2 a3 a4 a5 a6 a7 e0 e1 e2 e3 e4 e5 e6 e7
          have hF := hG
          clear hG
          generalize World.setCell _ _ _ = w5 at *
          refine wpAnyTS_quiet 15 2 1 103 (by rfl) (by kernel_rfl) (fun _ _ _ _ _ h => h) (by kernel_rfl) (by kernel_rfl) ?_
          apply Exists.intro
          refine ⟨fun w2' hw2 => ?_, ?_⟩
          · have hne := laterR_ne (R := Eq) eqOK' w2'
            have l1 := laterA (RowAt.c8 (hF.get 0 rfl)).2.2.2.2.1 hw2
            simp only [List.drop_succ_cons, List.drop_zero, List.take_succ_cons, List.take_zero]
            repeat (go_big_quiet_step (fail))
            exact wpQuiet_nil rfl
          refine wpAnyTS_some 17 [] 0 (by rfl) (by kernel_rfl) (by kernel_rfl) ?_
          rintro w3 rfl
          refine ⟨?_, trivial⟩
          simp only [List.drop_succ_cons, List.drop_zero, List.take_succ_cons, List.take_zero]
          obtain ⟨a0, a1, a2, a3, a4, a5, a6, a7, e0, e1, e2, e3, e4, e5, e6, e7⟩ := RowAt.c8 (hF.get 0 rfl)
          go_wp2_with fail
          have hG := hF.putRow 0 (g := gl) rfl 6 (.int .i64 (B.recs.length : Int)) (.pointer (some ⟨g, 0, none⟩)) [.int .i64 (B.which : Int), .int .i64 (A + 1), .int .i64 (B.pages : Int), .slice q B.recs.length c, .int .i64 (B.recs.length : Int), .int .i64 (B.recs.length : Int), .string ⟨#[]⟩] (by simp) rfl
          refine ⟨.inr ((RowAt.c8 (hG.get 0 rfl)).2.2.2.2.1.trans a4.symm), ?_⟩
          clear hF a0 a1 a2 a3 a4 a5 a6 a7 e0 e1 e2 e3 e4 e5 e6 e7
          have hF := hG
          clear hG
          generalize World.setCell _ _ _ = w5 at *
          refine wpAnyTS_done (by kernel_rfl) ?_
          rintro w2 rfl
          go_wp2_with fail
          refine bodyPost_ret (v := .tuple #[.pointer (some ⟨gl, 0, none⟩), .int .i64 0]) (by simp [results, Try.results12, go_sem]) rfl ?_
          refine .inr ⟨HO.out, gl, q, c, rfl, ?_⟩
          rw [HL.out, HBB.out]
          exact hF.sub (l' := logR gl (.pointer (some ⟨g, 0, none⟩)) ⟨B.which, A + 1, B.pages, B.recs, B.recs.length, B.recs.length, ByteArray.empty⟩ q c) (.cons_cons _ (.cons _ (.cons_cons _ (List.nil_sublist _))))
end Go.Proofs.Ytokpkkjgagbpfaa
