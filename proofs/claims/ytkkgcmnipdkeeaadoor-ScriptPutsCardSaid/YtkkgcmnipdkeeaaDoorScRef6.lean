/- Layer 24, the document's side: an act as a text. -/
import Derived.Test.YtkkgcmnipdkeeaaDoorScRef2
import Derived.Test.YtkkgcmnipdkeeaaDoorScWalk8
namespace Go.Proofs.YtkkgcmnipdkeeaaDoor
open Go.RowKit Bw
set_option linter.unusedVariables false
def nameRow : List Value := (List.range 12).map fun k => Value.string (nameS ((k : Nat) : Int))
set_option maxHeartbeats 8000000 in
set_option maxRecDepth 100000 in
theorem ref24_Show (a : ActD) (hl : a.f.length ≤ 1099511627776) (q : Option Addr) (c : Nat) (w : World) (hA : IntsAt w q a.f) :
    Calls Tryd.prog 15 #[actV a q c] w fun e w' => e = .returned (.string a.show') ∧ Below w.heap.size w w' := by
  have CR := Lib.hid (fun w h => ref24_Right a hl q c w h)
  have HA := Lib.hid hA
  clear hA
  cases hr : a.right
  · have he : a.show' = ⟨#[]⟩ := by rw [ActD.show', hr]; rfl
    rw [hr] at CR
    rw [he]
    clear he hr
    have hu := (Up.refl w).alloc (.cells #[.int .i64 a.k, .int .i64 a.t, .string a.key, .string a.val, .int .i64 a.n, .slice q a.f.length c] 28)
    have rp := RowAt.made w 28 [.int .i64 a.k, .int .i64 a.t, .string a.key, .string a.val, .int .i64 a.n, .slice q a.f.length c]
    obtain ⟨k, t, key, val, n, f⟩ := a
    simp only [actV] at *
    obtain ⟨⟨a0, a1, a2, a3, a4, a5⟩, -⟩ := RowAt.c6 rp
    go_enter Tryd.func15, Tryd.ntmps15
    go_wp2_with ((with_reducible refine (CR.out _ (HA.out.up hu)).mono ?_); rintro e wn ⟨rfl, hb⟩; replace hu := hu.next hb; clear hb)
    go_ret
    exact ⟨rfl, hu⟩
  · have o := ActD.ok hr
    have he : a.show' = str (nameL a.k.toNat ++ sT (bT a.k) a.t ++ sS (bK a.k) a.key ++ sS (bV a.k) a.val ++ sT (bN a.k) a.n ++ sF (bF a.k) ++ a.f.flatMap Lib.itoa) := by
      rw [ActD.show', if_pos hr, showL_parts a o.f0]
    rw [hr] at CR
    have CH := Lib.hid (fun w => ref24_Has a.k w)
    have HF := Lib.hid (flags_of a.k o.k0 o.k11)
    have HK := Lib.hid (And.intro o.k0 o.k11)
    rw [he]
    have HTt := Lib.hid (show bT a.k = true → 0 ≤ a.t ∧ a.t ≤ 255 from fun h => by have := o.t1 h; omega)
    have HFf := Lib.hid o.f0
    have HF2 := Lib.hid o.f1
    obtain ⟨hn0, hn1⟩ := o.n1
    have hkey := o.key1
    have hval := o.val1
    have hf60 := o.f2
    have hnm : (nameS a.k).size ≤ 6 := by unfold nameS; rw [size_str]; exact nameL_le _
    have HNM := Lib.hid (show str (nameL a.k.toNat) = nameS a.k from rfl)
    have HH := Lib.hid (show str (hasL a.k) = str ((if bT a.k then [116] else []) ++ ((if bK a.k then [107] else []) ++ ((if bV a.k then [118] else []) ++ ((if bN a.k then [110] else []) ++ (if bF a.k then [102] else []))))) from rfl)
    clear he hr o
    generalize hRR : str (nameL a.k.toNat ++ sT (bT a.k) a.t ++ sS (bK a.k) a.key ++ sS (bV a.k) a.val ++ sT (bN a.k) a.n ++ sF (bF a.k) ++ a.f.flatMap Lib.itoa) = R
    have HRR := Lib.hid hRR
    clear hRR
    obtain ⟨k, t, key, val, n, f⟩ := a
    simp only [actV] at *
    go_enter Tryd.func15, Tryd.ntmps15
    go_upto_region 1 with fail
    have hD := (Hold.start w).madeRow (.int .i64 k) [.int .i64 t, .string key, .string val, .int .i64 n, .slice q f.length c] 28
    simp only [List.nil_append] at hD
    generalize w.alloc _ = w0 at *
    replace hD : Hold w w0 [rowR w.heap.size (.int .i64 k) [.int .i64 t, .string key, .string val, .int .i64 n, .slice q f.length c]] := hD
    obtain ⟨⟨a0, a1, a2, a3, a4, a5⟩, -⟩ := RowAt.c6 (hD.get 0 rfl)
    go_upto_region 3 with ((with_reducible refine (CR.out _ (HA.out.up hD.up)).mono ?_); rintro e w1 ⟨rfl, hb⟩; replace hD := hD.next hb; clear hb; clear a0 a1 a2 a3 a4 a5; obtain ⟨⟨a0, a1, a2, a3, a4, a5⟩, -⟩ := RowAt.c6 (hD.get 0 rfl))
    clear CR
    go_cut [3, 4] (fun v3 v4 wx => v3 = .string (nameS k) ∧ v4 = .string (str (hasL k)) ∧ Hold w wx [rowR w.heap.size (.int .i64 k) [.int .i64 t, .string key, .string val, .int .i64 n, .slice q f.length c]])
    case first =>
      obtain ⟨k0, k1⟩ := HK.out
      have hk12 : k = 0 ∨ k = 1 ∨ k = 2 ∨ k = 3 ∨ k = 4 ∨ k = 5 ∨ k = 6 ∨ k = 7 ∨ k = 8 ∨ k = 9 ∨ k = 10 ∨ k = 11 := by omega
      clear HK HF HTt HFf HF2 HNM HH HRR hnm k0 k1 a1 a2 a3 a4 a5
      rcases hk12 with rfl | rfl | rfl | rfl | rfl | rfl | rfl | rfl | rfl | rfl | rfl | rfl
      all_goals
        refine wp_region_ssa (by kernel_rfl) (by kernel_rfl) (by kernel_rfl) ?_
        refine wpAnyS_quiet 1 2 8 75 (by kernel_rfl) (by kernel_rfl) (fun _ _ _ _ _ h => h) (by kernel_rfl) (by kernel_rfl) ?_
        apply Exists.intro
        refine ⟨fun w3 hw3 => ?_, ?_⟩
        · have hne := later_ne w3
          have l0 := Later.of_base a0 hw3
          simp only [List.drop_succ_cons, List.drop_zero, List.take_succ_cons, List.take_zero]
          repeat (go_big_quiet_step (fail))
          exact wpQuiet_nil rfl
        refine wpAnyS_quiet 5 3 5 75 (by kernel_rfl) (by kernel_rfl) (fun _ _ _ _ _ h => h) (by kernel_rfl) (by kernel_rfl) ?_
        apply Exists.intro
        refine ⟨fun w3 hw3 => ?_, ?_⟩
        · have hne := later_ne w3
          have l0 := Later.of_base a0 hw3
          simp only [List.drop_succ_cons, List.drop_zero, List.take_succ_cons, List.take_zero]
          repeat (go_big_quiet_step ((go_at_call 33; with_reducible exact Calls.later (CH.out _))))
          exact wpQuiet_nil rfl
        refine wpAnyS_one 0 4 (by kernel_rfl) (by kernel_rfl) (by kernel_rfl) ?_
        intro w2 hw2
        replace hD := hD.next hw2
        simp only [List.drop_zero, List.take_succ_cons, List.take_zero]
        go_wp2_with fail
        refine ⟨(Up.refl w2).alloc _, ?_⟩
        have rn := RowAt.made w2 9 nameRow
        replace hD := hD.next ((Below.refl _ w2).alloc (Nat.le_refl _) (.cells nameRow.toArray 9))
        clear a0
        refine wpAnyS_quiet 3 2 2 75 (by kernel_rfl) (by kernel_rfl) (fun _ _ _ _ _ h => h) (by kernel_rfl) (by kernel_rfl) ?_
        apply Exists.intro
        refine ⟨fun w3 hw3 => ?_, ?_⟩
        · have hne := later_ne w3
          have e0 : ∀ u : Later w3, u.world.cell? ⟨w2.heap.size, 0, none⟩ = some (.string (nameS 0)) := Later.of_base (rn.cell 0 (by decide)) hw3
          have e1 : ∀ u : Later w3, u.world.cell? ⟨w2.heap.size, 1, none⟩ = some (.string (nameS 1)) := Later.of_base (rn.cell 1 (by decide)) hw3
          have e2 : ∀ u : Later w3, u.world.cell? ⟨w2.heap.size, 2, none⟩ = some (.string (nameS 2)) := Later.of_base (rn.cell 2 (by decide)) hw3
          have e3 : ∀ u : Later w3, u.world.cell? ⟨w2.heap.size, 3, none⟩ = some (.string (nameS 3)) := Later.of_base (rn.cell 3 (by decide)) hw3
          have e4 : ∀ u : Later w3, u.world.cell? ⟨w2.heap.size, 4, none⟩ = some (.string (nameS 4)) := Later.of_base (rn.cell 4 (by decide)) hw3
          have e5 : ∀ u : Later w3, u.world.cell? ⟨w2.heap.size, 5, none⟩ = some (.string (nameS 5)) := Later.of_base (rn.cell 5 (by decide)) hw3
          have e6 : ∀ u : Later w3, u.world.cell? ⟨w2.heap.size, 6, none⟩ = some (.string (nameS 6)) := Later.of_base (rn.cell 6 (by decide)) hw3
          have e7 : ∀ u : Later w3, u.world.cell? ⟨w2.heap.size, 7, none⟩ = some (.string (nameS 7)) := Later.of_base (rn.cell 7 (by decide)) hw3
          have e8 : ∀ u : Later w3, u.world.cell? ⟨w2.heap.size, 8, none⟩ = some (.string (nameS 8)) := Later.of_base (rn.cell 8 (by decide)) hw3
          have e9 : ∀ u : Later w3, u.world.cell? ⟨w2.heap.size, 9, none⟩ = some (.string (nameS 9)) := Later.of_base (rn.cell 9 (by decide)) hw3
          have e10 : ∀ u : Later w3, u.world.cell? ⟨w2.heap.size, 10, none⟩ = some (.string (nameS 10)) := Later.of_base (rn.cell 10 (by decide)) hw3
          have e11 : ∀ u : Later w3, u.world.cell? ⟨w2.heap.size, 11, none⟩ = some (.string (nameS 11)) := Later.of_base (rn.cell 11 (by decide)) hw3
          simp only [List.drop_succ_cons, List.drop_zero, List.take_succ_cons, List.take_zero]
          repeat (go_big_quiet_step (fail))
          exact wpQuiet_nil rfl
        refine wpAnyS_quiet 8 2 0 75 (by kernel_rfl) (by kernel_rfl) (fun _ _ _ _ _ h => h) (by kernel_rfl) (by kernel_rfl) ?_
        apply Exists.intro
        refine ⟨fun w3 hw3 => ?_, ?_⟩
        · have hne := later_ne w3
          simp only [List.drop_succ_cons, List.drop_zero, List.take_succ_cons, List.take_zero]
          repeat (go_big_quiet_step (fail))
          exact wpQuiet_nil rfl
        refine wpAnyS_done (by kernel_rfl) ?_
        intro w5 hw5
        replace hD := hD.next hw5
        go_wp2_with fail
        go_meet
        exact ⟨rfl, rfl, hD⟩
    case rest =>
    clear hD a0 a1 a2 a3 a4 a5 CH HK
    obtain ⟨rfl, rfl, hD⟩ := hcut
    obtain ⟨⟨a0, a1, a2, a3, a4, a5⟩, -⟩ := RowAt.c6 (hD.get 0 rfl)
    generalize bT k = T at *
    generalize bK k = K at *
    generalize bV k = V at *
    generalize bN k = N at *
    generalize bF k = F at *
    generalize nameL k.toNat = NL at *
    generalize nameS k = NM at *
    generalize str (hasL k) = HS at *
    have CKx := Lib.hid (ref24_hex key (by omega))
    have CVx := Lib.hid (ref24_hex val (by omega))
    have CNx := Lib.hid (ref24_decimal n hn0 hn1)
    have xk : (str (hexL key)).size ≤ 40 := by rw [size_str]; simp only [hexL, List.length_cons]; have := hexB_len (lst key); unfold hexB at this; rw [this, lst_length]; omega
    have xv : (str (hexL val)).size ≤ 80 := by rw [size_str]; simp only [hexL, List.length_cons]; have := hexB_len (lst val); unfold hexB at this; rw [this, lst_length]; omega
    have xn : (str (Lib.itoa n)).size ≤ 4 := by rw [size_str]; exact itoa_len 3 hn0 (by omega)
    have sp : (⟨#[32]⟩ : ByteArray).size = 1 := rfl
    have sc : (⟨#[32, 58]⟩ : ByteArray).size = 2 := rfl
    have e1 : ∀ x : Int, (⟨#[32]⟩ : ByteArray) ++ str (Lib.itoa x) = str (numT x) := fun x => str_append [32] (Lib.itoa x)
    have e2 : (⟨#[32, 58]⟩ : ByteArray) = str [32, 58] := rfl
    rcases HF.out with ⟨rfl, rfl, rfl, rfl, rfl⟩ | ⟨rfl, rfl, rfl, rfl, rfl⟩ | ⟨rfl, rfl, rfl, rfl, rfl⟩ | ⟨rfl, rfl, rfl, rfl, rfl⟩ | ⟨rfl, rfl, rfl, rfl, rfl⟩ | ⟨rfl, rfl, rfl, rfl, rfl⟩
    · have hf := HFf.out rfl
      subst hf
      have hhs : HS = (⟨#[116]⟩ : ByteArray) := HH.out.trans rfl
      subst hhs
      have CT := Lib.hid (ref24_decimal t (HTt.out rfl).1 (HTt.out rfl).2)
      have xt : (str (Lib.itoa t)).size ≤ 4 := by rw [size_str]; exact itoa_len 3 (HTt.out rfl).1 (by have := HTt.out rfl; omega)
      have z0 : ¬ 9223372036854775807 < (⟨#[32]⟩ : ByteArray).size + (str (Lib.itoa t)).size := by omega
      have z1 : ¬ 9223372036854775807 < (NM).size + ((⟨#[32]⟩ : ByteArray) ++ str (Lib.itoa t)).size := by simp only [ByteArray.size_append]; omega
      have HG := Lib.hid (show NM ++ ((⟨#[32]⟩ : ByteArray) ++ str (Lib.itoa t)) = R by rw [← HRR.out, ← HNM.out]; simp only [e1, sT, sS, sF, if_true, Bool.false_eq_true, if_false, str_append, List.flatMap_nil, List.append_nil])
      clear xk xv xn sp sc e1 e2 hf60 HF2 HH xt
      generalize str (Lib.itoa t) = XT at *
      generalize str (Lib.itoa n) = XN at *
      generalize str (hexL key) = XK at *
      generalize str (hexL val) = XV at *
      go_wp2_with fail
      refine wp_loop_rounds 2 ?_
      rw [rounds_succ]
      go_wp2_with (first
        | ((with_reducible refine (CT.out _).mono ?_); rintro e wn ⟨rfl, hb⟩; replace hD := hD.next hb; clear hb; clear a0 a1 a2 a3 a4 a5; obtain ⟨⟨a0, a1, a2, a3, a4, a5⟩, -⟩ := RowAt.c6 (hD.get 0 rfl))
        | ((with_reducible refine (CKx.out _).mono ?_); rintro e wn ⟨rfl, hb⟩; replace hD := hD.next hb; clear hb; clear a0 a1 a2 a3 a4 a5; obtain ⟨⟨a0, a1, a2, a3, a4, a5⟩, -⟩ := RowAt.c6 (hD.get 0 rfl))
        | ((with_reducible refine (CVx.out _).mono ?_); rintro e wn ⟨rfl, hb⟩; replace hD := hD.next hb; clear hb; clear a0 a1 a2 a3 a4 a5; obtain ⟨⟨a0, a1, a2, a3, a4, a5⟩, -⟩ := RowAt.c6 (hD.get 0 rfl))
        | ((with_reducible refine (CNx.out _).mono ?_); rintro e wn ⟨rfl, hb⟩; replace hD := hD.next hb; clear hb; clear a0 a1 a2 a3 a4 a5; obtain ⟨⟨a0, a1, a2, a3, a4, a5⟩, -⟩ := RowAt.c6 (hD.get 0 rfl)))
      rw [rounds_succ]
      go_wp2_with fail
      go_ret
      exact ⟨by rw [← HG.out]; rfl, hD.up⟩
    · have hf := HFf.out rfl
      subst hf
      have hhs : HS = (⟨#[116, 107]⟩ : ByteArray) := HH.out.trans rfl
      subst hhs
      have CT := Lib.hid (ref24_decimal t (HTt.out rfl).1 (HTt.out rfl).2)
      have xt : (str (Lib.itoa t)).size ≤ 4 := by rw [size_str]; exact itoa_len 3 (HTt.out rfl).1 (by have := HTt.out rfl; omega)
      have z0 : ¬ 9223372036854775807 < (⟨#[32]⟩ : ByteArray).size + (str (Lib.itoa t)).size := by omega
      have z1 : ¬ 9223372036854775807 < (NM).size + ((⟨#[32]⟩ : ByteArray) ++ str (Lib.itoa t)).size := by simp only [ByteArray.size_append]; omega
      have z2 : ¬ 9223372036854775807 < (NM ++ ((⟨#[32]⟩ : ByteArray) ++ str (Lib.itoa t))).size + (str (hexL key)).size := by simp only [ByteArray.size_append]; omega
      have HG := Lib.hid (show NM ++ ((⟨#[32]⟩ : ByteArray) ++ str (Lib.itoa t)) ++ str (hexL key) = R by rw [← HRR.out, ← HNM.out]; simp only [e1, sT, sS, sF, if_true, Bool.false_eq_true, if_false, str_append, List.flatMap_nil, List.append_nil])
      clear xk xv xn sp sc e1 e2 hf60 HF2 HH xt
      generalize str (Lib.itoa t) = XT at *
      generalize str (Lib.itoa n) = XN at *
      generalize str (hexL key) = XK at *
      generalize str (hexL val) = XV at *
      go_wp2_with fail
      refine wp_loop_rounds 3 ?_
      rw [rounds_succ]
      go_wp2_with (first
        | ((with_reducible refine (CT.out _).mono ?_); rintro e wn ⟨rfl, hb⟩; replace hD := hD.next hb; clear hb; clear a0 a1 a2 a3 a4 a5; obtain ⟨⟨a0, a1, a2, a3, a4, a5⟩, -⟩ := RowAt.c6 (hD.get 0 rfl))
        | ((with_reducible refine (CKx.out _).mono ?_); rintro e wn ⟨rfl, hb⟩; replace hD := hD.next hb; clear hb; clear a0 a1 a2 a3 a4 a5; obtain ⟨⟨a0, a1, a2, a3, a4, a5⟩, -⟩ := RowAt.c6 (hD.get 0 rfl))
        | ((with_reducible refine (CVx.out _).mono ?_); rintro e wn ⟨rfl, hb⟩; replace hD := hD.next hb; clear hb; clear a0 a1 a2 a3 a4 a5; obtain ⟨⟨a0, a1, a2, a3, a4, a5⟩, -⟩ := RowAt.c6 (hD.get 0 rfl))
        | ((with_reducible refine (CNx.out _).mono ?_); rintro e wn ⟨rfl, hb⟩; replace hD := hD.next hb; clear hb; clear a0 a1 a2 a3 a4 a5; obtain ⟨⟨a0, a1, a2, a3, a4, a5⟩, -⟩ := RowAt.c6 (hD.get 0 rfl)))
      rw [rounds_succ]
      go_wp2_with (first
        | ((with_reducible refine (CT.out _).mono ?_); rintro e wn ⟨rfl, hb⟩; replace hD := hD.next hb; clear hb; clear a0 a1 a2 a3 a4 a5; obtain ⟨⟨a0, a1, a2, a3, a4, a5⟩, -⟩ := RowAt.c6 (hD.get 0 rfl))
        | ((with_reducible refine (CKx.out _).mono ?_); rintro e wn ⟨rfl, hb⟩; replace hD := hD.next hb; clear hb; clear a0 a1 a2 a3 a4 a5; obtain ⟨⟨a0, a1, a2, a3, a4, a5⟩, -⟩ := RowAt.c6 (hD.get 0 rfl))
        | ((with_reducible refine (CVx.out _).mono ?_); rintro e wn ⟨rfl, hb⟩; replace hD := hD.next hb; clear hb; clear a0 a1 a2 a3 a4 a5; obtain ⟨⟨a0, a1, a2, a3, a4, a5⟩, -⟩ := RowAt.c6 (hD.get 0 rfl))
        | ((with_reducible refine (CNx.out _).mono ?_); rintro e wn ⟨rfl, hb⟩; replace hD := hD.next hb; clear hb; clear a0 a1 a2 a3 a4 a5; obtain ⟨⟨a0, a1, a2, a3, a4, a5⟩, -⟩ := RowAt.c6 (hD.get 0 rfl)))
      rw [rounds_succ]
      go_wp2_with fail
      go_ret
      exact ⟨by rw [← HG.out]; rfl, hD.up⟩
    · have hf := HFf.out rfl
      subst hf
      have hhs : HS = (⟨#[116, 107, 118]⟩ : ByteArray) := HH.out.trans rfl
      subst hhs
      have CT := Lib.hid (ref24_decimal t (HTt.out rfl).1 (HTt.out rfl).2)
      have xt : (str (Lib.itoa t)).size ≤ 4 := by rw [size_str]; exact itoa_len 3 (HTt.out rfl).1 (by have := HTt.out rfl; omega)
      have z0 : ¬ 9223372036854775807 < (⟨#[32]⟩ : ByteArray).size + (str (Lib.itoa t)).size := by omega
      have z1 : ¬ 9223372036854775807 < (NM).size + ((⟨#[32]⟩ : ByteArray) ++ str (Lib.itoa t)).size := by simp only [ByteArray.size_append]; omega
      have z2 : ¬ 9223372036854775807 < (NM ++ ((⟨#[32]⟩ : ByteArray) ++ str (Lib.itoa t))).size + (str (hexL key)).size := by simp only [ByteArray.size_append]; omega
      have z3 : ¬ 9223372036854775807 < (NM ++ ((⟨#[32]⟩ : ByteArray) ++ str (Lib.itoa t)) ++ str (hexL key)).size + (str (hexL val)).size := by simp only [ByteArray.size_append]; omega
      have HG := Lib.hid (show NM ++ ((⟨#[32]⟩ : ByteArray) ++ str (Lib.itoa t)) ++ str (hexL key) ++ str (hexL val) = R by rw [← HRR.out, ← HNM.out]; simp only [e1, sT, sS, sF, if_true, Bool.false_eq_true, if_false, str_append, List.flatMap_nil, List.append_nil])
      clear xk xv xn sp sc e1 e2 hf60 HF2 HH xt
      generalize str (Lib.itoa t) = XT at *
      generalize str (Lib.itoa n) = XN at *
      generalize str (hexL key) = XK at *
      generalize str (hexL val) = XV at *
      go_wp2_with fail
      refine wp_loop_rounds 4 ?_
      rw [rounds_succ]
      go_wp2_with (first
        | ((with_reducible refine (CT.out _).mono ?_); rintro e wn ⟨rfl, hb⟩; replace hD := hD.next hb; clear hb; clear a0 a1 a2 a3 a4 a5; obtain ⟨⟨a0, a1, a2, a3, a4, a5⟩, -⟩ := RowAt.c6 (hD.get 0 rfl))
        | ((with_reducible refine (CKx.out _).mono ?_); rintro e wn ⟨rfl, hb⟩; replace hD := hD.next hb; clear hb; clear a0 a1 a2 a3 a4 a5; obtain ⟨⟨a0, a1, a2, a3, a4, a5⟩, -⟩ := RowAt.c6 (hD.get 0 rfl))
        | ((with_reducible refine (CVx.out _).mono ?_); rintro e wn ⟨rfl, hb⟩; replace hD := hD.next hb; clear hb; clear a0 a1 a2 a3 a4 a5; obtain ⟨⟨a0, a1, a2, a3, a4, a5⟩, -⟩ := RowAt.c6 (hD.get 0 rfl))
        | ((with_reducible refine (CNx.out _).mono ?_); rintro e wn ⟨rfl, hb⟩; replace hD := hD.next hb; clear hb; clear a0 a1 a2 a3 a4 a5; obtain ⟨⟨a0, a1, a2, a3, a4, a5⟩, -⟩ := RowAt.c6 (hD.get 0 rfl)))
      rw [rounds_succ]
      go_wp2_with (first
        | ((with_reducible refine (CT.out _).mono ?_); rintro e wn ⟨rfl, hb⟩; replace hD := hD.next hb; clear hb; clear a0 a1 a2 a3 a4 a5; obtain ⟨⟨a0, a1, a2, a3, a4, a5⟩, -⟩ := RowAt.c6 (hD.get 0 rfl))
        | ((with_reducible refine (CKx.out _).mono ?_); rintro e wn ⟨rfl, hb⟩; replace hD := hD.next hb; clear hb; clear a0 a1 a2 a3 a4 a5; obtain ⟨⟨a0, a1, a2, a3, a4, a5⟩, -⟩ := RowAt.c6 (hD.get 0 rfl))
        | ((with_reducible refine (CVx.out _).mono ?_); rintro e wn ⟨rfl, hb⟩; replace hD := hD.next hb; clear hb; clear a0 a1 a2 a3 a4 a5; obtain ⟨⟨a0, a1, a2, a3, a4, a5⟩, -⟩ := RowAt.c6 (hD.get 0 rfl))
        | ((with_reducible refine (CNx.out _).mono ?_); rintro e wn ⟨rfl, hb⟩; replace hD := hD.next hb; clear hb; clear a0 a1 a2 a3 a4 a5; obtain ⟨⟨a0, a1, a2, a3, a4, a5⟩, -⟩ := RowAt.c6 (hD.get 0 rfl)))
      rw [rounds_succ]
      go_wp2_with (first
        | ((with_reducible refine (CT.out _).mono ?_); rintro e wn ⟨rfl, hb⟩; replace hD := hD.next hb; clear hb; clear a0 a1 a2 a3 a4 a5; obtain ⟨⟨a0, a1, a2, a3, a4, a5⟩, -⟩ := RowAt.c6 (hD.get 0 rfl))
        | ((with_reducible refine (CKx.out _).mono ?_); rintro e wn ⟨rfl, hb⟩; replace hD := hD.next hb; clear hb; clear a0 a1 a2 a3 a4 a5; obtain ⟨⟨a0, a1, a2, a3, a4, a5⟩, -⟩ := RowAt.c6 (hD.get 0 rfl))
        | ((with_reducible refine (CVx.out _).mono ?_); rintro e wn ⟨rfl, hb⟩; replace hD := hD.next hb; clear hb; clear a0 a1 a2 a3 a4 a5; obtain ⟨⟨a0, a1, a2, a3, a4, a5⟩, -⟩ := RowAt.c6 (hD.get 0 rfl))
        | ((with_reducible refine (CNx.out _).mono ?_); rintro e wn ⟨rfl, hb⟩; replace hD := hD.next hb; clear hb; clear a0 a1 a2 a3 a4 a5; obtain ⟨⟨a0, a1, a2, a3, a4, a5⟩, -⟩ := RowAt.c6 (hD.get 0 rfl)))
      rw [rounds_succ]
      go_wp2_with fail
      go_ret
      exact ⟨by rw [← HG.out]; rfl, hD.up⟩
    · have hf := HFf.out rfl
      subst hf
      have hhs : HS = (⟨#[116, 107, 110]⟩ : ByteArray) := HH.out.trans rfl
      subst hhs
      have CT := Lib.hid (ref24_decimal t (HTt.out rfl).1 (HTt.out rfl).2)
      have xt : (str (Lib.itoa t)).size ≤ 4 := by rw [size_str]; exact itoa_len 3 (HTt.out rfl).1 (by have := HTt.out rfl; omega)
      have z0 : ¬ 9223372036854775807 < (⟨#[32]⟩ : ByteArray).size + (str (Lib.itoa t)).size := by omega
      have z1 : ¬ 9223372036854775807 < (NM).size + ((⟨#[32]⟩ : ByteArray) ++ str (Lib.itoa t)).size := by simp only [ByteArray.size_append]; omega
      have z2 : ¬ 9223372036854775807 < (NM ++ ((⟨#[32]⟩ : ByteArray) ++ str (Lib.itoa t))).size + (str (hexL key)).size := by simp only [ByteArray.size_append]; omega
      have z3 : ¬ 9223372036854775807 < (⟨#[32]⟩ : ByteArray).size + (str (Lib.itoa n)).size := by omega
      have z4 : ¬ 9223372036854775807 < (NM ++ ((⟨#[32]⟩ : ByteArray) ++ str (Lib.itoa t)) ++ str (hexL key)).size + ((⟨#[32]⟩ : ByteArray) ++ str (Lib.itoa n)).size := by simp only [ByteArray.size_append]; omega
      have HG := Lib.hid (show NM ++ ((⟨#[32]⟩ : ByteArray) ++ str (Lib.itoa t)) ++ str (hexL key) ++ ((⟨#[32]⟩ : ByteArray) ++ str (Lib.itoa n)) = R by rw [← HRR.out, ← HNM.out]; simp only [e1, sT, sS, sF, if_true, Bool.false_eq_true, if_false, str_append, List.flatMap_nil, List.append_nil])
      clear xk xv xn sp sc e1 e2 hf60 HF2 HH xt
      generalize str (Lib.itoa t) = XT at *
      generalize str (Lib.itoa n) = XN at *
      generalize str (hexL key) = XK at *
      generalize str (hexL val) = XV at *
      go_wp2_with fail
      refine wp_loop_rounds 4 ?_
      rw [rounds_succ]
      go_wp2_with (first
        | ((with_reducible refine (CT.out _).mono ?_); rintro e wn ⟨rfl, hb⟩; replace hD := hD.next hb; clear hb; clear a0 a1 a2 a3 a4 a5; obtain ⟨⟨a0, a1, a2, a3, a4, a5⟩, -⟩ := RowAt.c6 (hD.get 0 rfl))
        | ((with_reducible refine (CKx.out _).mono ?_); rintro e wn ⟨rfl, hb⟩; replace hD := hD.next hb; clear hb; clear a0 a1 a2 a3 a4 a5; obtain ⟨⟨a0, a1, a2, a3, a4, a5⟩, -⟩ := RowAt.c6 (hD.get 0 rfl))
        | ((with_reducible refine (CVx.out _).mono ?_); rintro e wn ⟨rfl, hb⟩; replace hD := hD.next hb; clear hb; clear a0 a1 a2 a3 a4 a5; obtain ⟨⟨a0, a1, a2, a3, a4, a5⟩, -⟩ := RowAt.c6 (hD.get 0 rfl))
        | ((with_reducible refine (CNx.out _).mono ?_); rintro e wn ⟨rfl, hb⟩; replace hD := hD.next hb; clear hb; clear a0 a1 a2 a3 a4 a5; obtain ⟨⟨a0, a1, a2, a3, a4, a5⟩, -⟩ := RowAt.c6 (hD.get 0 rfl)))
      rw [rounds_succ]
      go_wp2_with (first
        | ((with_reducible refine (CT.out _).mono ?_); rintro e wn ⟨rfl, hb⟩; replace hD := hD.next hb; clear hb; clear a0 a1 a2 a3 a4 a5; obtain ⟨⟨a0, a1, a2, a3, a4, a5⟩, -⟩ := RowAt.c6 (hD.get 0 rfl))
        | ((with_reducible refine (CKx.out _).mono ?_); rintro e wn ⟨rfl, hb⟩; replace hD := hD.next hb; clear hb; clear a0 a1 a2 a3 a4 a5; obtain ⟨⟨a0, a1, a2, a3, a4, a5⟩, -⟩ := RowAt.c6 (hD.get 0 rfl))
        | ((with_reducible refine (CVx.out _).mono ?_); rintro e wn ⟨rfl, hb⟩; replace hD := hD.next hb; clear hb; clear a0 a1 a2 a3 a4 a5; obtain ⟨⟨a0, a1, a2, a3, a4, a5⟩, -⟩ := RowAt.c6 (hD.get 0 rfl))
        | ((with_reducible refine (CNx.out _).mono ?_); rintro e wn ⟨rfl, hb⟩; replace hD := hD.next hb; clear hb; clear a0 a1 a2 a3 a4 a5; obtain ⟨⟨a0, a1, a2, a3, a4, a5⟩, -⟩ := RowAt.c6 (hD.get 0 rfl)))
      rw [rounds_succ]
      go_wp2_with (first
        | ((with_reducible refine (CT.out _).mono ?_); rintro e wn ⟨rfl, hb⟩; replace hD := hD.next hb; clear hb; clear a0 a1 a2 a3 a4 a5; obtain ⟨⟨a0, a1, a2, a3, a4, a5⟩, -⟩ := RowAt.c6 (hD.get 0 rfl))
        | ((with_reducible refine (CKx.out _).mono ?_); rintro e wn ⟨rfl, hb⟩; replace hD := hD.next hb; clear hb; clear a0 a1 a2 a3 a4 a5; obtain ⟨⟨a0, a1, a2, a3, a4, a5⟩, -⟩ := RowAt.c6 (hD.get 0 rfl))
        | ((with_reducible refine (CVx.out _).mono ?_); rintro e wn ⟨rfl, hb⟩; replace hD := hD.next hb; clear hb; clear a0 a1 a2 a3 a4 a5; obtain ⟨⟨a0, a1, a2, a3, a4, a5⟩, -⟩ := RowAt.c6 (hD.get 0 rfl))
        | ((with_reducible refine (CNx.out _).mono ?_); rintro e wn ⟨rfl, hb⟩; replace hD := hD.next hb; clear hb; clear a0 a1 a2 a3 a4 a5; obtain ⟨⟨a0, a1, a2, a3, a4, a5⟩, -⟩ := RowAt.c6 (hD.get 0 rfl)))
      rw [rounds_succ]
      go_wp2_with fail
      go_ret
      exact ⟨by rw [← HG.out]; rfl, hD.up⟩
    · have hf := HFf.out rfl
      subst hf
      have hhs : HS = (⟨#[]⟩ : ByteArray) := HH.out.trans rfl
      subst hhs
      have HG := Lib.hid (show NM = R by rw [← HRR.out, ← HNM.out]; simp only [e1, sT, sS, sF, if_true, Bool.false_eq_true, if_false, str_append, List.flatMap_nil, List.append_nil])
      clear xk xv xn sp sc e1 e2 hf60 HF2 HH
      generalize str (Lib.itoa n) = XN at *
      generalize str (hexL key) = XK at *
      generalize str (hexL val) = XV at *
      go_wp2_with fail
      refine wp_loop_rounds 1 ?_
      rw [rounds_succ]
      go_wp2_with fail
      go_ret
      exact ⟨by rw [← HG.out]; rfl, hD.up⟩
    · have hhs : HS = (⟨#[102]⟩ : ByteArray) := HH.out.trans rfl
      subst hhs
      have z1 : ¬ 9223372036854775807 < NM.size + (⟨#[32, 58]⟩ : ByteArray).size := by omega
      have HG := Lib.hid (show str (NL ++ [32, 58] ++ f.flatMap Lib.itoa) = R by rw [← HRR.out]; simp only [sT, sS, sF, if_true, Bool.false_eq_true, if_false, List.append_nil])
      have HS2 := Lib.hid (show NM ++ (⟨#[32, 58]⟩ : ByteArray) = str (NL ++ [32, 58]) by rw [← HNM.out, e2, str_append])
      have hb2 : (NL ++ [32, 58]).length ≤ 8 := by
        have h1 := hnm
        rw [← HNM.out, size_str] at h1
        rw [List.length_append]
        simp only [List.length_cons, List.length_nil]
        omega
      have LA := Lib.hid (show ∀ m, ((f.take m).flatMap Lib.itoa).length ≤ 240 from fun m => by
        have h1 := fatesT_len (f.take m) (fun x hx => HF2.out x (List.mem_of_mem_take hx))
        have h2 := hf60
        rw [List.length_take] at h1
        omega)
      clear xk xv xn sp sc e1 e2 CKx CVx CNx HTt HRR HNM HH
      generalize hX1 : NL ++ [32, 58] = X1 at *
      clear hX1
      go_wp2_with fail
      refine wp_loop_rounds 2 ?_
      rw [rounds_succ]
      go_wp2_with fail
      rw [HS2.out]
      go_loopw [3, 6] (fun v3 v6 wr => ∃ m : Nat, m ≤ f.length ∧ v6 = .int .i64 m ∧ v3 = .string (str (X1 ++ (f.take m).flatMap Lib.itoa)) ∧ Hold w wr [rowR w.heap.size (.int .i64 k) [.int .i64 t, .string key, .string val, .int .i64 n, .slice q f.length c]]) (fun _ v _ => f.length - (intOf v).toNat)
      case atStart => exact ⟨0, by omega, rfl, by simp, hD⟩
      case round =>
      clear hD a0 a1 a2 a3 a4 a5
      obtain ⟨m, hm, rfl, rfl, hD⟩ := hrel
      obtain ⟨⟨a0, a1, a2, a3, a4, a5⟩, -⟩ := RowAt.c6 (hD.get 0 rfl)
      have i0 : (0 : Int) ≤ (m : Int) := by omega
      have i2 : (f.length : Int) ≤ 60 := by omega
      by_cases hlt : m < f.length
      · have b1 : (m : Int) < (f.length : Int) := by omega
        obtain ⟨g, o, rfl, e1⟩ := (HA.out.up hD.up) m hlt
        have hx := HF2.out _ (List.getElem_mem hlt)
        have HT := Lib.hid (fatesT_take f m hlt)
        have hlen := LA.out m
        generalize f[m] = x at *
        have C1 := Lib.hid (ref24_decimal x hx.1 (by omega))
        have xx : (str (Lib.itoa x)).size ≤ 4 := by rw [size_str]; exact itoa_len 3 hx.1 (by omega)
        have z3 : ¬ 9223372036854775807 < (str (X1 ++ (f.take m).flatMap Lib.itoa)).size + (str (Lib.itoa x)).size := by
          rw [size_str (X1 ++ _), List.length_append]; omega
        have HS3 := Lib.hid (show str (X1 ++ (f.take m).flatMap Lib.itoa) ++ str (Lib.itoa x) = str (X1 ++ (f.take (m + 1)).flatMap Lib.itoa) by rw [str_append, HT.out, List.append_assoc])
        clear xx hlen
        generalize str (Lib.itoa x) = XX at *
        generalize (f.take m).flatMap Lib.itoa = FM at *
        go_wp2_with ((with_reducible refine (C1.out _).mono ?_); rintro e wn ⟨rfl, hb⟩; replace hD := hD.next hb; clear hb e1 a0 a1 a2 a3 a4 a5)
        go_roundw
        case rel =>
          first
            | exact ⟨m + 1, by omega, by go_num, by rw [HS3.out], hD⟩
            | exact ⟨_, _, _, _, _, _, _, _, _, _, _, _, _, _, _, _, ⟨m + 1, by omega, by go_num, by rw [HS3.out], hD⟩, rfl⟩
            | exact ⟨_, _, _, _, _, _, _, _, _, _, _, _, _, _, _, _, _, ⟨m + 1, by omega, by go_num, by rw [HS3.out], hD⟩, rfl⟩
            | exact ⟨_, _, _, _, _, _, _, _, _, _, _, _, _, _, _, _, _, _, ⟨m + 1, by omega, by go_num, by rw [HS3.out], hD⟩, rfl⟩
            | exact ⟨_, _, _, _, _, _, _, _, _, _, _, _, _, _, _, _, _, _, _, ⟨m + 1, by omega, by go_num, by rw [HS3.out], hD⟩, rfl⟩
        case measure => simp [intOf]; omega
      · have hml : m = f.length := by omega
        subst hml
        rw [List.take_length, HG.out]
        go_wp2_with fail
        rw [rounds_succ]
        go_wp2_with fail
        go_ret
        exact ⟨rfl, hD.up⟩
end Go.Proofs.YtkkgcmnipdkeeaaDoor
