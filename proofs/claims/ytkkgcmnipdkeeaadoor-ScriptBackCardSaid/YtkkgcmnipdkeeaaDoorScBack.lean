import Derived.Test.YtkkgcmnipdkeeaaDoorScJoin
import Derived.Test.YtkkgcmnipdkeeaaDoorScOpen
namespace Bw
open Go Go.RowKit
theorem hold_weaken {W w : World} {l : List Res} {R : Res} (h : Hold W w l) (i : Nat) (hi : l[i]? = some R) (R' : Res) (hR : R'.holds w) (hT : ∀ k, R'.has k → R.has k) : Hold W w (l.set i R') :=
  h.step i hi R' hR (fun k hk => .inl (hT k hk)) (AllS.refl _ w)
theorem Hold.fatesDrop {W w : World} {A B : Res} {l : List ActI} {p : ActI} (h : Hold W w [A, fatesM (l ++ [p]), B]) : Hold W w [A, fatesM l] := by
  have h2 := hold_weaken h 1 rfl (fatesM l) (fun x hx => h.get 1 rfl x (List.mem_append_left _ hx)) (fun k hk => by obtain ⟨x, hx, hk⟩ := hk; exact ⟨x, List.mem_append_left _ hx, hk⟩)
  exact h2.sub (l' := [A, fatesM l]) (List.sublist_append_left [_, _] [_])
theorem encL_le {a : ActD} (h : a.right = true) : a.encL.length ≤ 200 := by
  have o := ActD.ok h
  have h1 : ∀ n : Int, (numL n 1).length = 1 := fun n => by rw [numL, toLE_length]
  have h2 := o.key1
  have h3 := o.val1
  have h4 := o.f2
  have h5 : ∀ s : ByteArray, (textL s).length ≤ s.size + 1 := fun s => by
    unfold textL
    simp [lst_length]
  have h6 : (onesL a.f).length = a.f.length := by
    generalize a.f = l
    induction l with
    | nil => rfl
    | cons n l ih => simp only [onesL, List.flatMap_cons, List.length_append, List.length_cons] at *; rw [h1, ih]; omega
  have h7 := h5 a.key
  have h8 := h5 a.val
  unfold ActD.encL
  have k1 : (if bT a.k then numL a.t 1 else []).length ≤ 1 := by split <;> simp [h1]
  have k2 : (if bK a.k then textL a.key else []).length ≤ 17 := by
    split
    · omega
    · simp
  have k3 : (if bV a.k then textL a.val else []).length ≤ 33 := by
    split
    · omega
    · simp
  have k4 : (if bN a.k then numL a.n 1 else []).length ≤ 1 := by split <;> simp [h1]
  have k5 : (if bF a.k then numL a.f.length 1 ++ onesL a.f else []).length ≤ 61 := by
    split
    · rw [List.length_append, h1, h6]; omega
    · simp
  rw [List.length_append, List.length_append, List.length_append, List.length_append, List.length_append, h1]
  omega
theorem actsL_le : ∀ (l : List ActD), (∀ a ∈ l, a.right = true) → (actsL l).length ≤ 200 * l.length
  | [], _ => Nat.le_refl 0
  | a :: l, h => by
    have h1 := actsL_le l (fun x hx => h x (by simp [hx]))
    have h2 := encL_le (h a (by simp))
    have : actsL (a :: l) = a.encL ++ actsL l := rfl
    rw [this, List.length_append, List.length_cons]; omega
theorem actsL_one (a : ActD) : actsL [a] = a.encL := by simp [actsL]
end Bw
namespace Go.Proofs.YtkkgcmnipdkeeaaDoor
open Go.RowKit Bw
set_option linter.unusedVariables false
/-- The law's Cut among things held. -/
theorem hold_cutB {W w : World} {l : List Res} (h : Hold W w l) {a : ActD} {q : Option Addr} {c : Nat} (ha : ActIn w a q c) :
    Calls Tryd.prog 8 #[actV a q c] w fun e w' => ∃ q' c', e = .returned (actV a.cut q' c') ∧ Hold W w' (l ++ [intsR q' a.cut.f]) := by
  obtain ⟨h1, h2, h3, h4, h5, h6, h7, h8, h9, h10⟩ := ha
  refine (law24_Cut a q c w h10 (by unfold maxLen at *; omega) h6 h7 h8 h3 h4).mono fun e w' ⟨q', c', he, hi, hq, hu⟩ => ⟨q', c', he, ?_⟩
  exact h.add hu (intsR q' a.cut.f) hi (fun k hk => by obtain ⟨x, hx, rfl⟩ := hk; exact hq x hx)
theorem cut_lenB (a : ActD) : a.cut.f.length ≤ 80 := by
  show (a.f.take 80).length ≤ 80
  rw [List.length_take]; omega
set_option maxHeartbeats 8000000 in
set_option maxRecDepth 100000 in
theorem back_law (a : Option Addr) (n c : Nat) (f : Nat → ActD) (pa : Nat → Option Addr) (ca : Nat → Nat) (hn : n ≤ maxLen) (s : ByteArray) (hs : s.size ≤ maxLen) (w : World) (hA : ActsAt w a n f pa ca) (ht : Tab w) :
    Calls Tryd.prog 5 #[.slice a n c, .string s] w fun e w' => e = .returned (.bool true) ∧ Below w.heap.size w w' := by
  have HT := Lib.hid ht
  have HA := Lib.hid hA
  clear ht hA
  unfold maxLen at hs hn
  obtain ⟨S, hS⟩ : ∃ S, s.extract 0 (min (s.size : Int) 1500).toNat = S := ⟨_, rfl⟩
  have hS1 : S.size ≤ 1500 := by rw [← hS, ByteArray.size_extract]; omega
  have HS := Lib.hid hS
  clear hS
  have CF := Lib.hid (fun w h => law24_fixed w h)
  obtain ⟨inf, hi0', hz0, hz1, hz2⟩ := infoAct
  have i9 : (n : Int) ≤ 9223372036854775807 := by omega
  go_enter Tryd.func5, Tryd.ntmps5
  have hD : Hold w (w.alloc (.cells #[] 24)) [ownZ 24 6 (.slice (some ⟨w.heap.size, 0, none⟩) (([] : List ActI)).length 0) (([] : List ActI)).length (actsC (([] : List ActI))), fatesM (([] : List ActI))] := ((Hold.start w).madeZ 24 6).fates0
  go_wp2_with fail
  go_loopw [5, 6, 7] (fun v5 v6 v7 wr => ∃ (i : Nat) (q : Option Addr) (c : Nat) (I : List ActI), i ≤ 60 ∧ i ≤ n ∧ v7 = .int .i64 i ∧ v5 = .string (str (actsL (I.map (·.1)))) ∧ v6 = .slice q I.length c ∧ Hold w wr [ownZ 24 6 (.slice (q) (I).length c) (I).length (actsC (I)), fatesM (I)] ∧ (∀ x ∈ I.map (·.1), x.right = true) ∧ I.length ≤ i) (fun _ _ v _ => 60 - (intOf v).toNat)
  case atStart => exact ⟨0, _, 0, [], by omega, by omega, rfl, rfl, rfl, hD, by simp, by simp⟩
  case round =>
  clear hD
  obtain ⟨i, q, c, I, hi6, hin, rfl, rfl, rfl, hD, hr, hIl⟩ := hrel
  have i0 : (0 : Int) ≤ (i : Int) := by omega
  by_cases hgo : i < n ∧ i < 60
  · obtain ⟨hg1, hg2⟩ := hgo
    have b1 : (i : Int) < (n : Int) := by omega
    have b2 : (i : Int) < 60 := by omega
    obtain ⟨hai, g, o, rfl, hc⟩ := (HA.out.up hD.up) i hg1
    have hcl := cut_lenB (f i)
    have CA := fun (W w : World) (l : List Res) (h : Hold W w l) (ha : ActIn w (f i) (pa i) (ca i)) => hold_cutB h ha
    obtain ⟨x, hx⟩ : ∃ x, (f i).cut = x := ⟨_, rfl⟩
    rw [hx] at hcl CA
    clear hx
    generalize f i = y at *
    generalize pa i = py at *
    generalize ca i = cy at *
    obtain ⟨ak, att, akey, aval, an, af⟩ := y
    obtain ⟨xk, xt, xkey, xval, xn, xf⟩ := x
    simp only [actV] at CA
    simp only [actC] at hc
    simp only at hcl
    have HAI := Lib.hid hai
    replace CA := Lib.hid CA
    have a0 : wr.cell? ⟨g, o + i * 6, none⟩ = _ := hc 0 (by omega)
    have a1 := hc 1 (by omega); have a2 := hc 2 (by omega); have a3 := hc 3 (by omega); have a4 := hc 4 (by omega); have a5 := hc 5 (by omega)
    simp only [List.getElem?_cons_zero, List.getElem?_cons_succ] at a0 a1 a2 a3 a4 a5
    clear hc hai
    go_upto_region 6 with ((with_reducible refine (CA.out _ _ _ hD HAI.out).mono ?_); rintro e w1 ⟨q1, c1, rfl, hw⟩; clear hD; have hD := hw; clear hw)
    clear a0 a1 a2 a3 a4 a5
    replace hD := Hold.fates2 (a := ⟨xk, xt, xkey, xval, xn, xf⟩) (c := c1) hD
    replace hD := hD.madeRow (.int .i64 xk) [.int .i64 xt, .string xkey, .string xval, .int .i64 xn, .slice q1 xf.length c1] 24
    generalize w1.heap.size = ga at *
    generalize w1.alloc _ = w2 at *
    replace hD : Hold w w2 [ownZ 24 6 (.slice q I.length c) I.length (actsC I), fatesM (I ++ [((ActD.mk xk xt xkey xval xn xf), q1, c1)]), rowR ga (.int .i64 xk) [.int .i64 xt, .string xkey, .string xval, .int .i64 xn, .slice q1 xf.length c1]] := hD
    have hIX := ((hD.get 1 rfl) ((ActD.mk xk xt xkey xval xn xf), q1, c1) (by simp)).1
    have HIX := Lib.hid hIX
    have hu2 := Up.refl w2
    clear hIX
    have lx : xf.length ≤ 1099511627776 := by omega
    have CE := Lib.hid (fun w h => script_Encode ⟨xk, xt, xkey, xval, xn, xf⟩ lx q1 c1 w h)
    have CR := Lib.hid (fun w h => script_Right ⟨xk, xt, xkey, xval, xn, xf⟩ lx q1 c1 w h)
    simp only [actV] at CE CR
    obtain ⟨⟨a0, a1, a2, a3, a4, a5⟩, -⟩ := RowAt.c6 (hD.get 2 rfl)
    have hal := actsL_le (I.map (·.1)) hr
    rw [List.length_map] at hal
    cases hxr : ActD.right ⟨xk, xt, xkey, xval, xn, xf⟩
    · have he : ActD.enc ⟨xk, xt, xkey, xval, xn, xf⟩ = ⟨#[]⟩ := by rw [ActD.enc, hxr]; rfl
      rw [he] at CE
      rw [hxr] at CR
      have z1 : ¬ 9223372036854775807 < (str (actsL (I.map (·.1)))).size := by rw [size_str]; omega
      have zz : str (actsL (I.map (·.1))) ++ (⟨#[]⟩ : ByteArray) = str (actsL (I.map (·.1))) := ByteArray.append_empty
      have HZ := Lib.hid zz
      clear he hxr hal zz
      generalize hAll : str (actsL (I.map (·.1))) = ALL at *
      go_wp2_with (first
        | ((with_reducible refine (CE.out _ (HIX.out.up hu2)).mono ?_); rintro e w3 ⟨rfl, hb⟩; replace hD := hD.next hb; replace hu2 := hu2.next hb; clear hb a0 a1 a2 a3 a4 a5; obtain ⟨⟨a0, a1, a2, a3, a4, a5⟩, -⟩ := RowAt.c6 (hD.get 2 rfl))
        | ((with_reducible refine (CR.out _ (HIX.out.up hu2)).mono ?_); rintro e w4 ⟨rfl, hb⟩; replace hD := hD.next hb; replace hu2 := hu2.next hb; clear hb a0 a1 a2 a3 a4 a5; obtain ⟨⟨a0, a1, a2, a3, a4, a5⟩, -⟩ := RowAt.c6 (hD.get 2 rfl)))
      refine ⟨⟨i + 1, q, c, I, by omega, by omega, by go_num, ?_, rfl, Hold.fatesDrop hD, hr, by omega⟩, by simp [intOf]; omega⟩
      rw [hAll]
      first | rfl | rw [HZ.out]
    · have he : ActD.enc ⟨xk, xt, xkey, xval, xn, xf⟩ = str (ActD.encL ⟨xk, xt, xkey, xval, xn, xf⟩) := by rw [ActD.enc, if_pos hxr]
      have hel := encL_le hxr
      have hel1 := encL_len ⟨xk, xt, xkey, xval, xn, xf⟩
      rw [he] at CE
      rw [hxr] at CR
      have zz : str (actsL (I.map (·.1))) ++ str (ActD.encL ⟨xk, xt, xkey, xval, xn, xf⟩) = str (actsL ((I ++ [((ActD.mk xk xt xkey xval xn xf), q1, c1)]).map (·.1))) := by
        rw [str_append, List.map_append, actsL_append]; simp only [List.map_cons, List.map_nil, actsL_one]
      have HZ := Lib.hid zz
      have z1 : ¬ 9223372036854775807 < (str (actsL (I.map (·.1)))).size + (str (ActD.encL ⟨xk, xt, xkey, xval, xn, xf⟩)).size := by rw [size_str, size_str]; omega
      obtain ⟨e1, e2⟩ := str_some (B := str (ActD.encL ⟨xk, xt, xkey, xval, xn, xf⟩)) (by rw [size_str]; exact hel1)
      have hr2 : ∀ x ∈ (I ++ [((ActD.mk xk xt xkey xval xn xf), q1, c1)]).map (·.1), x.right = true := by
        intro y hy
        rw [List.map_append] at hy
        rcases List.mem_append.1 hy with hy | hy
        · exact hr y hy
        · simp only [List.map_cons, List.map_nil, List.mem_singleton] at hy
          rw [hy]; exact hxr
      have HR2 := Lib.hid hr2
      clear he hxr hal zz hel hel1 hr2 hr
      generalize hAll : str (actsL (I.map (·.1))) = ALL at *
      generalize str (ActD.encL ⟨xk, xt, xkey, xval, xn, xf⟩) = XX at *
      clear hAll
      go_wp2_with (first
        | ((with_reducible refine (CE.out _ (HIX.out.up hu2)).mono ?_); rintro e w3 ⟨rfl, hb⟩; replace hD := hD.next hb; replace hu2 := hu2.next hb; clear hb a0 a1 a2 a3 a4 a5; obtain ⟨⟨a0, a1, a2, a3, a4, a5⟩, -⟩ := RowAt.c6 (hD.get 2 rfl))
        | ((with_reducible refine (CR.out _ (HIX.out.up hu2)).mono ?_); rintro e w4 ⟨rfl, hb⟩; replace hD := hD.next hb; replace hu2 := hu2.next hb; clear hb a0 a1 a2 a3 a4 a5; obtain ⟨⟨a0, a1, a2, a3, a4, a5⟩, -⟩ := RowAt.c6 (hD.get 2 rfl))
        | ((with_reducible refine wpList_at 45 ?_); have hF := hD.madeRow (.int .i64 xk) [.int .i64 xt, .string xkey, .string xval, .int .i64 xn, .slice q1 xf.length c1] 24; have r7 := RowAt.addsAt (hF.get 3 rfl); refine wpList_appendZ rfl _ _ 35 rfl 24 inf _ 6 80 (by kernel_rfl) hi0' hz0 hz1 hz2 rfl (by decide) hF 0 _ (actsC I) I.length rfl rfl ⟨w4.heap.size, 0, none⟩ 1 _ rfl rfl r7 (actsC_one [((ActD.mk xk xt xkey xval xn xf), q1, c1)]) (by unfold maxLen; omega) (by omega) ?_; clear r7 hF hD; intro b9 c9 w6 hD))
      have hlq : (I ++ [((ActD.mk xk xt xkey xval xn xf), q1, c1)]).length = I.length + 1 := by simp
      refine ⟨⟨i + 1, some ⟨b9, 0, none⟩, c9, I ++ [((ActD.mk xk xt xkey xval xn xf), q1, c1)], by omega, by omega, by go_num, ?_, ?_, ?_, HR2.out, by omega⟩, by simp [intOf]; omega⟩
      · rw [← HZ.out]
      · rw [hlq]
      · rw [hlq, actsC_append]
        exact hD.sub (l' := [ownZ 24 6 (.slice (some ⟨b9, 0, none⟩) (I.length + 1) c9) (I.length + 1) (actsC I ++ actsC [((ActD.mk xk xt xkey xval xn xf), q1, c1)]), fatesM (I ++ [((ActD.mk xk xt xkey xval xn xf), q1, c1)])]) (List.sublist_append_left [_, _] [_, _])
  · have key : ¬ (i : Int) < (n : Int) ∨ ((i : Int) < (n : Int) ∧ ¬ (i : Int) < 60) := by omega
    have hIA := items_of (hD.get 0 rfl) (hD.get 1 rfl)
    have hup := hD.up
    clear hD hgo HA
    have hO : actsO (str (actsL (I.map (·.1)))) = some (I.map (·.1)) := actsO_iff.2 ⟨by rw [lst_str], hr⟩
    obtain ⟨hE, hDd⟩ := acts_ok hO (by rw [List.length_map]; omega)
    have hal := actsL_le (I.map (·.1)) hr
    rw [List.length_map] at hal
    have CD := Lib.hid (fun w => dec_items (str (actsL (I.map (·.1)))) (by rw [size_str]; omega) hDd hE w)
    obtain ⟨m, hm⟩ : ∃ m, I.length = m := ⟨_, rfl⟩
    rw [List.length_map, hm] at CD
    have HI := Lib.hid hm
    have hm6 : m ≤ 60 := by omega
    have m0 : (m : Int) ≤ 60 := by omega
    have HR := Lib.hid hr
    have HIA := Lib.hid hIA
    rw [hm]
    clear hO hE hDd hal hm hr hIA
    generalize str (actsL (I.map (·.1))) = ALL at *
    rcases key with k1 | ⟨k1, k2⟩
    all_goals
      go_upto_region 13 with ((with_reducible refine (CD.out _).mono ?_); rintro e w1 ⟨q2, c2, O, hO, hOl, rfl, hIO, hb⟩)
      have hIA := HIA.out.up hb
      have hup1 := Up.trans hup hb
      have HOl := Lib.hid hOl
      have HMp := Lib.hid hO
      have HIO := Lib.hid hIO
      have HIA1 := Lib.hid hIA
      clear hO hOl hIO hIA hb
      go_wp2_with fail
      go_loopw [12] (fun v12 wr2 => ∃ j : Nat, j ≤ m ∧ v12 = .int .i64 j ∧ Up w1 wr2) (fun v _ => m - (intOf v).toNat)
      case atStart => exact ⟨0, by omega, rfl, Up.refl w1⟩
      case round =>
      obtain ⟨j, hj, rfl, hu⟩ := hrel
      have j0 : (0 : Int) ≤ (j : Int) := by omega
      by_cases hlt : j < m
      · have b1 : (j : Int) < (m : Int) := by omega
        have hol := HOl.out
        have hil := HI.out
        obtain ⟨xx, hxx⟩ : ∃ xx, O[j]'(by omega) = xx := ⟨_, rfl⟩
        obtain ⟨yy, hyy⟩ : ∃ yy, I[j]'(by omega) = yy := ⟨_, rfl⟩
        have he := map_fst_get HMp.out j (by omega) (by omega)
        have hrx := HR.out I[j].1 (List.mem_map.2 ⟨I[j], List.getElem_mem _, rfl⟩)
        rw [hxx, hyy] at he
        rw [hyy] at hrx
        obtain ⟨⟨xk, xt, xkey, xval, xn, xf⟩, xq, xc⟩ := xx
        obtain ⟨y, yq, yc⟩ := yy
        simp only at he hrx
        subst he
        obtain ⟨gx, rfl, ⟨x0, x1, x2, x3, x4, x5⟩, hi1⟩ := (HIO.out.up hu).act j (by omega) hxx
        obtain ⟨gy, rfl, ⟨y0, y1, y2, y3, y4, y5⟩, hi2⟩ := (HIA1.out.up hu).act j (by omega) hyy
        have lx : xf.length ≤ 1099511627776 := by have := (ActD.ok hrx).f2; simp only at this; omega
        have htab := fun u : Later wr => HT.out.up (hup1.trans (hu.trans u.up))
        have K1 := fun u : Later wr => script_Same ⟨xk, xt, xkey, xval, xn, xf⟩ ⟨xk, xt, xkey, xval, xn, xf⟩ xq yq xc yc u.world (hi1.up u.up) (hi2.up u.up) lx lx
        have K2 := fun u : Later wr => script_Show ⟨xk, xt, xkey, xval, xn, xf⟩ lx xq xc u.world (hi1.up u.up) (htab u)
        have K3 := fun u : Later wr => script_Show ⟨xk, xt, xkey, xval, xn, xf⟩ lx yq yc u.world (hi2.up u.up) (htab u)
        simp only [actV, decide_true] at K1 K2 K3
        have hsne := show_ne hrx
        have hsi := fun z hz => show_iff (a := ⟨xk, xt, xkey, xval, xn, xf⟩) (b := z) hrx hz
        obtain ⟨SX, hSX⟩ : ∃ SX, ActD.show' ⟨xk, xt, xkey, xval, xn, xf⟩ = SX := ⟨_, rfl⟩
        rw [hSX] at K2 K3 hsne
        have hs1 : 1 ≤ SX.size := by
          by_cases h : SX.size = 0
          · exact absurd (ByteArray.size_eq_zero_iff.1 h) hsne
          · omega
        obtain ⟨e1, e2⟩ := str_some hs1
        replace K1 := Lib.hid K1; replace K2 := Lib.hid K2; replace K3 := Lib.hid K3
        have hne := later_ne wr
        by_cases hj0 : j = 0
        · subst hj0
          have j1 : ¬ ((0 : Nat) : Int) > 0 := by omega
          go_upto_region 18 with fail
          have lx0 := Later.cell_of x0; have lx1 := Later.cell_of x1; have lx2 := Later.cell_of x2; have lx3 := Later.cell_of x3; have lx4 := Later.cell_of x4; have lx5 := Later.cell_of x5; have ly0 := Later.cell_of y0; have ly1 := Later.cell_of y1; have ly2 := Later.cell_of y2; have ly3 := Later.cell_of y3; have ly4 := Later.cell_of y4; have ly5 := Later.cell_of y5
          clear x0 x1 x2 x3 x4 x5 y0 y1 y2 y3 y4 y5 hi1 hi2 lx hxx hyy hol hil hsi hSX hs1 hrx htab hsne
          refine wp_region_later (by kernel_rfl) (by kernel_rfl) ?_
          repeat (go_big_quiet_step (first
            | (go_at_call 16; with_reducible exact Calls.later (K1.out _))
            | (go_at_call 14; with_reducible exact Calls.later (K2.out _))))
          refine wpQuiet_nil ?_
          intro w9 hw9
          obtain ⟨u9, rfl⟩ := hw9
          have hu9 := hu.trans u9.up
          clear hne lx0 lx1 lx2 lx3 lx4 lx5 ly0 ly1 ly2 ly3 ly4 ly5
          generalize u9.world = w9 at *
          go_wp2_with fail
          refine ⟨⟨1, by omega, by go_num, hu9⟩, by simp [intOf]; omega⟩
        · obtain ⟨r, hr⟩ : ∃ r, j = r + 1 := ⟨j - 1, by omega⟩
          have j1 : (j : Int) > 0 := by omega
          have j2 : 0 < j := by omega
          have hsub : IntKind.i64.wrap ((j : Int) - 1) = (r : Int) := by rw [IntKind.wrap_i64]; omega
          have r0 : (0 : Int) ≤ (r : Int) := by omega
          have r1 : (r : Int) < (m : Int) := by omega
          obtain ⟨zz, hzz⟩ : ∃ zz, I[r]'(by omega) = zz := ⟨_, rfl⟩
          have hrz := HR.out I[r].1 (List.mem_map.2 ⟨I[r], List.getElem_mem _, rfl⟩)
          rw [hzz] at hrz
          obtain ⟨⟨zk, zt, zkey, zval, zn, zf⟩, zq, zc⟩ := zz
          simp only at hrz
          obtain ⟨gz, hgz, ⟨z0, z1, z2, z3, z4, z5⟩, hi3⟩ := (HIA1.out.up hu).act r (by omega) hzz
          injection hgz with hgz
          injection hgz with hgz
          subst hgz
          have ly : zf.length ≤ 1099511627776 := by have := (ActD.ok hrz).f2; simp only at this; omega
          have K4 := fun u : Later wr => script_Show ⟨zk, zt, zkey, zval, zn, zf⟩ ly zq zc u.world (hi3.up u.up) (htab u)
          have K5 := fun u : Later wr => script_Same ⟨xk, xt, xkey, xval, xn, xf⟩ ⟨zk, zt, zkey, zval, zn, zf⟩ yq zq yc zc u.world (hi2.up u.up) (hi3.up u.up) lx ly
          simp only [actV] at K4 K5
          have hsz := hsi _ hrz
          by_cases hxy : (ActD.mk xk xt xkey xval xn xf) = ⟨zk, zt, zkey, zval, zn, zf⟩
          · injection hxy with g1 g2 g3 g4 g5 g6
            subst g1 g2 g3 g4 g5 g6
            simp only [decide_true] at K5
            rw [hSX] at K4
            clear hsz
            replace K4 := Lib.hid K4; replace K5 := Lib.hid K5
            go_upto_region 18 with fail
            have lx0 := Later.cell_of x0; have lx1 := Later.cell_of x1; have lx2 := Later.cell_of x2; have lx3 := Later.cell_of x3; have lx4 := Later.cell_of x4; have lx5 := Later.cell_of x5; have ly0 := Later.cell_of y0; have ly1 := Later.cell_of y1; have ly2 := Later.cell_of y2; have ly3 := Later.cell_of y3; have ly4 := Later.cell_of y4; have ly5 := Later.cell_of y5; have lz0 := Later.cell_of z0; have lz1 := Later.cell_of z1; have lz2 := Later.cell_of z2; have lz3 := Later.cell_of z3; have lz4 := Later.cell_of z4; have lz5 := Later.cell_of z5
            clear x0 x1 x2 x3 x4 x5 y0 y1 y2 y3 y4 y5 z0 z1 z2 z3 z4 z5 hi1 hi2 hi3 lx ly hxx hyy hzz hol hil hsi hs1 hrx hrz htab hsne hj0 hr hSX
            refine wp_region_later (by kernel_rfl) (by kernel_rfl) ?_
            repeat (go_big_quiet_step (first
              | (go_at_call 16; first | with_reducible exact Calls.later (K1.out _) | with_reducible exact Calls.later (K5.out _))
              | (go_at_call 14; first | with_reducible exact Calls.later (K2.out _) | with_reducible exact Calls.later (K3.out _) | with_reducible exact Calls.later (K4.out _))))
            refine wpQuiet_nil ?_
            intro w9 hw9
            obtain ⟨u9, rfl⟩ := hw9
            have hu9 := hu.trans u9.up
            clear hne lx0 lx1 lx2 lx3 lx4 lx5 ly0 ly1 ly2 ly3 ly4 ly5 lz0 lz1 lz2 lz3 lz4 lz5
            generalize u9.world = w9 at *
            go_wp2_with fail
            refine ⟨⟨j + 1, by omega, by go_num, hu9⟩, by simp [intOf]; omega⟩
          · rw [decide_eq_false hxy] at K5
            obtain ⟨SY, hSY⟩ : ∃ SY, ActD.show' ⟨zk, zt, zkey, zval, zn, zf⟩ = SY := ⟨_, rfl⟩
            rw [hSX, hSY] at hsz
            rw [hSY] at K4
            have e3 : ¬ SX.toList = SY.toList := fun h => hxy (hsz.1 (by
              have h2 := str_eqB SX SY
              rw [h] at h2
              simpa using h2))
            have e4 : (SX.toList == SY.toList) = false := by simpa using e3
            clear hsz
            replace K4 := Lib.hid K4; replace K5 := Lib.hid K5
            go_upto_region 18 with fail
            have lx0 := Later.cell_of x0; have lx1 := Later.cell_of x1; have lx2 := Later.cell_of x2; have lx3 := Later.cell_of x3; have lx4 := Later.cell_of x4; have lx5 := Later.cell_of x5; have ly0 := Later.cell_of y0; have ly1 := Later.cell_of y1; have ly2 := Later.cell_of y2; have ly3 := Later.cell_of y3; have ly4 := Later.cell_of y4; have ly5 := Later.cell_of y5; have lz0 := Later.cell_of z0; have lz1 := Later.cell_of z1; have lz2 := Later.cell_of z2; have lz3 := Later.cell_of z3; have lz4 := Later.cell_of z4; have lz5 := Later.cell_of z5
            clear x0 x1 x2 x3 x4 x5 y0 y1 y2 y3 y4 y5 z0 z1 z2 z3 z4 z5 hi1 hi2 hi3 lx ly hxx hyy hzz hol hil hsi hs1 hrx hrz htab hsne hj0 hr hSX hSY hxy
            refine wp_region_later (by kernel_rfl) (by kernel_rfl) ?_
            repeat (go_big_quiet_step (first
              | (go_at_call 16; first | with_reducible exact Calls.later (K1.out _) | with_reducible exact Calls.later (K5.out _))
              | (go_at_call 14; first | with_reducible exact Calls.later (K2.out _) | with_reducible exact Calls.later (K3.out _) | with_reducible exact Calls.later (K4.out _))))
            refine wpQuiet_nil ?_
            intro w9 hw9
            obtain ⟨u9, rfl⟩ := hw9
            have hu9 := hu.trans u9.up
            clear hne lx0 lx1 lx2 lx3 lx4 lx5 ly0 ly1 ly2 ly3 ly4 ly5 lz0 lz1 lz2 lz3 lz4 lz5
            generalize u9.world = w9 at *
            go_wp2_with fail
            refine ⟨⟨j + 1, by omega, by go_num, hu9⟩, by simp [intOf]; omega⟩
      · have hjm : j = m := by omega
        subst hjm
        have HUP := Lib.hid (hup1.trans hu)
        clear hu hup1 hj hlt HIO HOl HMp HIA1 HIA HR HI CD hup
        go_upto_region 21 with fail
        rw [HS.out]
        rcases actsE_or S with ⟨hE2, as', hO2, hl2, hD2⟩ | ⟨hE2, hD2, -⟩
        · have CS := Lib.hid (fun w => dec_items S (by omega) hD2 hE2 w)
          obtain ⟨hO3, hO4⟩ := actsO_iff.1 hO2
          have hfin : str (actsL as') = S := by rw [← hO3, str_lst]
          have hal2 := actsL_le as' hO4
          have HR4 := Lib.hid hO4
          have HF := Lib.hid hfin
          obtain ⟨nb, hnb⟩ : ∃ nb, as'.length = nb := ⟨_, rfl⟩
          rw [hnb] at CS
          have i5 : (nb : Int) ≤ 400 := by omega
          have i6 : (0 : Int) ≤ (nb : Int) := by omega
          have HNB := Lib.hid hnb
          clear hE2 hD2 hO2 hO3 hO4 hfin
          have hu2 := Up.refl wr
          go_wp2_with ((with_reducible refine (CS.out _).mono ?_); rintro e wd ⟨q3, c3, B, hB, hBl, rfl, hIB, hb⟩; replace hu2 := hu2.next hb; clear hb)
          have HB := Lib.hid hB
          have HBl := Lib.hid hBl
          have HIB := Lib.hid hIB
          have hu3 := HUP.out.trans hu2
          clear hB hBl hIB hu2 HUP
          go_loopw [15, 16] (fun v15 v16 wr3 => ∃ k : Nat, k ≤ nb ∧ v16 = .int .i64 k ∧ v15 = .string (str (actsL (as'.take k))) ∧ Up wd wr3) (fun _ v _ => nb - (intOf v).toNat)
          case atStart => exact ⟨0, by omega, rfl, rfl, Up.refl wd⟩
          case round =>
          obtain ⟨k, hk, rfl, rfl, hu⟩ := hrel
          have k0 : (0 : Int) ≤ (k : Int) := by omega
          by_cases hlt : k < nb
          · have b1 : (k : Int) < (nb : Int) := by omega
            have hbl := HBl.out
            have hnb2 := HNB.out
            obtain ⟨xx, hxx⟩ : ∃ xx, B[k]'(by omega) = xx := ⟨_, rfl⟩
            have hak : as'[k]'(by omega) = xx.1 := by
              have h2 := congrArg (fun l => l[k]?) HB.out
              simp only [List.getElem?_map, List.getElem?_eq_getElem (show k < B.length by omega), List.getElem?_eq_getElem (show k < as'.length by omega), Option.map_some, Option.some.injEq] at h2
              rw [← h2, hxx]
            have hrx := HR4.out (as'[k]'(by omega)) (List.getElem_mem _)
            have htk : as'.take (k + 1) = as'.take k ++ [as'[k]'(by omega)] := List.take_succ_eq_append_getElem (by omega)
            rw [hak] at hrx htk
            obtain ⟨⟨xk, xt, xkey, xval, xn, xf⟩, xq, xc⟩ := xx
            simp only at hrx htk
            obtain ⟨gx, rfl, ⟨x0, x1, x2, x3, x4, x5⟩, hi1⟩ := (HIB.out.up hu).act k (by omega) hxx
            have lx : xf.length ≤ 1099511627776 := by have := (ActD.ok hrx).f2; simp only at this; omega
            have CE := fun w h => script_Encode ⟨xk, xt, xkey, xval, xn, xf⟩ lx xq xc w h
            simp only [actV] at CE
            have he : ActD.enc ⟨xk, xt, xkey, xval, xn, xf⟩ = str (ActD.encL ⟨xk, xt, xkey, xval, xn, xf⟩) := by rw [ActD.enc, if_pos hrx]
            rw [he] at CE
            replace CE := Lib.hid CE
            have hel := encL_le hrx
            have hat := actsL_le (as'.take k) (fun a ha => HR4.out a (List.mem_of_mem_take ha))
            rw [List.length_take] at hat
            have z1 : ¬ 9223372036854775807 < (str (actsL (as'.take k))).size + (str (ActD.encL ⟨xk, xt, xkey, xval, xn, xf⟩)).size := by rw [size_str, size_str]; omega
            have HZ := Lib.hid (show str (actsL (as'.take k)) ++ str (ActD.encL ⟨xk, xt, xkey, xval, xn, xf⟩) = str (actsL (as'.take (k + 1))) by rw [htk, str_append, actsL_append, actsL_one])
            have HI1 := Lib.hid hi1
            clear hbl hnb2 hxx hak hrx htk lx he hel hat hi1 hal2
            generalize str (ActD.encL ⟨xk, xt, xkey, xval, xn, xf⟩) = XX at *
            go_wp2_with ((with_reducible refine (CE.out _ HI1.out).mono ?_); rintro e wn ⟨rfl, hb⟩; replace hu := hu.next hb; clear hb x0 x1 x2 x3 x4 x5 HI1)
            refine ⟨⟨k + 1, by omega, by go_num, by rw [← HZ.out], hu⟩, by simp [intOf]; omega⟩
          · have hkn : k = nb := by omega
            have htake : str (actsL (as'.take k)) = S := by rw [hkn, ← HNB.out, List.take_length]; exact HF.out
            rw [htake]
            subst hkn
            have hu4 := hu3.trans hu
            clear hu hu3 htake hal2 hlt hk
            go_wp2_with ((with_reducible refine (CF.out _ (HT.out.up hu4)).mono ?_); rintro e wx ⟨rfl, hb⟩; replace hu4 := hu4.next hb; clear hb)
            go_ret
            exact ⟨rfl, hu4⟩
        · have CS := Lib.hid (fun w => dec_len S (by omega) (n := 0) (by rw [hD2]; rfl) hE2 w)
          clear hE2 hD2
          have hu2 := HUP.out
          go_wp2_with ((with_reducible refine (CS.out _).mono ?_); rintro e wd ⟨q3, c3, rfl, hb⟩; replace hu2 := hu2.next hb; clear hb)
          refine wp_loop_rounds 1 ?_
          rw [rounds_succ]
          go_wp2_with ((with_reducible refine (CF.out _ (HT.out.up hu2)).mono ?_); rintro e wx ⟨rfl, hb⟩; replace hu2 := hu2.next hb; clear hb)
          go_ret
          exact ⟨rfl, hu2⟩
end Go.Proofs.YtkkgcmnipdkeeaaDoor
