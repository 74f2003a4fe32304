import Derived.Test.YtkkgcmnipdkeeaaDoorScFixed
import Derived.Test.YtkkgcmnipdkeeaaDoorScWalk7
import Derived.Test.YtkkgcmnipdkeeaaDoorScMany
namespace Bw
open Go Go.RowKit
theorem cut_last (S : ByteArray) : S.extract 0 (S.size - 1) = str ((lst S).take (S.size - 1)) := by
  rw [← str_lst (S.extract 0 (S.size - 1)), extract_lst]
  simp
/-- A script, without its last byte. -/
theorem part_dec {S : ByteArray} {xs : List ActD} {z : ActD} (h : actsO S = some (xs ++ [z])) (hl : xs.length + 1 ≤ 400) :
    (z.encL.length = 1 ∧ actsE (S.extract 0 (S.size - 1)) = 0 ∧ (actsD (S.extract 0 (S.size - 1))).length = xs.length) ∨ (z.encL.length ≠ 1 ∧ actsE (S.extract 0 (S.size - 1)) = 12 ∧ (actsD (S.extract 0 (S.size - 1))).length = 0) := by
  rw [cut_last]
  obtain ⟨h1, h2⟩ := acts_part h
  by_cases hz : z.encL.length = 1
  · obtain ⟨a1, a2⟩ := acts_ok (h1 hz) (by omega)
    exact .inl ⟨hz, a1, by rw [a2]⟩
  · have h3 := h2 hz
    obtain ⟨a1, a2⟩ := acts_bad (s := str ((lst S).take (S.size - 1))) (fun bs hb => by rw [h3] at hb; cases hb)
    exact .inr ⟨hz, a1, by rw [a2]; rfl⟩
theorem joined_left {A B C : List ActI} (h : C.map (·.1) = A.map (·.1) ++ B.map (·.1)) (n : Nat) (hc : n < C.length) (ha : n < A.length) : C[n].1 = A[n].1 := by
  have h2 := congrArg (fun l => l[n]?) h
  simp only [List.getElem?_append_left (show n < (A.map (·.1)).length by simpa using ha), List.getElem?_map, List.getElem?_eq_getElem hc, List.getElem?_eq_getElem ha, Option.map_some, Option.some.injEq] at h2
  exact h2
theorem joined_right {A B C : List ActI} (h : C.map (·.1) = A.map (·.1) ++ B.map (·.1)) (n r : Nat) (hc : n < C.length) (hr : n = A.length + r) (hb : r < B.length) : C[n].1 = B[r].1 := by
  have h2 := congrArg (fun l => l[n]?) h
  have e : n - (A.map (·.1)).length = r := by rw [List.length_map]; omega
  simp only [List.getElem?_append_right (show (A.map (·.1)).length ≤ n by rw [List.length_map]; omega), e, List.getElem?_map, List.getElem?_eq_getElem hc, List.getElem?_eq_getElem hb, Option.map_some, Option.some.injEq] at h2
  exact h2
theorem ItemsAt.act {w : World} {q : Option Addr} {I : List ActI} (h : ItemsAt w q I) (i : Nat) (hi : i < I.length) {k t n : Int} {key val : ByteArray} {f : List Int} {p : Option Addr} {c : Nat} (he : I[i] = (⟨k, t, key, val, n, f⟩, p, c)) :
    ∃ g, q = some ⟨g, 0, none⟩ ∧ (w.cell? ⟨g, i * 6, none⟩ = some (.int .i64 k) ∧ w.cell? ⟨g, i * 6 + 1, none⟩ = some (.int .i64 t) ∧ w.cell? ⟨g, i * 6 + 2, none⟩ = some (.string key) ∧ w.cell? ⟨g, i * 6 + 3, none⟩ = some (.string val) ∧ w.cell? ⟨g, i * 6 + 4, none⟩ = some (.int .i64 n) ∧ w.cell? ⟨g, i * 6 + 5, none⟩ = some (.slice p f.length c)) ∧ IntsAt w p f := by
  obtain ⟨⟨g, hq, hc⟩, h2⟩ := h i hi
  rw [he] at hc h2
  exact ⟨g, hq, ⟨hc 0 _ rfl, hc 1 _ rfl, hc 2 _ rfl, hc 3 _ rfl, hc 4 _ rfl, hc 5 _ rfl⟩, h2⟩
end Bw
namespace Go.Proofs.YtkkgcmnipdkeeaaDoor
open Go.RowKit Bw
set_option linter.unusedVariables false
theorem dec_items (s : ByteArray) (hs : s.size ≤ 1000000) {L : List ActD} {E : Int} (hD : actsD s = L) (hE : actsE s = E) (w : World) : Calls Tryd.prog 19 #[.string s] w fun e w' => ∃ (q : Option Addr) (c : Nat) (I : List ActI), I.map (·.1) = L ∧ I.length = L.length ∧ e = .returned (.tuple #[.slice q L.length c, .int .i64 E]) ∧ ItemsAt w' q I ∧ Below w.heap.size w w' := by
  refine (script_Decode s hs w).mono fun e w' ⟨q, c, I, h1, h2, h3⟩ => ?_
  rw [hD] at h1
  have h4 := congrArg List.length h1
  rw [List.length_map] at h4
  have h5 := items_of (h3.get 0 rfl) (h3.get 1 rfl)
  rw [hE, h4] at h2
  exact ⟨q, c, I, h1, h4, h2, h5, h3.up⟩
set_option maxHeartbeats 4000000 in
set_option maxRecDepth 100000 in
theorem join_law (s : ByteArray) (hs : s.size ≤ maxLen) (t : ByteArray) (hts : t.size ≤ maxLen) (w : World) (ht : Tab w) :
    Calls Tryd.prog 7 #[.string s, .string t] w fun e w' => e = .returned (.bool true) ∧ Below w.heap.size w w' := by
  have HT := Lib.hid ht
  clear ht
  unfold maxLen at hs hts
  obtain ⟨S, hS⟩ : ∃ S, s.extract 0 (min (s.size : Int) 700).toNat = S := ⟨_, rfl⟩
  obtain ⟨T, hT⟩ : ∃ T, t.extract 0 (min (t.size : Int) 700).toNat = T := ⟨_, rfl⟩
  have hS1 : S.size ≤ 700 := by rw [← hS, ByteArray.size_extract]; omega
  have hT1 : T.size ≤ 700 := by rw [← hT, ByteArray.size_extract]; omega
  have hST : (S ++ T).size ≤ 1400 := by rw [ByteArray.size_append]; omega
  have zST : ¬ 9223372036854775807 < S.size + T.size := by omega
  have HS := Lib.hid hS
  have HT' := Lib.hid hT
  clear hS hT
  have CF := Lib.hid (fun w h => law24_fixed w h)
  have hu := Up.refl w
  rcases actsE_or S with ⟨hE, as', hO, hl, hD⟩ | ⟨hE, hD, -⟩
  · rcases actsE_or T with ⟨hE2, bs, hO2, hl2, hD2⟩ | ⟨hE2, hD2, -⟩
    · by_cases hab : as'.length + bs.length ≤ 400
      · have hJ := acts_join hO hO2
        obtain ⟨hE3, hD3⟩ := acts_ok hJ (by rw [List.length_append]; omega)
        have hRC := fun (C : List ActI) (hC : C.map (·.1) = as' ++ bs) => items_len (s := S ++ T) (I := C) (by rw [hC, hD3])
        have CA := Lib.hid (fun w => dec_items S (by omega) hD hE w)
        have CB := Lib.hid (fun w => dec_items T (by omega) hD2 hE2 w)
        have cc := fun w => dec_items (S ++ T) (by omega) hD3 hE3 w
        rw [List.length_append] at cc
        have CC := Lib.hid cc
        have hSe := acts_empty hO
        have hPart : ∀ xs z, as' = xs ++ [z] → _ := fun xs z he => part_dec (S := S) (xs := xs) (z := z) (by rw [← he]; exact hO) (by have := congrArg List.length he; rw [List.length_append] at this; simp at this; omega)
        have HPart := Lib.hid hPart
        have HRight := Lib.hid (actsO_iff.1 hO).2
        have HSe := Lib.hid hSe
        have HRC := Lib.hid hRC
        clear hE hD hO hE2 hD2 hO2 hJ hE3 hD3 cc hPart hSe hRC
        obtain ⟨na, hna⟩ : ∃ na, as'.length = na := ⟨_, rfl⟩
        obtain ⟨nb, hnb⟩ : ∃ nb, bs.length = nb := ⟨_, rfl⟩
        rw [hna] at CA CC hl hab
        rw [hnb] at CB CC hl2 hab
        have HN := Lib.hid (And.intro hna hnb)
        clear hna hnb
        have i0 : (0 : Int) ≤ (na : Int) := by omega
        have i0b : (0 : Int) ≤ (nb : Int) := by omega
        have i1 : (na : Int) + (nb : Int) ≤ 400 := by omega
        have i2 : ¬ 400 < na + nb := by omega
        go_enter Tryd.func7, Tryd.ntmps7
        go_upto_region 2 with fail
        rw [HS.out]
        go_upto_region 3 with fail
        rw [HT'.out]
        go_upto_region 4 with ((with_reducible refine (CA.out _).mono ?_); rintro e w1 ⟨qa, ca, A, hA, hAl, rfl, hIA, hb⟩; replace hu := hu.next hb; clear hb)
        go_upto_region 5 with ((with_reducible refine (CB.out _).mono ?_); rintro e w2 ⟨qb, cb, B, hB, hBl, rfl, hIB, hb⟩; replace hu := hu.next hb; replace hIA := hIA.up hb; clear hb)
        go_upto_region 6 with ((with_reducible refine (CC.out _).mono ?_); rintro e w3 ⟨qc, cc, C, hC, hCl, rfl, hIC, hb⟩; replace hu := hu.next hb; replace hIA := hIA.up hb; replace hIB := hIB.up hb; clear hb)
        have hJn : C.map (·.1) = A.map (·.1) ++ B.map (·.1) := by rw [hC, hA, hB]
        obtain ⟨hN1, hN2⟩ := HN.out
        have HAL := Lib.hid hAl
        have HBL := Lib.hid hBl
        have HCL := Lib.hid hCl
        have HIA := Lib.hid hIA
        have HIB := Lib.hid hIB
        have HIC := Lib.hid hIC
        have HJ := Lib.hid hJn
        have HRR := Lib.hid (HRC.out C hC)
        have HA := Lib.hid hA
        have HU := Lib.hid hu
        clear hIA hIB hIC hJn hA hB hC hAl hBl hCl hN1 hN2 hu HRC CA CB CC
        go_wp2_with fail
        go_loopw [11] (fun v11 wr => ∃ n : Nat, n ≤ na + nb ∧ v11 = .int .i64 n ∧ Up w3 wr) (fun v _ => na + nb - (intOf v).toNat)
        case atStart => exact ⟨0, by omega, rfl, Up.refl w3⟩
        case round =>
        obtain ⟨n, hn, rfl, hu⟩ := hrel
        have n0 : (0 : Int) ≤ (n : Int) := by omega
        by_cases hlt : n < na + nb
        · have b1' : (n : Int) < (na : Int) + (nb : Int) := by omega
          have b1'' : (n : Int) < ((na + nb : Nat) : Int) := by omega
          have hcl := HCL.out
          have hal := HAL.out
          have hbl := HBL.out
          obtain ⟨xx, hxx⟩ : ∃ xx, C[n]'(by omega) = xx := ⟨_, rfl⟩
          obtain ⟨⟨xk, xt, xkey, xval, xn, xf⟩, xq, xc⟩ := xx
          have hfl := (HRR.out n (by omega)).2
          rw [hxx] at hfl
          simp only at hfl
          obtain ⟨gc, rfl, hx, hi1⟩ := (HIC.out.up hu).act n (by omega) hxx
          by_cases hla : n < na
          · have c1 : (n : Int) < (na : Int) := by omega
            have c2 : ¬ (na : Int) ≤ (n : Int) := by omega
            have c3 : ¬ na ≤ n := by omega
            obtain ⟨yy, hyy⟩ : ∃ yy, A[n]'(by omega) = yy := ⟨_, rfl⟩
            have he := joined_left HJ.out n (by omega) (by omega)
            rw [hxx, hyy] at he
            obtain ⟨y, yq, yc⟩ := yy
            simp only at he
            subst he
            obtain ⟨ga, rfl, hy, hi2⟩ := (HIA.out.up hu).act n (by omega) hyy
            clear hxx hyy hcl hal hbl
            have lx : xf.length ≤ 1099511627776 := by omega
            have K8 := fun u : Later wr => script_Same ⟨xk, xt, xkey, xval, xn, xf⟩ ⟨xk, xt, xkey, xval, xn, xf⟩ xq yq xc yc u.world (hi1.up u.up) (hi2.up u.up) lx lx
            simp only [actV, decide_true] at K8
            replace K8 := Lib.hid K8
            obtain ⟨a0, a1, a2, a3, a4, a5⟩ := hx
            obtain ⟨b0, b1, b2, b3, b4, b5⟩ := hy
            go_upto_region 13 with fail
            have l0 := Later.cell_of a0; have l1 := Later.cell_of a1; have l2 := Later.cell_of a2; have l3 := Later.cell_of a3; have l4 := Later.cell_of a4; have l5 := Later.cell_of a5
            have m0 := Later.cell_of b0; have m1 := Later.cell_of b1; have m2 := Later.cell_of b2; have m3 := Later.cell_of b3; have m4 := Later.cell_of b4; have m5 := Later.cell_of b5
            have hne := later_ne wr
            clear a0 a1 a2 a3 a4 a5 b0 b1 b2 b3 b4 b5 lx hi1 hi2
            refine wp_region_later (by kernel_rfl) (by kernel_rfl) ?_
            repeat (go_big_quiet_step ((go_at_call 16; with_reducible exact Calls.later (K8.out _))))
            refine wpQuiet_nil ?_
            intro w9 hw9
            obtain ⟨u9, rfl⟩ := hw9
            have hu9 := hu.trans u9.up
            clear l0 l1 l2 l3 l4 l5 m0 m1 m2 m3 m4 m5 hne hu
            generalize u9.world = w9 at *
            go_wp2_with fail
            refine ⟨⟨n + 1, by omega, by go_num, hu9⟩, by simp [intOf]; omega⟩
          · have c1 : ¬ (n : Int) < (na : Int) := by omega
            have c2 : (na : Int) ≤ (n : Int) := by omega
            have c3 : na ≤ n := by omega
            obtain ⟨r, hr⟩ : ∃ r, n = na + r := ⟨n - na, by omega⟩
            have hsub : IntKind.i64.wrap ((n : Int) - (na : Int)) = (r : Int) := by rw [IntKind.wrap_i64]; omega
            have hr0 : (0 : Int) ≤ (r : Int) := by omega
            have hr1 : (r : Int) < (nb : Int) := by omega
            obtain ⟨yy, hyy⟩ : ∃ yy, B[r]'(by omega) = yy := ⟨_, rfl⟩
            have he := joined_right HJ.out n r (by omega) (by omega) (by omega)
            rw [hxx, hyy] at he
            obtain ⟨y, yq, yc⟩ := yy
            simp only at he
            subst he
            obtain ⟨ga, rfl, hy, hi2⟩ := (HIB.out.up hu).act r (by omega) hyy
            clear hxx hyy hcl hal hbl hr
            have lx : xf.length ≤ 1099511627776 := by omega
            have K8 := fun u : Later wr => script_Same ⟨xk, xt, xkey, xval, xn, xf⟩ ⟨xk, xt, xkey, xval, xn, xf⟩ xq yq xc yc u.world (hi1.up u.up) (hi2.up u.up) lx lx
            simp only [actV, decide_true] at K8
            replace K8 := Lib.hid K8
            obtain ⟨a0, a1, a2, a3, a4, a5⟩ := hx
            obtain ⟨b0, b1, b2, b3, b4, b5⟩ := hy
            go_upto_region 13 with fail
            have l0 := Later.cell_of a0; have l1 := Later.cell_of a1; have l2 := Later.cell_of a2; have l3 := Later.cell_of a3; have l4 := Later.cell_of a4; have l5 := Later.cell_of a5
            have m0 := Later.cell_of b0; have m1 := Later.cell_of b1; have m2 := Later.cell_of b2; have m3 := Later.cell_of b3; have m4 := Later.cell_of b4; have m5 := Later.cell_of b5
            have hne := later_ne wr
            clear a0 a1 a2 a3 a4 a5 b0 b1 b2 b3 b4 b5 lx hi1 hi2
            refine wp_region_later (by kernel_rfl) (by kernel_rfl) ?_
            repeat (go_big_quiet_step ((go_at_call 16; with_reducible exact Calls.later (K8.out _))))
            refine wpQuiet_nil ?_
            intro w9 hw9
            obtain ⟨u9, rfl⟩ := hw9
            have hu9 := hu.trans u9.up
            clear l0 l1 l2 l3 l4 l5 m0 m1 m2 m3 m4 m5 hne hu
            generalize u9.world = w9 at *
            go_wp2_with fail
            refine ⟨⟨n + 1, by omega, by go_num, hu9⟩, by simp [intOf]; omega⟩
        · have hnn : n = na + nb := by omega
          subst hnn
          clear hn hlt n0
          have hge : ¬ ((na : Int) + (nb : Int) < (na : Int) + (nb : Int)) := by omega
          obtain ⟨hN1, hN2⟩ := HN.out
          have hu2 := HU.out.trans hu
          by_cases hS0 : S.size = 0
          · have ha0 := HSe.out.1 hS0
            rw [ha0] at hN1
            have hna0 : na = 0 := by simpa using hN1.symm
            subst hna0
            have hSe : S = ⟨#[]⟩ := ByteArray.size_eq_zero_iff.1 hS0
            subst hSe
            clear hS0 ha0 hN1 hN2 hu
            go_wp2_with ((with_reducible refine (CF.out _ (HT.out.up hu2)).mono ?_); rintro e wx ⟨rfl, hb⟩; replace hu2 := hu2.next hb; clear hb)
            go_ret
            exact ⟨rfl, hu2⟩
          · obtain ⟨e1, e2⟩ := str_some (B := S) (by omega)
            have hne0 : as' ≠ [] := fun h => hS0 (HSe.out.2 h)
            obtain ⟨xs, z, hxz⟩ : ∃ xs z, as' = xs ++ [z] := ⟨as'.dropLast, as'.getLast hne0, (List.dropLast_concat_getLast hne0).symm⟩
            have hk1 : na = xs.length + 1 := by rw [← hN1, hxz]; simp
            have hP := HPart.out xs z hxz
            obtain ⟨m1, hm1⟩ : ∃ m1, S.size - 1 = m1 := ⟨_, rfl⟩
            have hsub1 : IntKind.i64.wrap ((S.size : Int) - 1) = (m1 : Int) := by rw [IntKind.wrap_i64]; omega
            have hm2 : (m1 : Int) ≤ (S.size : Int) := by omega
            have hm3 : m1 ≤ S.size := by omega
            obtain ⟨k1, hkk⟩ : ∃ k1, xs.length = k1 := ⟨_, rfl⟩
            have hsub2 : IntKind.i64.wrap ((na : Int) - 1) = (k1 : Int) := by rw [IntKind.wrap_i64]; omega
            have hk3 : (k1 : Int) < (na : Int) := by omega
            have hk4 : (0 : Int) ≤ (k1 : Int) := by omega
            have hk5 : ((na : Int) == 0) = false := by simp; omega
            have hal := HAL.out
            obtain ⟨yy, hyy⟩ : ∃ yy, A[k1]'(by omega) = yy := ⟨_, rfl⟩
            have hez : yy.1 = z := by
              have h2 := congrArg (fun l => l[k1]?) HA.out
              rw [hxz] at h2
              simp only [List.getElem?_map, List.getElem?_eq_getElem (show k1 < A.length by omega), Option.map_some] at h2
              rw [List.getElem?_append_right (by omega), hkk, Nat.sub_self] at h2
              injection h2 with h2
              rw [hyy] at h2
              exact h2
            have hzr : yy.1.right = true := by
              have hm : yy.1 ∈ as' := by rw [hez, hxz]; simp
              exact (HRight.out _ hm)
            obtain ⟨y, yq, yc⟩ := yy
            simp only at hez hzr
            subst hez
            have hzz := enc_size hzr
            have hzl := (ActD.ok hzr).f2
            have hc2 : (S.extract 0 m1).size ≤ 1000000 := by rw [ByteArray.size_extract]; omega
            rw [hm1] at hP
            obtain ⟨yk, yt, ykey, yval, yn, yf⟩ := y
            obtain ⟨ga, rfl, hy, hi2⟩ := (HIA.out.up hu).act k1 (by omega) hyy
            obtain ⟨b0, b1, b2, b3, b4, b5⟩ := hy
            have CE := fun w h => script_Encode ⟨yk, yt, ykey, yval, yn, yf⟩ (by simp only at hzl ⊢; omega) yq yc w h
            simp only [actV] at CE
            rw [← hzz] at hP
            obtain ⟨Z, hZ⟩ : ∃ Z, (ActD.mk yk yt ykey yval yn yf).enc = Z := ⟨_, rfl⟩
            rw [hZ] at CE hP
            replace CE := Lib.hid CE
            have HI2 := Lib.hid hi2
            rcases hP with ⟨p1, p2, p3⟩ | ⟨p1, p2, p3⟩
            · have CP := Lib.hid (fun w => dec_len (S.extract 0 m1) hc2 (n := k1) (by rw [p3, hkk]) p2 w)
              have hz1 : ((Z.size : Int) == 1) = true := by simp; omega
              have hu3 := Up.refl wr
              clear hu hS0 hne0 hN1 hN2 hxz hm1 hkk hal hyy hzr hzz hzl hc2 p1 p2 p3 hZ hi2 hk1
              go_wp2_with (first
                | ((with_reducible refine (CP.out _).mono ?_); rintro e wx ⟨q1, c1, rfl, hb⟩; replace hu2 := hu2.next hb; replace hu3 := hu3.next hb; replace b0 := (Below.cell (p := ⟨ga, k1 * 6, none⟩) hb (World.block_lt_of_cell? _ _ b0)).trans b0; replace b1 := (Below.cell (p := ⟨ga, k1 * 6 + 1, none⟩) hb (World.block_lt_of_cell? _ _ b1)).trans b1; replace b2 := (Below.cell (p := ⟨ga, k1 * 6 + 2, none⟩) hb (World.block_lt_of_cell? _ _ b2)).trans b2; replace b3 := (Below.cell (p := ⟨ga, k1 * 6 + 3, none⟩) hb (World.block_lt_of_cell? _ _ b3)).trans b3; replace b4 := (Below.cell (p := ⟨ga, k1 * 6 + 4, none⟩) hb (World.block_lt_of_cell? _ _ b4)).trans b4; replace b5 := (Below.cell (p := ⟨ga, k1 * 6 + 5, none⟩) hb (World.block_lt_of_cell? _ _ b5)).trans b5; clear hb)
                | ((with_reducible refine (CE.out _ (HI2.out.up hu3)).mono ?_); rintro e wy ⟨rfl, hb⟩; replace hu2 := hu2.next hb; clear hb b0 b1 b2 b3 b4 b5)
                | ((with_reducible refine (CF.out _ (HT.out.up hu2)).mono ?_); rintro e wx ⟨rfl, hb⟩; replace hu2 := hu2.next hb; clear hb))
              go_ret
              exact ⟨rfl, hu2⟩
            · have CP := Lib.hid (fun w => dec_len (S.extract 0 m1) hc2 (n := 0) p3 p2 w)
              have hz1 : ((Z.size : Int) == 1) = false := by simp; omega
              have hu3 := Up.refl wr
              clear hu hS0 hne0 hN1 hN2 hxz hm1 hkk hal hyy hzr hzz hzl hc2 p1 p2 p3 hZ hi2 hk1
              go_wp2_with (first
                | ((with_reducible refine (CP.out _).mono ?_); rintro e wx ⟨q1, c1, rfl, hb⟩; replace hu2 := hu2.next hb; replace hu3 := hu3.next hb; replace b0 := (Below.cell (p := ⟨ga, k1 * 6, none⟩) hb (World.block_lt_of_cell? _ _ b0)).trans b0; replace b1 := (Below.cell (p := ⟨ga, k1 * 6 + 1, none⟩) hb (World.block_lt_of_cell? _ _ b1)).trans b1; replace b2 := (Below.cell (p := ⟨ga, k1 * 6 + 2, none⟩) hb (World.block_lt_of_cell? _ _ b2)).trans b2; replace b3 := (Below.cell (p := ⟨ga, k1 * 6 + 3, none⟩) hb (World.block_lt_of_cell? _ _ b3)).trans b3; replace b4 := (Below.cell (p := ⟨ga, k1 * 6 + 4, none⟩) hb (World.block_lt_of_cell? _ _ b4)).trans b4; replace b5 := (Below.cell (p := ⟨ga, k1 * 6 + 5, none⟩) hb (World.block_lt_of_cell? _ _ b5)).trans b5; clear hb)
                | ((with_reducible refine (CE.out _ (HI2.out.up hu3)).mono ?_); rintro e wy ⟨rfl, hb⟩; replace hu2 := hu2.next hb; clear hb b0 b1 b2 b3 b4 b5)
                | ((with_reducible refine (CF.out _ (HT.out.up hu2)).mono ?_); rintro e wx ⟨rfl, hb⟩; replace hu2 := hu2.next hb; clear hb))
              go_ret
              exact ⟨rfl, hu2⟩
      · have CA := Lib.hid (fun w => dec_len S (by omega) (n := as'.length) (by rw [hD]) hE w)
        have CB := Lib.hid (fun w => dec_len T (by omega) (n := bs.length) (by rw [hD2]) hE2 w)
        have CC := Lib.hid (fun w => dec_len (S ++ T) (by omega) rfl rfl w)
        clear hE hD hO hE2 hD2 hO2
        generalize (actsD (S ++ T)).length = nc at *
        generalize actsE (S ++ T) = EC at *
        generalize as'.length = na at *
        generalize bs.length = nb at *
        have i1 : (na : Int) ≤ 400 := by omega
        have i2 : (nb : Int) ≤ 400 := by omega
        have i3 : 400 < na + nb := by omega
        have i4 : (400 : Int) < (na : Int) + (nb : Int) := by omega
        go_enter Tryd.func7, Tryd.ntmps7
        go_upto_region 2 with fail
        rw [HS.out]
        go_upto_region 3 with fail
        rw [HT'.out]
        go_wp2_with (first
          | ((with_reducible refine (CA.out _).mono ?_); rintro e wn ⟨q1, c1, rfl, hb⟩; replace hu := hu.next hb; clear hb)
          | ((with_reducible refine (CB.out _).mono ?_); rintro e wn ⟨q1, c1, rfl, hb⟩; replace hu := hu.next hb; clear hb)
          | ((with_reducible refine (CC.out _).mono ?_); rintro e wn ⟨q1, c1, rfl, hb⟩; replace hu := hu.next hb; clear hb)
          | ((with_reducible refine (CF.out _ (HT.out.up hu)).mono ?_); rintro e wx ⟨rfl, hb⟩; replace hu := hu.next hb; clear hb))
        go_ret
        exact ⟨rfl, hu⟩
    · have CA := Lib.hid (fun w => dec_len S (by omega) (n := as'.length) (by rw [hD]) hE w)
      have CB := Lib.hid (fun w => dec_len T (by omega) (n := 0) (by rw [hD2]; rfl) hE2 w)
      have CC := Lib.hid (fun w => dec_len (S ++ T) (by omega) rfl rfl w)
      clear hE hD hO hE2 hD2
      generalize (actsD (S ++ T)).length = nc at *
      generalize actsE (S ++ T) = EC at *
      generalize as'.length = na at *
      go_enter Tryd.func7, Tryd.ntmps7
      go_upto_region 2 with fail
      rw [HS.out]
      go_upto_region 3 with fail
      rw [HT'.out]
      go_wp2_with (first
        | ((with_reducible refine (CA.out _).mono ?_); rintro e wn ⟨q1, c1, rfl, hb⟩; replace hu := hu.next hb; clear hb)
        | ((with_reducible refine (CB.out _).mono ?_); rintro e wn ⟨q1, c1, rfl, hb⟩; replace hu := hu.next hb; clear hb)
        | ((with_reducible refine (CC.out _).mono ?_); rintro e wn ⟨q1, c1, rfl, hb⟩; replace hu := hu.next hb; clear hb)
        | ((with_reducible refine (CF.out _ (HT.out.up hu)).mono ?_); rintro e wx ⟨rfl, hb⟩; replace hu := hu.next hb; clear hb))
      go_ret
      exact ⟨rfl, hu⟩
  · have CA := Lib.hid (fun w => dec_len S (by omega) (n := 0) (by rw [hD]; rfl) hE w)
    have CB := Lib.hid (fun w => dec_len T (by omega) rfl rfl w)
    have CC := Lib.hid (fun w => dec_len (S ++ T) (by omega) rfl rfl w)
    clear hE hD
    generalize (actsD (S ++ T)).length = nc at *
    generalize actsE (S ++ T) = EC at *
    generalize (actsD T).length = nb at *
    generalize actsE T = EB at *
    go_enter Tryd.func7, Tryd.ntmps7
    go_upto_region 2 with fail
    rw [HS.out]
    go_upto_region 3 with fail
    rw [HT'.out]
    go_wp2_with (first
      | ((with_reducible refine (CA.out _).mono ?_); rintro e wn ⟨q1, c1, rfl, hb⟩; replace hu := hu.next hb; clear hb)
      | ((with_reducible refine (CB.out _).mono ?_); rintro e wn ⟨q1, c1, rfl, hb⟩; replace hu := hu.next hb; clear hb)
      | ((with_reducible refine (CC.out _).mono ?_); rintro e wn ⟨q1, c1, rfl, hb⟩; replace hu := hu.next hb; clear hb)
      | ((with_reducible refine (CF.out _ (HT.out.up hu)).mono ?_); rintro e wx ⟨rfl, hb⟩; replace hu := hu.next hb; clear hb))
    go_ret
    exact ⟨rfl, hu⟩
end Go.Proofs.YtkkgcmnipdkeeaaDoor
