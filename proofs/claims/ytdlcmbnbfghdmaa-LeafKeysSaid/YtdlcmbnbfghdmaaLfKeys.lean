/- LeafKeys: the walk. -/
import Derived.Test.YtdlcmbnbfghdmaaLfPuts
import Derived.Test.YtdlcmbnbfghdmaaLfKeys2
import Derived.Test.YtdlcmbnbfghdmaaRecWalk1
namespace Bw
open Go Go.RowKit Go.Deep Go.ChangeShapes
/-- Where texts lie. -/
def TextsIn (w : World) (q : Option Addr) (l : List ByteArray) : Prop := l.length ≤ maxLen ∧ (∀ s ∈ l, s.size ≤ maxLen) ∧ ∀ j (hj : j < l.length), ∃ g o, q = some ⟨g, o, none⟩ ∧ w.cell? ⟨g, o + j, none⟩ = some (.string l[j])
theorem TextsIn.up {w w' : World} {q : Option Addr} {l : List ByteArray} (h : TextsIn w q l) (hu : Up w w') : TextsIn w' q l := ⟨h.1, h.2.1, fun j hj => by
  obtain ⟨g, o, hq, hc⟩ := h.2.2 j hj
  exact ⟨g, o, hq, (AllS.of_up (S := fun _ => False) hu).cell hc id⟩⟩
section
variable {H : Type} {enc : TypeId × Value → H} {P : Program} {w : World} {base : Nat} {spare : Nat → Bool} {held : Bool}
theorem open_texts {b0 : Nat} {r : Reach} {t e : TypeId} {v : Value} {d : DataW H} {p : List MemPlace} (ht : P.underlying t = some (.slice e)) (he : P.underlying e = some .string) (hce : P.cellsOf e = 1)
    (hv : Value.okWide P w r b0 t v) (h : DataW.Trod enc P w base (fun _ => true) held t v d p) : ∃ (l : List ByteArray) (q : Option Addr) (c : Nat), v = .slice q l.length c ∧ TextsIn w q l := by
  obtain ⟨a, n, cap, ss, rfl, hh⟩ := open_strs ht he hce hv h
  clear h
  rcases hh with ⟨rfl, rfl, rfl⟩ | ⟨x, rfl, h1, h2, h3, h4, h5⟩
  · exact ⟨[], none, 0, rfl, by simp, fun s hs => by simp at hs, fun j hj => by simp at hj⟩
  · have hlen : (ss.take n).length = n := by rw [List.length_take]; omega
    refine ⟨ss.take n, some x, cap, by rw [hlen], by omega, fun s hs => h5 s (List.mem_of_mem_take hs), fun j hj => ?_⟩
    rw [hlen] at hj
    obtain ⟨b, o, sp⟩ := x
    have h0 := h4 0 (by omega)
    have hsp : sp = none := by simpa [Addr.add] using World.cell?_spot h0
    subst hsp
    refine ⟨b, o, rfl, ?_⟩
    have := h4 j (by omega)
    rw [Bw.add_none] at this
    rw [this, List.getElem_take, List.getD_eq_getElem?_getD, List.getElem?_eq_getElem (by omega)]; rfl
end
theorem keyB_min (s : ByteArray) : (cut40 s) = s.extract 0 (min (s.size : Int) 40).toNat := rfl
end Bw
namespace Go.Proofs.Ytdlcmbnbfghdmaa
open Go.RowKit Bw
set_option linter.unusedVariables false
set_option maxHeartbeats 8000000 in
set_option maxRecDepth 100000 in
theorem keys_law (put : List PairD) (qa : Option Addr) (ca : Nat) (del : List ByteArray) (qb : Option Addr) (cb : Nat) (W : World) (hX : PairsIn W qa put) (hY : TextsIn W qb del) :
    Calls Try.prog 6 #[.slice qa put.length ca, .slice qb del.length cb] W fun e w' => e = .returned (.bool true) ∧ Below W.heap.size W w' := by
  have HX := Lib.hid hX.2.1
  have HP := Lib.hid (show PairsAt W qa put from hX.2.2)
  have HY := Lib.hid hY
  have hm1 : put.length ≤ 9223372036854775807 := hX.1
  have hm2 : del.length ≤ 9223372036854775807 := hY.1
  clear hX hY
  have CG := Lib.hid (fun w => law10_fixed w)
  go_enter Try.func6, Try.ntmps6
  have hD := (Hold.start W).madeRow (.slice none 0 0) [.string ⟨#[]⟩, .int .i64 0] 24
  simp only [List.nil_append] at hD
  obtain ⟨x0, x1, x2, y0, y1, y2⟩ := RowAt.c3 (hD.get 0 rfl)
  go_upto_region 2 with fail
  clear x0 x1 x2 y0 y1 y2
  generalize W.alloc (.cells (Value.slice none 0 0 :: [.string ⟨#[]⟩, .int .i64 0]).toArray 24) = w0 at *
  replace hD : Hold W (w0.alloc (.cells #[] 44)) [rowR W.heap.size (.slice none 0 0) [.string ⟨#[]⟩, .int .i64 0], slR none 0 [], ownZ 44 2 (.slice (some ⟨w0.heap.size, 0, none⟩) 0 0) 0 []] := (hold_addSl hD (Below.refl _ _) (slR_nil _).1 (slR_nil _).2).madeZ 44 2
  obtain ⟨inf, hi0', hz0, hz1, hz2⟩ := infoPair
  go_wp2_with fail
  go_loopw [6, 7] (fun v6 v7 wr => ∃ (n g6 c6 c : Nat) (q : Option Addr) (x : LfD) (has : List PairD), n ≤ put.length ∧ n ≤ 40 ∧ v7 = .int .i64 n ∧ v6 = .slice (some ⟨g6, 0, none⟩) has.length c6 ∧ Has x has ∧ Hold W wr [rowR W.heap.size (.slice q x.l.length c) [.string x.high, .int .i64 x.next], slR q c x.l, ownP (some ⟨g6, 0, none⟩) c6 has]) (fun _ v _ => 40 - (intOf v).toNat)
  case atStart => exact ⟨0, _, 0, 0, none, ⟨[], ByteArray.empty, 0⟩, [], by omega, by omega, rfl, rfl, Has.start, hD⟩
  case round =>
  clear hD
  obtain ⟨n, g6, c6, c, q, x, has, hnl, hn4, rfl, rfl, hHas, hD⟩ := hrel
  have i0 : (0 : Int) ≤ (n : Int) := by omega
  have i2 : (put.length : Int) ≤ 9223372036854775807 := by omega
  by_cases hgo : n < put.length ∧ n < 40
  · obtain ⟨hg1, hg2⟩ := hgo
    have b1 : (n : Int) < (put.length : Int) := by omega
    have b2 : (n : Int) < 40 := by omega
    obtain ⟨ga, oa, hq, a1, a2⟩ := (HP.out.up hD.up) n hg1
    have hs := HX.out _ (List.getElem_mem hg1)
    generalize put[n] = p at *
    obtain ⟨kk, vv⟩ := p
    simp only at a1 a2 hs
    subst hq
    obtain ⟨hkk, hvv⟩ := hs
    unfold maxLen at hkk hvv
    obtain ⟨k, hk⟩ : ∃ k, k = kk.extract 0 (min (kk.size : Int) 40).toNat := ⟨_, rfl⟩
    obtain ⟨v, hv⟩ : ∃ v, v = vv.extract 0 (min (vv.size : Int) 60).toNat := ⟨_, rfl⟩
    have hk3 : k.size ≤ 1000 := by rw [hk, ByteArray.size_extract]; omega
    have hv3 : v.size ≤ 1000 := by rw [hv, ByteArray.size_extract]; omega
    clear hg1 hg2
    go_upto_region 6 with fail
    refine wp_region_two Eq (AllS NoS) (allS_ok NoS) (by kernel_rfl) (by kernel_rfl) (by kernel_rfl) ?_
    replace hD := hD.next ((Below.refl _ wr).drew)
    replace a1 := (AllS.of_up (S := NoS) ((Below.refl _ wr).drew)).cell a1 id
    replace a2 := (AllS.of_up (S := NoS) ((Below.refl _ wr).drew)).cell a2 id
    generalize wr.drew = wa at *
    refine wpAnyTS_quiet 0 28 0 136 (by rfl) (by kernel_rfl) (fun _ _ _ _ _ h => h) (by kernel_rfl) (by kernel_rfl) ?_
    apply Exists.intro
    refine ⟨fun w2 hw2 => ?_, ?_⟩
    · have hne := laterR_ne (R := Eq) eqOK w2
      obtain ⟨l0, l1⟩ := And.intro (laterS a1 id hw2) (laterS a2 id hw2)
      simp only [List.drop_zero, List.take_succ_cons, List.take_zero]
      repeat (go_big_quiet_step (fail))
      exact wpQuiet_nil rfl
    refine wpAnyTS_done (by kernel_rfl) ?_
    rintro w2' rfl
    clear a1 a2
    rw [← hk, ← hv]
    clear hk hv hkk hvv
    have CP := Lib.hid (fun q c w (h : SlAt w q c x.l) => lfpost_open (leaf_Put x (LfD.sm hHas.right) k v hk3 hv3 q c w h))
    have CW := Lib.hid (fun q c w h => law10_without has (by have := hHas.small; omega) q c k w h)
    simp only [lfV] at CP
    have CK := Lib.hid (ref5_Key k)
    have CV := Lib.hid (ref5_Value v)
    obtain ⟨t0, t1, t2, -⟩ := RowAt.c3 (hD.get 0 rfl)
    go_upto_region 8 with ((with_reducible refine (CP.out _ _ _ (slR_sl (hD.get 1 rfl))).mono ?_); rintro e wp ⟨q1, k1, rfl, hs, hn, hb⟩; replace hD := hold_addSl hD hb hs hn; clear hs hn hb)
    replace hD := hD.madeRow (.slice q1 (pD x k v).l.length k1) [.string (pD x k v).high, .int .i64 (pD x k v).next] 24
    simp only [List.nil_append, List.cons_append] at hD
    generalize wp.heap.size = g10 at *
    generalize wp.alloc _ = w10 at *
    rcases hHas.putE k v with hE | ⟨hE, hkv⟩ | ⟨hE, hkv⟩
    · rw [hE]
      clear CP CW CK CV t0 t1 t2
      go_wp2_with fail
      go_roundw
      case rel => exact ⟨n + 1, g6, c6, c, q, x, has, by omega, by omega, by go_num, rfl, hHas, hD.sub (List.sublist_append_left [_, _, _] [_, _])⟩
      case measure => simp [intOf]; omega
    · rw [hE]
      simp only [Bool.and_eq_true] at hkv
      rw [hkv.1] at CK
      rw [hkv.2] at CV
      have hH2 := hHas.put hE
      have hle : (woL has k).length ≤ 200 := by have := wo_le has k; have := hHas.small; omega
      clear CP hE hkv hHas t0 t1 t2
      generalize pD x k v = D at *
      generalize woL has k = R at *
      have CA := Lib.hid (fun q c q2 c2 w h h2 => law10_all D (R ++ [(k, v)]) hH2 q q2 c c2 w h h2)
      have HC := Lib.hid (show cellsP R ++ [.string k, .string v] = cellsP (R ++ [(k, v)]) by rw [cellsP_append]; rfl)
      have H3 := Lib.hid (show R.length + 1 = (R ++ [(k, v)]).length by rw [List.length_append]; rfl)
      generalize R ++ [(k, v)] = R2 at *
      simp only [lfV] at CA
      obtain ⟨m0, m1, m2, -⟩ := RowAt.c3 (hD.get 4 rfl)
      obtain ⟨t0, t1, t2, f0, f1, f2⟩ := RowAt.c3 (hD.get 0 rfl)
      go_upto_region 13 with (first
        | ((with_reducible refine (CK.out _).mono ?_); rintro e wn ⟨rfl, rfl⟩)
        | ((with_reducible refine (CV.out _).mono ?_); rintro e wn ⟨rfl, rfl⟩))
      clear t0 t1 t2 f0 f1 f2 m0 m1 m2
      replace hD := ((hD.putRow 0 (g := W.heap.size) rfl 0 (.slice (q1) D.l.length k1) (.slice (q1) D.l.length k1) [.string x.high, .int .i64 x.next] (by simp) rfl).putRow 0 (g := W.heap.size) rfl 1 (.string D.high) (.slice (q1) D.l.length k1) [.string D.high, .int .i64 x.next] (by simp) rfl).putRow 0 (g := W.heap.size) rfl 2 (.int .i64 D.next) (.slice (q1) D.l.length k1) [.string D.high, .int .i64 D.next] (by simp) rfl
      generalize ((w10.setCell ⟨W.heap.size, 0, none⟩ (.slice (q1) D.l.length k1)).setCell ⟨W.heap.size, 1, none⟩ (.string D.high)).setCell ⟨W.heap.size, 2, none⟩ (.int .i64 D.next) = w12 at *
      go_upto_region 14 with ((with_reducible refine (CW.out _ _ _ (ownP_pairs (j := 2) hD rfl)).mono ?_); rintro e wn ⟨g13, c13, rfl, hs, hn, hb⟩; replace hD := hold_addP hD hb hs hn; clear hs hn hb)
      have hF : Hold W _ [rowR W.heap.size (.slice q1 D.l.length k1) [.string D.high, .int .i64 D.next], slR q c x.l, ownP (some ⟨g6, 0, none⟩) c6 has, slR q1 k1 D.l, rowR g10 (.slice q1 D.l.length k1) [.string D.high, .int .i64 D.next], ownP (some ⟨g13, 0, none⟩) c13 R, rowR wn.heap.size (.string k) [.string v]] := hD.madeRow (.string k) [.string v] 44
      have r7 : RowAt _ wn.heap.size [.string k, .string v] := hF.get 6 rfl
      clear hD
      go_wp2_with (first
        | ((with_reducible refine wpList_at 84 ?_); refine wpList_appendZ rfl _ _ 22 rfl 44 inf (.agg #[.string ⟨#[]⟩, .string ⟨#[]⟩]) 2 32 (by kernel_rfl) hi0' hz0 hz1 hz2 rfl (by decide) hF 5 _ (cellsP R) R.length rfl rfl ⟨wn.heap.size, 0, none⟩ 1 [.string k, .string v] rfl rfl r7.addsAt (fun x hx => by simp at hx; rcases hx with rfl | rfl <;> rfl) (by unfold maxLen; omega) (by omega) ?_; intro b5 c5 w6 hD; rw [HC.out, H3.out] at hD; rw [H3.out]; clear hF r7; replace hD : Hold W w6 [rowR W.heap.size (.slice q1 D.l.length k1) [.string D.high, .int .i64 D.next], slR q c x.l, ownP (some ⟨g6, 0, none⟩) c6 has, slR q1 k1 D.l, rowR g10 (.slice q1 D.l.length k1) [.string D.high, .int .i64 D.next], ownP (some ⟨b5, 0, none⟩) c5 R2, rowR wn.heap.size (.string k) [.string v]] := hD; obtain ⟨t0, t1, t2, -⟩ := RowAt.c3 (hD.get 0 rfl))
        | ((with_reducible refine (CA.out _ _ _ _ _ (slR_pairs (hD.get 3 rfl)) (ownP_pairs (j := 5) hD rfl)).mono ?_); rintro e wz ⟨rfl, hb⟩; replace hD := hD.next hb; clear hb t0 t1 t2))
      go_roundw
      case rel => exact ⟨n + 1, b5, c5, k1, q1, D, R2, by omega, by omega, by go_num, rfl, hH2, hD.sub (.cons_cons _ (.cons _ (.cons _ (.cons_cons _ (.cons _ (.cons_cons _ (.cons _ .slnil)))))))⟩
      case measure => simp [intOf]; omega
    · rw [hE]
      clear t0 t1 t2
      obtain ⟨t0, t1, t2, -⟩ := RowAt.c3 (hD.get 0 rfl)
      have CA := Lib.hid (fun q c q2 c2 w h h2 => law10_all x has hHas q q2 c c2 w h h2)
      simp only [lfV] at CA
      cases hK : keyB k
      · rw [hK] at CK
        clear CP CW CV hkv hE hK
        go_wp2_with (first
          | ((with_reducible refine (CK.out _).mono ?_); rintro e wn ⟨rfl, rfl⟩)
          | ((with_reducible refine (CA.out _ _ _ _ _ (slR_pairs (hD.get 1 rfl)) (ownP_pairs (j := 2) hD rfl)).mono ?_); rintro e wz ⟨rfl, hb⟩; replace hD := hD.next hb; clear hb t0 t1 t2))
        go_roundw
        case rel => exact ⟨n + 1, g6, c6, c, q, x, has, by omega, by omega, by go_num, rfl, hHas, hD.sub (List.sublist_append_left [_, _, _] [_, _])⟩
        case measure => simp [intOf]; omega
      · rw [hK] at CK
        rw [hK, Bool.true_and] at hkv
        rw [hkv] at CV
        clear CP CW hkv hE hK
        go_wp2_with (first
          | ((with_reducible refine (CK.out _).mono ?_); rintro e wn ⟨rfl, rfl⟩)
          | ((with_reducible refine (CV.out _).mono ?_); rintro e wn ⟨rfl, rfl⟩)
          | ((with_reducible refine (CA.out _ _ _ _ _ (slR_pairs (hD.get 1 rfl)) (ownP_pairs (j := 2) hD rfl)).mono ?_); rintro e wz ⟨rfl, hb⟩; replace hD := hD.next hb; clear hb t0 t1 t2))
        go_roundw
        case rel => exact ⟨n + 1, g6, c6, c, q, x, has, by omega, by omega, by go_num, rfl, hHas, hD.sub (List.sublist_append_left [_, _, _] [_, _])⟩
        case measure => simp [intOf]; omega
  · have key : ¬ (n : Int) < (put.length : Int) ∨ ((n : Int) < (put.length : Int) ∧ ¬ (n : Int) < 40) := by omega
    clear HX HP hgo
    rcases key with k1 | ⟨k1, k2⟩
    all_goals
      go_wp2_with fail
      go_loopw [6, 12] (fun v6 v12 wr => ∃ (m g6 c6 c : Nat) (q : Option Addr) (x : LfD) (has : List PairD), m ≤ del.length ∧ m ≤ 40 ∧ v12 = .int .i64 m ∧ v6 = .slice (some ⟨g6, 0, none⟩) has.length c6 ∧ Has x has ∧ Hold W wr [rowR W.heap.size (.slice q x.l.length c) [.string x.high, .int .i64 x.next], slR q c x.l, ownP (some ⟨g6, 0, none⟩) c6 has]) (fun _ v _ => 40 - (intOf v).toNat)
      case atStart => exact ⟨0, g6, c6, c, q, x, has, by omega, by omega, rfl, rfl, hHas, hD⟩
      case round =>
      clear hD hHas hnl hn4 i0 i2 k1
      obtain ⟨m, g6, c6, c, q, x, has, hml, hm4, rfl, rfl, hHas, hD⟩ := hrel
      have i0 : (0 : Int) ≤ (m : Int) := by omega
      have i2 : (del.length : Int) ≤ 9223372036854775807 := by omega
      by_cases hgo : m < del.length ∧ m < 40
      · obtain ⟨hg1, hg2⟩ := hgo
        have b1 : (m : Int) < (del.length : Int) := by omega
        have b2 : (m : Int) < 40 := by omega
        obtain ⟨ga, oa, hq, a1⟩ := (HY.out.up hD.up).2.2 m hg1
        have hs := HY.out.2.1 _ (List.getElem_mem hg1)
        generalize del[m] = kk at *
        subst hq
        unfold maxLen at hs
        obtain ⟨k, hk⟩ : ∃ k, k = kk.extract 0 (min (kk.size : Int) 40).toNat := ⟨_, rfl⟩
        have hk3 : k.size ≤ 1000 := by rw [hk, ByteArray.size_extract]; omega
        clear hg1 hg2
        go_upto_region 20 with fail
        refine wp_region_two Eq (AllS NoS) (allS_ok NoS) (by kernel_rfl) (by kernel_rfl) (by kernel_rfl) ?_
        replace hD := hD.next ((Below.refl _ wr).drew)
        replace a1 := (AllS.of_up (S := NoS) ((Below.refl _ wr).drew)).cell a1 id
        generalize wr.drew = wa at *
        refine wpAnyTS_quiet 0 12 0 136 (by rfl) (by kernel_rfl) (fun _ _ _ _ _ h => h) (by kernel_rfl) (by kernel_rfl) ?_
        apply Exists.intro
        refine ⟨fun w2 hw2 => ?_, ?_⟩
        · have hne := laterR_ne (R := Eq) eqOK w2
          have l0 := laterS a1 id hw2
          simp only [List.drop_zero, List.take_succ_cons, List.take_zero]
          repeat (go_big_quiet_step (fail))
          exact wpQuiet_nil rfl
        refine wpAnyTS_done (by kernel_rfl) ?_
        rintro w2' rfl
        clear a1
        rw [← hk]
        clear hk hs
        have CP := Lib.hid (fun q c w (h : SlAt w q c x.l) => lfpost_open (leaf_Del x (LfD.sm hHas.right) k q c w h))
        simp only [lfV] at CP
        have CW := Lib.hid (fun q c w h => law10_without has (by have := hHas.small; omega) q c k w h)
        go_upto_region 22 with ((with_reducible refine (CW.out _ _ _ (ownP_pairs (j := 2) hD rfl)).mono ?_); rintro e wn ⟨g13, c13, rfl, hs, hn, hb⟩; replace hD := hold_addP hD hb hs hn; clear hs hn hb)
        replace hD : Hold W wn [rowR W.heap.size (.slice q x.l.length c) [.string x.high, .int .i64 x.next], slR q c x.l, ownP (some ⟨g6, 0, none⟩) c6 has, ownP (some ⟨g13, 0, none⟩) c13 (woL has k)] := hD
        obtain ⟨t0, t1, t2, -⟩ := RowAt.c3 (hD.get 0 rfl)
        go_upto_region 23 with ((with_reducible refine (CP.out _ _ _ (slR_sl (hD.get 1 rfl))).mono ?_); rintro e wp ⟨q1, k1, rfl, hs, hn, hb⟩; replace hD := hold_addSl hD hb hs hn; clear hs hn hb)
        replace hD := hD.madeRow (.slice q1 (dD x k).l.length k1) [.string (dD x k).high, .int .i64 (dD x k).next] 24
        simp only [List.nil_append, List.cons_append] at hD
        generalize wp.heap.size = g10 at *
        generalize wp.alloc _ = w10 at *
        replace hD : Hold W w10 [rowR W.heap.size (.slice q x.l.length c) [.string x.high, .int .i64 x.next], slR q c x.l, ownP (some ⟨g6, 0, none⟩) c6 has, ownP (some ⟨g13, 0, none⟩) c13 (woL has k), slR q1 k1 (dD x k).l, rowR g10 (.slice q1 (dD x k).l.length k1) [.string (dD x k).high, .int .i64 (dD x k).next]] := hD
        rcases hHas.delE k with ⟨hE, hH2, hlt⟩ | ⟨hE, hH2, hlt⟩
        · rw [hE]
          clear CP CW hE hHas t0 t1 t2
          generalize dD x k = D at *
          generalize woL has k = R at *
          have CA := Lib.hid (fun q c q2 c2 w h h2 => law10_all D R hH2 q q2 c c2 w h h2)
          simp only [lfV] at CA
          have d1 : (R.length : Int) < (has.length : Int) := by omega
          clear hlt
          obtain ⟨m0, m1, m2, -⟩ := RowAt.c3 (hD.get 5 rfl)
          obtain ⟨t0, t1, t2, f0, f1, f2⟩ := RowAt.c3 (hD.get 0 rfl)
          go_upto_region 27 with fail
          clear t0 t1 t2 f0 f1 f2 m0 m1 m2
          replace hD := ((hD.putRow 0 (g := W.heap.size) rfl 0 (.slice (q1) D.l.length k1) (.slice (q1) D.l.length k1) [.string x.high, .int .i64 x.next] (by simp) rfl).putRow 0 (g := W.heap.size) rfl 1 (.string D.high) (.slice (q1) D.l.length k1) [.string D.high, .int .i64 x.next] (by simp) rfl).putRow 0 (g := W.heap.size) rfl 2 (.int .i64 D.next) (.slice (q1) D.l.length k1) [.string D.high, .int .i64 D.next] (by simp) rfl
          generalize ((w10.setCell ⟨W.heap.size, 0, none⟩ (.slice (q1) D.l.length k1)).setCell ⟨W.heap.size, 1, none⟩ (.string D.high)).setCell ⟨W.heap.size, 2, none⟩ (.int .i64 D.next) = w12 at *
          replace hD : Hold W w12 [rowR W.heap.size (.slice q1 D.l.length k1) [.string D.high, .int .i64 D.next], slR q c x.l, ownP (some ⟨g6, 0, none⟩) c6 has, ownP (some ⟨g13, 0, none⟩) c13 R, slR q1 k1 D.l, rowR g10 (.slice q1 D.l.length k1) [.string D.high, .int .i64 D.next]] := hD
          obtain ⟨t0, t1, t2, -⟩ := RowAt.c3 (hD.get 0 rfl)
          go_wp2_with ((with_reducible refine (CA.out _ _ _ _ _ (slR_pairs (hD.get 4 rfl)) (ownP_pairs (j := 3) hD rfl)).mono ?_); rintro e wz ⟨rfl, hb⟩; replace hD := hD.next hb; clear hb t0 t1 t2)
          go_roundw
          case rel => exact ⟨m + 1, g13, c13, k1, q1, D, R, by omega, by omega, by go_num, rfl, hH2, (hD.sub (.cons_cons _ (.cons _ (.cons _ (.cons_cons _ (.cons_cons _ (.cons _ .slnil))))))).perm (.cons _ (.swap _ _ _))⟩
          case measure => simp [intOf]; omega
        · rw [hE]
          clear CP CW hE hHas t0 t1 t2
          generalize dD x k = D at *
          generalize woL has k = R at *
          have CA := Lib.hid (fun q c q2 c2 w h h2 => law10_all x R hH2 q q2 c c2 w h h2)
          simp only [lfV] at CA
          have d1 : ¬ (R.length : Int) < (has.length : Int) := by omega
          clear hlt
          obtain ⟨t0, t1, t2, f0, f1, f2⟩ := RowAt.c3 (hD.get 0 rfl)
          go_wp2_with ((with_reducible refine (CA.out _ _ _ _ _ (slR_pairs (hD.get 1 rfl)) (ownP_pairs (j := 3) hD rfl)).mono ?_); rintro e wz ⟨rfl, hb⟩; replace hD := hD.next hb; clear hb t0 t1 t2 f0 f1 f2)
          go_roundw
          case rel => exact ⟨m + 1, g13, c13, c, q, x, R, by omega, by omega, by go_num, rfl, hH2, hD.sub (.cons_cons _ (.cons_cons _ (.cons _ (.cons_cons _ (.cons _ (.cons _ .slnil))))))⟩
          case measure => simp [intOf]; omega
      · have key : ¬ (m : Int) < (del.length : Int) ∨ ((m : Int) < (del.length : Int) ∧ ¬ (m : Int) < 40) := by omega
        clear HY hgo hml hm4 hHas
        have hu := hD.up
        clear hD
        rcases key with k1 | ⟨k1, k2⟩
        all_goals
          go_wp2_with ((with_reducible refine (CG.out _).mono ?_); rintro e wz ⟨rfl, hb⟩; replace hu := Up.trans hu hb; clear hb)
          go_ret
          exact ⟨rfl, hu⟩
end Go.Proofs.Ytdlcmbnbfghdmaa
