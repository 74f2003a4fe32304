/- Layer 10: Split. -/
import Derived.Test.YtdlcmbnbfghdmaaLfWalk5
import Derived.Test.YtdlcmbnbfghdmaaAllR
namespace Bw
theorem halfN_step {z : Int} {L : List PairD} {n : Nat} {had : Int} (hn : n < L.length) (h : n + 1 < L.length ∧ (n = 0 ∨ 2 * had < z)) : halfN z L.length n had (L.drop n) = halfN z L.length (n + 1) (had + (2 + (L[n].1.size : Int) + (L[n].2.size : Int))) (L.drop (n + 1)) := by
  rw [List.drop_eq_getElem_cons hn, halfN, if_pos h]
theorem halfN_stop {z : Int} {L : List PairD} {n : Nat} {had : Int} (hn : n < L.length) (h : ¬ (n + 1 < L.length ∧ (n = 0 ∨ 2 * had < z))) : halfN z L.length n had (L.drop n) = n := by
  rw [List.drop_eq_getElem_cons hn, halfN, if_neg h]
end Bw
namespace Go.Proofs.Ytdlcmbnbfghdmaa
open Go.RowKit Bw
set_option linter.unusedVariables false
/-- Two leaves in new memory, and an error. -/
def LfPost2 (w : World) (x y : LfD) (E : Int) (e : Ending) (w' : World) : Prop := ∃ q c q2 c2, e = .returned (.tuple #[lfV x q c, lfV y q2 c2, .int .i64 E]) ∧ (slR q c x.l).holds w' ∧ NewQ w q ∧ (slR q2 c2 y.l).holds w' ∧ NewQ w q2 ∧ Below w.heap.size w w'
theorem post2_none {w : World} {x y : LfD} {E E' : Int} (h1 : x = noneL) (h2 : y = noneL) (h3 : E = E') : ∀ w', Below w.heap.size w w' → LfPost2 w x y E (.returned (.tuple #[.agg #[.slice none 0 0, .string ⟨#[]⟩, .int .i64 0], .agg #[.slice none 0 0, .string ⟨#[]⟩, .int .i64 0], .int .i64 E'])) w' := fun w' hw => by
  rw [h1, h2, h3]
  exact ⟨none, 0, none, 0, rfl, (slR_nil w').1, (slR_nil w).2, (slR_nil w').1, (slR_nil w).2, hw⟩
set_option maxHeartbeats 4000000 in
set_option maxRecDepth 100000 in
theorem leaf_Split_bad (x : LfD) (hx : x.Sm) (page : Int) (q : Option Addr) (c : Nat) (w : World) (hA : SlAt w q c x.l) (hm : maySplit x page = false) :
    Calls Try.prog 29 #[lfV x q c, .int .i64 page] w (LfPost2 w (sA x page) (sB x page) (sE x page)) := by
  have HP := Lib.hid (post2_none (w := w) (show sA x page = noneL by simp [sA, hm]) (show sB x page = noneL by simp [sB, hm]) (show sE x page = 1 by simp [sE, hm]))
  generalize LfPost2 w (sA x page) (sB x page) (sE x page) = PP at *
  have CR := Lib.hid (fun w hA => leaf_Right x hx q c w hA)
  rw [maySplit] at hm
  obtain ⟨L, H, N⟩ := x
  simp only [lfV] at *
  replace hA : SlAt w q c L := hA
  have key : LfD.right ⟨L, H, N⟩ = false ∨ (LfD.right ⟨L, H, N⟩ = true ∧ (L.length : Int) < 2) ∨ (LfD.right ⟨L, H, N⟩ = true ∧ ¬ (L.length : Int) < 2 ∧ page < 0) ∨ (LfD.right ⟨L, H, N⟩ = true ∧ ¬ (L.length : Int) < 2 ∧ ¬ page < 0 ∧ 1024 ≤ page) := by
    cases h1 : LfD.right ⟨L, H, N⟩
    · exact .inl rfl
    · simp [h1] at hm
      by_cases h2 : (L.length : Int) < 2
      · exact .inr (.inl ⟨rfl, h2⟩)
      · by_cases h3 : page < 0
        · exact .inr (.inr (.inl ⟨rfl, h2, h3⟩))
        · exact .inr (.inr (.inr ⟨rfl, h2, h3, by have := hm (by omega) (by omega); omega⟩))
  clear hm hx
  rcases key with h1 | ⟨h1, h2⟩ | ⟨h1, h2, h3⟩ | ⟨h1, h2, h3, h4⟩
  all_goals
    rw [h1] at CR
    clear h1
    go_enter Try.func29, Try.ntmps29
    go_upto_region 1 with fail
    have hD := (((Hold.start w).madeRow (.slice q L.length c) [.string H, .int .i64 N] 24).madeRow (.slice none 0 0) [.string ⟨#[]⟩, .int .i64 0] 24).madeRow (.slice none 0 0) [.string ⟨#[]⟩, .int .i64 0] 24
    simp only [World.size_alloc, List.nil_append] at hD
    generalize hw0 : ((w.alloc (.cells #[.slice q L.length c, .string H, .int .i64 N] 24)).alloc (.cells #[.slice none 0 0, .string ⟨#[]⟩, .int .i64 0] 24)).alloc (.cells #[.slice none 0 0, .string ⟨#[]⟩, .int .i64 0] 24) = w0 at *
    replace hD : Hold w w0 [rowR w.heap.size (.slice q L.length c) [.string H, .int .i64 N], rowR (w.heap.size + 1) (.slice none 0 0) [.string ⟨#[]⟩, .int .i64 0], rowR (w.heap.size + 1 + 1) (.slice none 0 0) [.string ⟨#[]⟩, .int .i64 0]] := hD
    clear hw0
    obtain ⟨t0, t1, t2, f0, f1, f2⟩ := RowAt.c3 (hD.get 0 rfl)
    obtain ⟨s0, s1, s2, z0, z1, z2⟩ := RowAt.c3 (hD.get 1 rfl)
    obtain ⟨r0, r1, r2, y0, y1, y2⟩ := RowAt.c3 (hD.get 2 rfl)
    have HA := Lib.hid (hA.up hD.up)
    clear hA
    go_wp2_with ((with_reducible refine (CR.out _ HA.out.pairs).mono ?_); rintro e wn ⟨rfl, hwn⟩; replace hD := hD.next hwn; clear hwn; clear t0 t1 t2 f0 f1 f2 s0 s1 s2 z0 z1 z2 r0 r1 r2 y0 y1 y2; obtain ⟨t0, t1, t2, f0, f1, f2⟩ := RowAt.c3 (hD.get 0 rfl); obtain ⟨s0, s1, s2, z0, z1, z2⟩ := RowAt.c3 (hD.get 1 rfl); obtain ⟨r0, r1, r2, y0, y1, y2⟩ := RowAt.c3 (hD.get 2 rfl))
    exact bodyPost_ret (v := .tuple #[.agg #[.slice none 0 0, .string ⟨#[]⟩, .int .i64 0], .agg #[.slice none 0 0, .string ⟨#[]⟩, .int .i64 0], .int .i64 1]) (by simp [results, Try.results29, go_sem, *]) rfl (HP.out _ (by (repeat (refine Up.setCell ?_ _ _ _ (by omega))); exact hD.up))
set_option maxHeartbeats 4000000 in
set_option maxRecDepth 100000 in
theorem leaf_Split_good (x : LfD) (hx : x.Sm) (page : Int) (q : Option Addr) (c : Nat) (w : World) (hA : SlAt w q c x.l) (hm : maySplit x page = true) :
    Calls Try.prog 29 #[lfV x q c, .int .i64 page] w (LfPost2 w (sA x page) (sB x page) (sE x page)) := by
  have hm' := hm
  rw [maySplit] at hm
  simp only [Bool.and_eq_true, decide_eq_true_eq] at hm
  obtain ⟨⟨⟨h1, h2⟩, h3⟩, h4⟩ := hm
  have hsm := right_sm h1
  have hwt := (right_row h1).2.2.2
  have CR := Lib.hid (fun w hA => leaf_Right x hx q c w hA)
  have CS := Lib.hid (fun w hA => leaf_Size x hx q c w hA)
  rw [h1] at CR
  have HW := Lib.hid (wtL_take hx.each hx.len)
  have HS := Lib.hid hx.each
  have hlen := hx.len
  have CO1 := Lib.hid (show ∀ (w : World) (n : Nat), n ≤ x.l.length → SlAt w q c x.l → Calls Try.prog 55 #[.slice q x.l.length c, .int .i64 n, .int .i64 x.l.length, .slice none 0 0] w
      fun e w' => ∃ q' c', e = .returned (.slice q' (x.l.take n).length c') ∧ (slR q' c' (x.l.take n)).holds w' ∧ NewQ w q' ∧ Below w.heap.size w w' from by
    intro w n hn h
    have := leaf_over x.l [] (by omega) (by simp) n x.l.length hn (Nat.le_refl _) q none c 0 w h ⟨PairsAt.nil w none, Nat.le_refl _, fun _ => rfl⟩
    rw [show overL x.l [] n x.l.length = x.l.take n by simp [overL]] at this
    exact this)
  have CO2 := Lib.hid (show ∀ (w : World) (n : Nat), n ≤ x.l.length → SlAt w q c x.l → Calls Try.prog 55 #[.slice q x.l.length c, .int .i64 0, .int .i64 n, .slice none 0 0] w
      fun e w' => ∃ q' c', e = .returned (.slice q' (x.l.drop n).length c') ∧ (slR q' c' (x.l.drop n)).holds w' ∧ NewQ w q' ∧ Below w.heap.size w w' from by
    intro w n hn h
    have := leaf_over x.l [] (by omega) (by simp) 0 n (Nat.zero_le _) hn q none c 0 w h ⟨PairsAt.nil w none, Nat.le_refl _, fun _ => rfl⟩
    rw [show overL x.l [] 0 n = x.l.drop n by simp [overL]] at this
    exact this)
  have HP := Lib.hid (show ∀ w' qa ca qb cb n (hn : n < x.l.length), splitN x.l = n → Below w.heap.size w w' → (slR qa ca (x.l.take n)).holds w' → NewQ w qa → (slR qb cb (x.l.drop n)).holds w' → NewQ w qb →
      LfPost2 w (sA x page) (sB x page) (sE x page) (.returned (.tuple #[.agg #[.slice qa (x.l.take n).length ca, .string x.l[n].1, .int .i64 (page + 1)], .agg #[.slice qb (x.l.drop n).length cb, .string x.high, .int .i64 x.next], .int .i64 0])) w' from by
    intro w' qa ca qb cb n hn hs hb a1 a2 b1 b2
    have e1 : sA x page = ⟨x.l.take n, x.l[n].1, page + 1⟩ := by simp [sA, hm', hs, List.getElem?_eq_getElem hn]
    have e2 : sB x page = ⟨x.l.drop n, x.high, x.next⟩ := by simp [sB, hm', hs]
    have e3 : sE x page = 0 := by simp [sE, hm']
    rw [e1, e2, e3]
    exact ⟨qa, ca, qb, cb, rfl, a1, a2, b1, b2, hb⟩)
  generalize LfPost2 w (sA x page) (sB x page) (sE x page) = PP at *
  have HSP := Lib.hid (show splitN x.l = halfN (wtL x.l) x.l.length 0 0 x.l from rfl)
  generalize splitN x.l = SP at *
  clear hm' h1
  obtain ⟨L, H, N⟩ := x
  simp only [lfV, LfD.size] at *
  replace hA : SlAt w q c L := hA
  have b1 : ¬ (L.length : Int) < 2 := by omega
  have b2 : ¬ page < 0 := by omega
  have b3 : ¬ 1024 ≤ page := by omega
  have b4 : (0 : Int) ≤ (H.size : Int) := by omega
  have b5 : (H.size : Int) ≤ 1000 := by have := hsm.2.1; omega
  have b6 := wtL_nonneg L
  have b7 : (L.length : Int) ≤ 1000 := by omega
  obtain ⟨z, hz⟩ : ∃ z, z = wtL L := ⟨_, rfl⟩
  rw [← hz] at CS HSP hwt b6
  clear hz hsm hx hlen h2 h3 h4
  have b8 : 0 ≤ z := by omega
  obtain ⟨y, hy⟩ : ∃ y, y = 5 + (H.size : Int) + z := ⟨_, rfl⟩
  rw [← hy] at CS
  have HY := Lib.hid (show y - 4 - 1 - (H.size : Int) = z by omega)
  have b9 : 0 ≤ y := by omega
  have b10 : y ≤ 2000 := by omega
  clear hy b6
  go_enter Try.func29, Try.ntmps29
  go_upto_region 1 with fail
  have hD := (((Hold.start w).madeRow (.slice q L.length c) [.string H, .int .i64 N] 24).madeRow (.slice none 0 0) [.string ⟨#[]⟩, .int .i64 0] 24).madeRow (.slice none 0 0) [.string ⟨#[]⟩, .int .i64 0] 24
  simp only [World.size_alloc, List.nil_append] at hD
  generalize hw0 : ((w.alloc (.cells #[.slice q L.length c, .string H, .int .i64 N] 24)).alloc (.cells #[.slice none 0 0, .string ⟨#[]⟩, .int .i64 0] 24)).alloc (.cells #[.slice none 0 0, .string ⟨#[]⟩, .int .i64 0] 24) = w0 at *
  replace hD : Hold w w0 [rowR w.heap.size (.slice q L.length c) [.string H, .int .i64 N], rowR (w.heap.size + 1) (.slice none 0 0) [.string ⟨#[]⟩, .int .i64 0], rowR (w.heap.size + 1 + 1) (.slice none 0 0) [.string ⟨#[]⟩, .int .i64 0]] := hD
  clear hw0
  obtain ⟨t0, t1, t2, f0, f1, f2⟩ := RowAt.c3 (hD.get 0 rfl)
  obtain ⟨s0, s1, s2, z0, z1, z2⟩ := RowAt.c3 (hD.get 1 rfl)
  obtain ⟨r0, r1, r2, y0, y1, y2⟩ := RowAt.c3 (hD.get 2 rfl)
  have HA := Lib.hid (hA.up hD.up)
  have HA0 := Lib.hid hA
  clear hA
  go_upto_region 3 with ((with_reducible refine (CR.out _ HA.out.pairs).mono ?_); rintro e wn ⟨rfl, hwn⟩; replace hD := hD.next hwn; clear hwn; clear t0 t1 t2 f0 f1 f2 s0 s1 s2 z0 z1 z2 r0 r1 r2 y0 y1 y2; obtain ⟨t0, t1, t2, f0, f1, f2⟩ := RowAt.c3 (hD.get 0 rfl); obtain ⟨s0, s1, s2, z0, z1, z2⟩ := RowAt.c3 (hD.get 1 rfl); obtain ⟨r0, r1, r2, y0, y1, y2⟩ := RowAt.c3 (hD.get 2 rfl))
  have l0 := Later.cell_of t0; have l1 := Later.cell_of t1; have l2 := Later.cell_of t2
  have hne := later_ne wn
  have HA := Lib.hid (HA0.out.up hD.up)
  clear t0 t1 t2 f0 f1 f2 s0 s1 s2 z0 z1 z2 r0 r1 r2 y0 y1 y2
  refine wp_region_later (by kernel_rfl) (by kernel_rfl) ?_
  repeat (go_big_quiet_step ((go_at_call 16; rename_i ul; exact Calls.later (CS.out _ (HA.out.up ul.up).pairs))))
  refine wpQuiet_nil ?_
  intro w9 hw9
  obtain ⟨u9, rfl⟩ := hw9
  replace hD := hD.next u9.up
  clear l0 l1 l2 hne HA
  generalize u9.world = w9 at *
  rw [HY.out]
  go_wp2_with fail
  go_loopw [8, 9] (fun v8 v9 wr => ∃ n : Nat, n < L.length ∧ v8 = .int .i64 n ∧ v9 = .int .i64 (wtL (L.take n)) ∧ SP = halfN z L.length n (wtL (L.take n)) (L.drop n) ∧ Hold w wr [rowR w.heap.size (.slice q L.length c) [.string H, .int .i64 N], rowR (w.heap.size + 1) (.slice none 0 0) [.string ⟨#[]⟩, .int .i64 0], rowR (w.heap.size + 1 + 1) (.slice none 0 0) [.string ⟨#[]⟩, .int .i64 0]]) (fun v _ _ => L.length - (intOf v).toNat)
  case atStart => exact ⟨0, by omega, rfl, rfl, HSP.out, hD⟩
  case round =>
  clear hD
  obtain ⟨n, hn, rfl, rfl, hsp, hD⟩ := hrel
  have HSN := Lib.hid hsp
  clear hsp HSP
  have hb := HW.out n
  obtain ⟨t0, t1, t2, f0, f1, f2⟩ := RowAt.c3 (hD.get 0 rfl)
  obtain ⟨s0, s1, s2, z0, z1, z2⟩ := RowAt.c3 (hD.get 1 rfl)
  obtain ⟨r0, r1, r2, y0, y1, y2⟩ := RowAt.c3 (hD.get 2 rfl)
  obtain ⟨ga, oa, rfl, a1, a2⟩ := ((HA0.out.up hD.up).pairs) n hn
  have i0 : (0 : Int) ≤ (n : Int) := by omega
  have i1 : (n : Int) < (L.length : Int) := by omega
  have i2 : (1 : Int) ≤ (L.length : Int) := by omega
  by_cases hgo : n + 1 < L.length ∧ (n = 0 ∨ 2 * wtL (L.take n) < z)
  · have HN2 := Lib.hid (HSN.out.trans (halfN_step hn hgo))
    have hs := HS.out _ (List.getElem_mem hn)
    have C1 := Lib.hid (leaf_weight L[n] hs.1 hs.2)
    have HE := Lib.hid (wtL_take_succ hn)
    generalize L[n] = p at *
    obtain ⟨pk, pv⟩ := p
    simp only at hs C1 a1 a2 HE HN2
    rw [← HE.out] at HN2
    generalize wtL (L.take n) = hd at *
    have j0 : (n : Int) < (L.length : Int) - 1 := by omega
    have key : ((n : Int) == 0) = true ∨ (((n : Int) == 0) = false ∧ 2 * hd < z) := by
      by_cases h0 : n = 0
      · exact .inl (by simp [h0])
      · exact .inr ⟨by simp; omega, hgo.2.resolve_left h0⟩
    clear hgo
    rcases key with k1 | ⟨k1, k2⟩
    all_goals
      go_wp2_with ((with_reducible refine (C1.out _).mono ?_); rintro e wn ⟨rfl, hwn⟩; replace hD := hD.next hwn; clear hwn)
      go_roundw
      case rel => exact ⟨n + 1, by omega, by go_num, by rw [HE.out], HN2.out, hD⟩
      case measure => simp [intOf]; omega
  · have HN2 := Lib.hid (HSN.out.trans (halfN_stop hn hgo))
    have HK := Lib.hid (rfl : L[n].1 = L[n].1)
    generalize hhd : wtL (L.take n) = hd at *
    have key : ¬ ((n : Int) < (L.length : Int) - 1) ∨ ((n : Int) < (L.length : Int) - 1 ∧ ((n : Int) == 0) = false ∧ ¬ 2 * hd < z) := by
      by_cases h0 : n + 1 < L.length
      · refine .inr ⟨by omega, ?_, fun h => hgo ⟨h0, .inr h⟩⟩
        have : ¬ n = 0 := fun h => hgo ⟨h0, .inl h⟩
        simp; omega
      · exact .inl (by omega)
    clear hgo hhd HSN
    obtain ⟨PK, hPK⟩ : ∃ PK, PK = L[n].1 := ⟨_, rfl⟩
    rw [← hPK] at a1
    have HPK := Lib.hid hPK
    clear hPK HK
    have hnle : n ≤ L.length := by omega
    have hP2 := fun w' qa ca qb cb h1 => HP.out w' qa ca qb cb n hn HN2.out h1
    rw [← HPK.out] at hP2
    have HP2 := Lib.hid hP2
    have C1 := Lib.hid (fun w h => CO1.out w n hnle h)
    have C2 := Lib.hid (fun w h => CO2.out w n hnle h)
    clear hP2 HP CO1 CO2 HPK HW HS HN2 hnle
    generalize L.take n = A at *
    generalize L.drop n = B at *
    rcases key with k1 | ⟨k1, k2, k3⟩
    all_goals
      go_upto_region 8 with fail
      go_cut [10] (fun v10 wx => ∃ (g10 : Nat) (qa : Option Addr) (ca : Nat), v10 = .pointer (some ⟨g10, 0, none⟩) ∧ Hold w wx [rowR w.heap.size (.slice (some ⟨ga, oa, none⟩) L.length c) [.string H, .int .i64 N], rowR (w.heap.size + 1) (.slice none 0 0) [.string ⟨#[]⟩, .int .i64 0], rowR (w.heap.size + 1 + 1) (.slice none 0 0) [.string ⟨#[]⟩, .int .i64 0], slR qa ca A, rowR g10 (.slice qa A.length ca) [.string PK, .int .i64 (page + 1)]])
      case first =>
        refine wp_region_two Eq (AllS NoS) (allS_ok NoS) (by kernel_rfl) (by kernel_rfl) (by kernel_rfl) ?_
        replace hD := hD.next ((Below.refl _ wr).drew)
        replace t0 : wr.drew.cell? ⟨w.heap.size, 0, none⟩ = _ := t0
        replace a1 : wr.drew.cell? ⟨ga, oa + n * 2, none⟩ = _ := a1
        clear t1 t2 f0 f1 f2 s0 s1 s2 z0 z1 z2 r0 r1 r2 y0 y1 y2 a2
        generalize wr.drew = wa at *
        refine wpAnyTS_quiet 0 6 12 92 (by rfl) (by kernel_rfl) (fun _ _ _ _ _ h => h) (by kernel_rfl) (by kernel_rfl) ?_
        apply Exists.intro
        refine ⟨fun w2 hw2 => ?_, ?_⟩
        · have hne := laterR_ne (R := Eq) eqOK w2
          obtain ⟨l0, l1⟩ := And.intro (laterS t0 id hw2) (laterS a1 id hw2)
          simp only [List.drop_zero, List.take_succ_cons, List.take_zero]
          repeat (go_big_quiet_step (fail))
          exact wpQuiet_nil rfl
        refine wpAnyTS_quiet 7 8 4 92 (by rfl) (by kernel_rfl) (fun _ _ _ _ _ h => h) (by kernel_rfl) (by kernel_rfl) ?_
        apply Exists.intro
        refine ⟨fun w2 hw2 => ?_, ?_⟩
        · have hne := laterR_ne (R := Eq) eqOK w2
          obtain ⟨l0, l1⟩ := And.intro (laterS t0 id hw2) (laterS a1 id hw2)
          simp only [List.drop_succ_cons, List.drop_zero, List.take_succ_cons, List.take_zero]
          repeat (go_big_quiet_step (fail))
          exact wpQuiet_nil rfl
        clear t0 a1
        refine wpAnyTS_some 6 [16] 3 (by rfl) (by kernel_rfl) (by kernel_rfl) ?_
        rintro w2 rfl
        refine ⟨?_, ?_, trivial⟩
        · simp only [List.drop_succ_cons, List.drop_zero, List.take_succ_cons, List.take_zero]
          go_wp2_with ((with_reducible refine (C1.out _ (HA0.out.up hD.up)).mono ?_); rintro e wn ⟨qa, ca, rfl, hs, hn2, hb⟩)
          refine ⟨.inr (AllS.of_up hb), ?_⟩
          replace hD := hold_addSl hD hb hs hn2
          clear hb hs hn2
          refine wpAnyTS_quiet 15 1 2 92 (by rfl) (by kernel_rfl) (fun _ _ _ _ _ h => h) (by kernel_rfl) (by kernel_rfl) ?_
          apply Exists.intro
          refine ⟨fun w2 hw2 => ?_, ?_⟩
          · have hne := laterR_ne (R := Eq) eqOK w2
            skip
            simp only [List.drop_succ_cons, List.drop_zero, List.take_succ_cons, List.take_zero]
            repeat (go_big_quiet_step (fail))
            exact wpQuiet_nil rfl
          refine wpAnyTS_some 16 [] 1 (by rfl) (by kernel_rfl) (by kernel_rfl) ?_
          rintro w2 rfl
          refine ⟨?_, trivial⟩
          simp only [List.drop_succ_cons, List.drop_zero, List.take_succ_cons, List.take_zero]
          go_wp2_with fail
          refine ⟨.inr (AllS.of_up ((Up.refl _).alloc _)), ?_⟩
          replace hD := hD.madeRow (.slice none 0 0) [.string ⟨#[]⟩, .int .i64 0] 24
          obtain ⟨x0, x1, x2, g0, g1, g2⟩ := RowAt.c3 (hD.get 4 rfl)
          have HG := Lib.hid (rfl : wn.heap.size = wn.heap.size)
          generalize wn.heap.size = g10 at *
          generalize wn.alloc _ = wy at *
          clear HG
          refine wpAnyTS_some 17 [] 0 (by rfl) (by kernel_rfl) (by kernel_rfl) ?_
          rintro w2 rfl
          refine ⟨?_, trivial⟩
          obtain ⟨x0, x1, x2, g0, g1, g2⟩ := RowAt.c3 (hD.get 4 rfl)
          simp only [List.drop_succ_cons, List.drop_zero, List.take_succ_cons, List.take_zero]
          go_wp2_with fail
          refine ⟨.inl (by kernel_rfl), ?_⟩
          replace hD := ((hD.putRow 4 (g := g10) rfl 0 (.slice qa A.length ca) (.slice qa A.length ca) [.string ⟨#[]⟩, .int .i64 0] (by simp) rfl).putRow 4 (g := g10) rfl 1 (.string PK) (.slice qa A.length ca) [.string PK, .int .i64 0] (by simp) rfl).putRow 4 (g := g10) rfl 2 (.int .i64 (page + 1)) (.slice qa A.length ca) [.string PK, .int .i64 (page + 1)] (by simp) rfl
          refine wpAnyTS_done (by kernel_rfl) ?_
          rintro w2 rfl
          go_wp2_with fail
          go_meet
          exact ⟨g10, qa, ca, rfl, hD⟩
        · simp only [List.drop_succ_cons, List.drop_zero, List.take_succ_cons, List.take_zero]
          go_wp2_with fail
          refine ⟨.inr (AllS.of_up ((Up.refl _).alloc _)), ?_⟩
          replace hD := hD.madeRow (.slice none 0 0) [.string ⟨#[]⟩, .int .i64 0] 24
          obtain ⟨x0, x1, x2, g0, g1, g2⟩ := RowAt.c3 (hD.get 3 rfl)
          have HG := Lib.hid (rfl : wa.heap.size = wa.heap.size)
          generalize wa.heap.size = g10 at *
          generalize wa.alloc _ = wy at *
          clear HG
          refine wpAnyTS_some 6 [] 2 (by rfl) (by kernel_rfl) (by kernel_rfl) ?_
          rintro w2 rfl
          refine ⟨?_, trivial⟩
          simp only [List.drop_succ_cons, List.drop_zero, List.take_succ_cons, List.take_zero]
          go_wp2_with ((with_reducible refine (C1.out _ (HA0.out.up hD.up)).mono ?_); rintro e wn ⟨qa, ca, rfl, hs, hn2, hb⟩)
          refine ⟨.inr (AllS.of_up hb), ?_⟩
          replace hD := hold_addSl hD hb hs hn2
          clear hb hs hn2
          refine wpAnyTS_quiet 15 1 1 92 (by rfl) (by kernel_rfl) (fun _ _ _ _ _ h => h) (by kernel_rfl) (by kernel_rfl) ?_
          apply Exists.intro
          refine ⟨fun w2 hw2 => ?_, ?_⟩
          · have hne := laterR_ne (R := Eq) eqOK w2
            skip
            simp only [List.drop_succ_cons, List.drop_zero, List.take_succ_cons, List.take_zero]
            repeat (go_big_quiet_step (fail))
            exact wpQuiet_nil rfl
          refine wpAnyTS_some 17 [] 0 (by rfl) (by kernel_rfl) (by kernel_rfl) ?_
          rintro w2 rfl
          refine ⟨?_, trivial⟩
          obtain ⟨x0, x1, x2, g0, g1, g2⟩ := RowAt.c3 (hD.get 3 rfl)
          simp only [List.drop_succ_cons, List.drop_zero, List.take_succ_cons, List.take_zero]
          go_wp2_with fail
          refine ⟨.inl (by kernel_rfl), ?_⟩
          replace hD := ((hD.putRow 3 (g := g10) rfl 0 (.slice qa A.length ca) (.slice qa A.length ca) [.string ⟨#[]⟩, .int .i64 0] (by simp) rfl).putRow 3 (g := g10) rfl 1 (.string PK) (.slice qa A.length ca) [.string PK, .int .i64 0] (by simp) rfl).putRow 3 (g := g10) rfl 2 (.int .i64 (page + 1)) (.slice qa A.length ca) [.string PK, .int .i64 (page + 1)] (by simp) rfl
          refine wpAnyTS_done (by kernel_rfl) ?_
          rintro w2 rfl
          go_wp2_with fail
          go_meet
          exact ⟨g10, qa, ca, rfl, hD.perm (List.Perm.append_left [rowR w.heap.size (.slice (some ⟨ga, oa, none⟩) L.length c) [.string H, .int .i64 N], rowR (w.heap.size + 1) (.slice none 0 0) [.string ⟨#[]⟩, .int .i64 0], rowR (w.heap.size + 1 + 1) (.slice none 0 0) [.string ⟨#[]⟩, .int .i64 0]] (List.Perm.swap _ _ []))⟩
      case rest =>
      clear hD
      obtain ⟨g10, qa, ca, rfl, hD⟩ := hcut
      go_upto_region 9 with fail
      go_cut [11] (fun v11 wx => ∃ (g11 : Nat) (qb : Option Addr) (cb : Nat), v11 = .pointer (some ⟨g11, 0, none⟩) ∧ Hold w wx [rowR w.heap.size (.slice (some ⟨ga, oa, none⟩) L.length c) [.string H, .int .i64 N], rowR (w.heap.size + 1) (.slice none 0 0) [.string ⟨#[]⟩, .int .i64 0], rowR (w.heap.size + 1 + 1) (.slice none 0 0) [.string ⟨#[]⟩, .int .i64 0], slR qa ca A, rowR g10 (.slice qa A.length ca) [.string PK, .int .i64 (page + 1)], slR qb cb B, rowR g11 (.slice qb B.length cb) [.string H, .int .i64 N]])
      case first =>
        generalize wc = wq at *
        refine wp_region_two Eq (AllS NoS) (allS_ok NoS) (by kernel_rfl) (by kernel_rfl) (by kernel_rfl) ?_
        replace hD := hD.next ((Below.refl _ wq).drew)
        generalize wq.drew = wa at *
        obtain ⟨t0, t1, t2, f0, f1, f2⟩ := RowAt.c3 (hD.get 0 rfl)
        clear f0 f1 f2
        refine wpAnyTS_quiet 0 3 8 92 (by rfl) (by kernel_rfl) (fun _ _ _ _ _ h => h) (by kernel_rfl) (by kernel_rfl) ?_
        apply Exists.intro
        refine ⟨fun w2 hw2 => ?_, ?_⟩
        · have hne := laterR_ne (R := Eq) eqOK w2
          have l0 := laterS t0 id hw2
          simp only [List.drop_zero, List.take_succ_cons, List.take_zero]
          repeat (go_big_quiet_step (fail))
          exact wpQuiet_nil rfl
        refine wpAnyTS_quiet 4 4 4 92 (by rfl) (by kernel_rfl) (fun _ _ _ _ _ h => h) (by kernel_rfl) (by kernel_rfl) ?_
        apply Exists.intro
        refine ⟨fun w2 hw2 => ?_, ?_⟩
        · have hne := laterR_ne (R := Eq) eqOK w2
          obtain ⟨l0, l1⟩ := And.intro (laterS t1 id hw2) (laterS t2 id hw2)
          simp only [List.drop_succ_cons, List.drop_zero, List.take_succ_cons, List.take_zero]
          repeat (go_big_quiet_step (fail))
          exact wpQuiet_nil rfl
        clear t0 t1 t2
        refine wpAnyTS_some 3 [9] 3 (by rfl) (by kernel_rfl) (by kernel_rfl) ?_
        rintro w2 rfl
        refine ⟨?_, ?_, trivial⟩
        · simp only [List.drop_succ_cons, List.drop_zero, List.take_succ_cons, List.take_zero]
          go_wp2_with ((with_reducible refine (C2.out _ (HA0.out.up hD.up)).mono ?_); rintro e wn ⟨qb, cb, rfl, hs, hn2, hb⟩)
          refine ⟨.inr (AllS.of_up hb), ?_⟩
          replace hD := hold_addSl hD hb hs hn2
          clear hb hs hn2
          refine wpAnyTS_quiet 8 1 2 92 (by rfl) (by kernel_rfl) (fun _ _ _ _ _ h => h) (by kernel_rfl) (by kernel_rfl) ?_
          apply Exists.intro
          refine ⟨fun w2 hw2 => ?_, ?_⟩
          · have hne := laterR_ne (R := Eq) eqOK w2
            skip
            simp only [List.drop_succ_cons, List.drop_zero, List.take_succ_cons, List.take_zero]
            repeat (go_big_quiet_step (fail))
            exact wpQuiet_nil rfl
          refine wpAnyTS_some 9 [] 1 (by rfl) (by kernel_rfl) (by kernel_rfl) ?_
          rintro w2 rfl
          refine ⟨?_, trivial⟩
          simp only [List.drop_succ_cons, List.drop_zero, List.take_succ_cons, List.take_zero]
          go_wp2_with fail
          refine ⟨.inr (AllS.of_up ((Up.refl _).alloc _)), ?_⟩
          replace hD := hD.madeRow (.slice none 0 0) [.string ⟨#[]⟩, .int .i64 0] 24
          obtain ⟨x0, x1, x2, g0, g1, g2⟩ := RowAt.c3 (hD.get 6 rfl)
          have HG := Lib.hid (rfl : wn.heap.size = wn.heap.size)
          generalize wn.heap.size = g11 at *
          generalize wn.alloc _ = wy at *
          clear HG
          refine wpAnyTS_some 10 [] 0 (by rfl) (by kernel_rfl) (by kernel_rfl) ?_
          rintro w2 rfl
          refine ⟨?_, trivial⟩
          obtain ⟨x0, x1, x2, g0, g1, g2⟩ := RowAt.c3 (hD.get 6 rfl)
          simp only [List.drop_succ_cons, List.drop_zero, List.take_succ_cons, List.take_zero]
          go_wp2_with fail
          refine ⟨.inl (by kernel_rfl), ?_⟩
          replace hD := ((hD.putRow 6 (g := g11) rfl 0 (.slice qb B.length cb) (.slice qb B.length cb) [.string ⟨#[]⟩, .int .i64 0] (by simp) rfl).putRow 6 (g := g11) rfl 1 (.string H) (.slice qb B.length cb) [.string H, .int .i64 0] (by simp) rfl).putRow 6 (g := g11) rfl 2 (.int .i64 N) (.slice qb B.length cb) [.string H, .int .i64 N] (by simp) rfl
          refine wpAnyTS_done (by kernel_rfl) ?_
          rintro w2 rfl
          go_wp2_with fail
          go_meet
          exact ⟨g11, qb, cb, rfl, hD⟩
        · simp only [List.drop_succ_cons, List.drop_zero, List.take_succ_cons, List.take_zero]
          go_wp2_with fail
          refine ⟨.inr (AllS.of_up ((Up.refl _).alloc _)), ?_⟩
          replace hD := hD.madeRow (.slice none 0 0) [.string ⟨#[]⟩, .int .i64 0] 24
          obtain ⟨x0, x1, x2, g0, g1, g2⟩ := RowAt.c3 (hD.get 5 rfl)
          have HG := Lib.hid (rfl : wa.heap.size = wa.heap.size)
          generalize wa.heap.size = g11 at *
          generalize wa.alloc _ = wy at *
          clear HG
          refine wpAnyTS_some 3 [] 2 (by rfl) (by kernel_rfl) (by kernel_rfl) ?_
          rintro w2 rfl
          refine ⟨?_, trivial⟩
          simp only [List.drop_succ_cons, List.drop_zero, List.take_succ_cons, List.take_zero]
          go_wp2_with ((with_reducible refine (C2.out _ (HA0.out.up hD.up)).mono ?_); rintro e wn ⟨qb, cb, rfl, hs, hn2, hb⟩)
          refine ⟨.inr (AllS.of_up hb), ?_⟩
          replace hD := hold_addSl hD hb hs hn2
          clear hb hs hn2
          refine wpAnyTS_quiet 8 1 1 92 (by rfl) (by kernel_rfl) (fun _ _ _ _ _ h => h) (by kernel_rfl) (by kernel_rfl) ?_
          apply Exists.intro
          refine ⟨fun w2 hw2 => ?_, ?_⟩
          · have hne := laterR_ne (R := Eq) eqOK w2
            skip
            simp only [List.drop_succ_cons, List.drop_zero, List.take_succ_cons, List.take_zero]
            repeat (go_big_quiet_step (fail))
            exact wpQuiet_nil rfl
          refine wpAnyTS_some 10 [] 0 (by rfl) (by kernel_rfl) (by kernel_rfl) ?_
          rintro w2 rfl
          refine ⟨?_, trivial⟩
          obtain ⟨x0, x1, x2, g0, g1, g2⟩ := RowAt.c3 (hD.get 5 rfl)
          simp only [List.drop_succ_cons, List.drop_zero, List.take_succ_cons, List.take_zero]
          go_wp2_with fail
          refine ⟨.inl (by kernel_rfl), ?_⟩
          replace hD := ((hD.putRow 5 (g := g11) rfl 0 (.slice qb B.length cb) (.slice qb B.length cb) [.string ⟨#[]⟩, .int .i64 0] (by simp) rfl).putRow 5 (g := g11) rfl 1 (.string H) (.slice qb B.length cb) [.string H, .int .i64 0] (by simp) rfl).putRow 5 (g := g11) rfl 2 (.int .i64 N) (.slice qb B.length cb) [.string H, .int .i64 N] (by simp) rfl
          refine wpAnyTS_done (by kernel_rfl) ?_
          rintro w2 rfl
          go_wp2_with fail
          go_meet
          exact ⟨g11, qb, cb, rfl, hD.perm (List.Perm.append_left [rowR w.heap.size (.slice (some ⟨ga, oa, none⟩) L.length c) [.string H, .int .i64 N], rowR (w.heap.size + 1) (.slice none 0 0) [.string ⟨#[]⟩, .int .i64 0], rowR (w.heap.size + 1 + 1) (.slice none 0 0) [.string ⟨#[]⟩, .int .i64 0], slR qa ca A, rowR g10 (.slice qa A.length ca) [.string PK, .int .i64 (page + 1)]] (List.Perm.swap _ _ []))⟩
      case rest =>
      clear hD
      obtain ⟨g11, qb, cb, rfl, hD⟩ := hcut
      clear C1 C2
      go_upto_region 10 with fail
      refine wp_region_two Eq (AllS (fun k => k = w.heap.size + 1 ∨ k = w.heap.size + 1 + 1)) (allS_ok _) (by kernel_rfl) (by kernel_rfl) (by kernel_rfl) ?_
      generalize wc = wq at *
      replace hD := hD.next ((Below.refl _ wq).drew)
      generalize wq.drew = wa at *
      have e1 : ¬ (g10 = w.heap.size + 1 ∨ g10 = w.heap.size + 1 + 1) := fun h => h.elim (fun h => hD.apart' 4 1 rfl rfl (by decide) g10 rfl h) (fun h => hD.apart' 4 2 rfl rfl (by decide) g10 rfl h)
      have e2 : ¬ (g11 = w.heap.size + 1 ∨ g11 = w.heap.size + 1 + 1) := fun h => h.elim (fun h => hD.apart' 6 1 rfl rfl (by decide) g11 rfl h) (fun h => hD.apart' 6 2 rfl rfl (by decide) g11 rfl h)
      obtain ⟨t0, t1, t2, f0, f1, f2⟩ := RowAt.c3 (hD.get 4 rfl)
      obtain ⟨s0, s1, s2, z0, z1, z2⟩ := RowAt.c3 (hD.get 6 rfl)
      clear f0 f1 f2 z0 z1 z2
      refine wpAnyTS_quiet 0 2 3 92 (by rfl) (by kernel_rfl) (fun _ _ _ _ _ h => h) (by kernel_rfl) (by kernel_rfl) ?_
      apply Exists.intro
      refine ⟨fun w2 hw2 => ?_, ?_⟩
      · have hne := laterR_ne (R := Eq) eqOK w2
        obtain ⟨l0, l1, l2, l3, l4, l5⟩ := And.intro (laterS t0 e1 hw2) (And.intro (laterS t1 e1 hw2) (And.intro (laterS t2 e1 hw2) (And.intro (laterS s0 e2 hw2) (And.intro (laterS s1 e2 hw2) (laterS s2 e2 hw2)))))
        simp only [List.drop_zero, List.take_succ_cons, List.take_zero]
        repeat (go_big_quiet_step (fail))
        exact wpQuiet_nil rfl
      clear t0 t1 t2 s0 s1 s2
      have hE := ((hD.putRow 1 (g := w.heap.size + 1) rfl 0 (.slice qa A.length ca) (.slice qa A.length ca) [.string ⟨#[]⟩, .int .i64 0] (by simp) rfl).putRow 1 (g := w.heap.size + 1) rfl 1 (.string PK) (.slice qa A.length ca) [.string PK, .int .i64 0] (by simp) rfl).putRow 1 (g := w.heap.size + 1) rfl 2 (.int .i64 (page + 1)) (.slice qa A.length ca) [.string PK, .int .i64 (page + 1)] (by simp) rfl
      refine wpAnyTS_some 2 [] 2 (by rfl) (by kernel_rfl) (by kernel_rfl) ?_
      rintro w2 rfl
      refine ⟨?_, trivial⟩
      simp only [List.drop_succ_cons, List.drop_zero, List.take_succ_cons, List.take_zero]
      obtain ⟨x0, x1, x2, g0, g1, g2⟩ := RowAt.c3 (hD.get 1 rfl)
      go_wp2_with fail
      refine ⟨.inr ?_, ?_⟩
      · exact (((AllS.refl _ wa).setCell _ 0 _ (.inl (.inl rfl))).setCell _ 1 _ (.inl (.inl rfl))).setCell _ 2 _ (.inl (.inl rfl))
      clear hD x0 x1 x2 g0 g1 g2
      have hD := hE
      clear hE
      generalize ((wa.setCell ⟨w.heap.size + 1, 0, none⟩ (.slice qa A.length ca)).setCell ⟨w.heap.size + 1, 1, none⟩ (.string PK)).setCell ⟨w.heap.size + 1, 2, none⟩ (.int .i64 (page + 1)) = wb at *
      have hE := ((hD.putRow 2 (g := w.heap.size + 1 + 1) rfl 0 (.slice qb B.length cb) (.slice qb B.length cb) [.string ⟨#[]⟩, .int .i64 0] (by simp) rfl).putRow 2 (g := w.heap.size + 1 + 1) rfl 1 (.string H) (.slice qb B.length cb) [.string H, .int .i64 0] (by simp) rfl).putRow 2 (g := w.heap.size + 1 + 1) rfl 2 (.int .i64 N) (.slice qb B.length cb) [.string H, .int .i64 N] (by simp) rfl
      refine wpAnyTS_some 3 [] 1 (by rfl) (by kernel_rfl) (by kernel_rfl) ?_
      rintro w2 rfl
      refine ⟨?_, trivial⟩
      simp only [List.drop_succ_cons, List.drop_zero, List.take_succ_cons, List.take_zero]
      obtain ⟨x0, x1, x2, g0, g1, g2⟩ := RowAt.c3 (hD.get 2 rfl)
      go_wp2_with fail
      refine ⟨.inr ?_, ?_⟩
      · exact (((AllS.refl _ wb).setCell _ 0 _ (.inl (.inr rfl))).setCell _ 1 _ (.inl (.inr rfl))).setCell _ 2 _ (.inl (.inr rfl))
      clear hD x0 x1 x2 g0 g1 g2
      have hD := hE
      clear hE
      generalize ((wb.setCell ⟨w.heap.size + 1 + 1, 0, none⟩ (.slice qb B.length cb)).setCell ⟨w.heap.size + 1 + 1, 1, none⟩ (.string H)).setCell ⟨w.heap.size + 1 + 1, 2, none⟩ (.int .i64 N) = wd at *
      refine wpAnyTS_quiet 4 1 0 92 (by rfl) (by kernel_rfl) (fun _ _ _ _ _ h => h) (by kernel_rfl) (by kernel_rfl) ?_
      apply Exists.intro
      refine ⟨fun w2 hw2 => ?_, ?_⟩
      · have hne := laterR_ne (R := Eq) eqOK w2
        skip
        simp only [List.drop_succ_cons, List.drop_zero, List.take_succ_cons, List.take_zero]
        repeat (go_big_quiet_step (fail))
        exact wpQuiet_nil rfl
      refine wpAnyTS_done (by kernel_rfl) ?_
      rintro w2 rfl
      have HF := Lib.hid (HP2.out _ qa ca qb cb hD.up (hD.get 3 rfl) (slR_new hD (j := 3) rfl) (hD.get 5 rfl) (slR_new hD (j := 5) rfl))
      obtain ⟨t0, t1, t2, f0, f1, f2⟩ := RowAt.c3 (hD.get 1 rfl)
      obtain ⟨s0, s1, s2, z0, z1, z2⟩ := RowAt.c3 (hD.get 2 rfl)
      clear hD
      go_wp2_with fail
      exact bodyPost_ret (v := .tuple #[.agg #[.slice qa A.length ca, .string PK, .int .i64 (page + 1)], .agg #[.slice qb B.length cb, .string H, .int .i64 N], .int .i64 0]) (by simp [results, Try.results29, go_sem, *]) rfl HF.out
theorem leaf_Split (x : LfD) (hx : x.Sm) (page : Int) (q : Option Addr) (c : Nat) (w : World) (hA : SlAt w q c x.l) :
    Calls Try.prog 29 #[lfV x q c, .int .i64 page] w (LfPost2 w (sA x page) (sB x page) (sE x page)) := by
  cases hm : maySplit x page
  · exact leaf_Split_bad x hx page q c w hA hm
  · exact leaf_Split_good x hx page q c w hA hm
end Go.Proofs.Ytdlcmbnbfghdmaa
