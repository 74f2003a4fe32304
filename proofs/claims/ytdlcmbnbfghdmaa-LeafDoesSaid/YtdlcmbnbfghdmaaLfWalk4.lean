/- Layer 10: Put, Del. -/
import Derived.Test.YtdlcmbnbfghdmaaLfWalk3
namespace Bw
theorem mayPut_iff (x : LfD) (k v : ByteArray) : mayPut x k v = (x.right && keyB k && valB v && (decide (x.high = ByteArray.empty) || ltS k x.high)) := rfl
theorem putL_over (l : List PairD) (k v : ByteArray) : putL l k v = l.take (findI l k) ++ [(k, v)] ++ l.drop (if findB l k then findI l k + 1 else findI l k) := by simp [putL]
theorem delL_over (l : List PairD) (k : ByteArray) : delL l k = l.take (findI l k) ++ [] ++ l.drop (findI l k + 1) := by simp [delL]
end Bw
namespace Go.Proofs.Ytdlcmbnbfghdmaa
open Go.RowKit Bw
set_option linter.unusedVariables false
/-- A leaf in new memory, and an error. -/
def LfPost (w : World) (x : LfD) (E : Int) (e : Ending) (w' : World) : Prop := ∃ q c, e = .returned (.tuple #[lfV x q c, .int .i64 E]) ∧ (slR q c x.l).holds w' ∧ NewQ w q ∧ Below w.heap.size w w'
set_option maxHeartbeats 2000000 in
theorem leaf_Put_bad (x : LfD) (hx : x.Sm) (k v : ByteArray) (q : Option Addr) (c : Nat) (w : World) (hA : SlAt w q c x.l) (hm : mayPut x k v = false) :
    Calls Try.prog 25 #[lfV x q c, .string k, .string v] w (LfPost w (pD x k v) (pE x k v)) := by
  have hP : ∀ w', Below w.heap.size w w' → LfPost w (pD x k v) (pE x k v) (.returned (.tuple #[.agg #[.slice none 0 0, .string ⟨#[]⟩, .int .i64 0], .int .i64 1])) w' := fun w' hw => by
    have e1 : pE x k v = 1 := by simp [pE, hm]
    have e2 : pD x k v = noneL := by simp [pD, e1]
    rw [e1, e2]
    exact ⟨none, 0, rfl, (slR_nil w').1, (slR_nil w).2, hw⟩
  have HP := Lib.hid hP
  have CR := Lib.hid (fun w hA => leaf_Right x hx q c w hA)
  have C1 := Lib.hid (rec_Key k)
  have C2 := Lib.hid (rec_Value v)
  generalize LfPost w (pD x k v) (pE x k v) = PP at *
  rw [mayPut_iff] at hm
  clear hP
  obtain ⟨L, H, N⟩ := x
  simp only [lfV] at *
  replace hA : SlAt w q c L := hA
  have HA := Lib.hid hA
  clear hA
  have key : LfD.right ⟨L, H, N⟩ = false ∨ (LfD.right ⟨L, H, N⟩ = true ∧ keyB k = false) ∨ (LfD.right ⟨L, H, N⟩ = true ∧ keyB k = true ∧ valB v = false) ∨ (LfD.right ⟨L, H, N⟩ = true ∧ keyB k = true ∧ valB v = true ∧ ¬ H = ByteArray.empty ∧ ltS k H = false) := by
    cases h1 : LfD.right ⟨L, H, N⟩
    · exact .inl rfl
    cases h2 : keyB k
    · exact .inr (.inl ⟨rfl, rfl⟩)
    cases h3 : valB v
    · exact .inr (.inr (.inl ⟨rfl, rfl, rfl⟩))
    simp [h1, h2, h3] at hm
    exact .inr (.inr (.inr ⟨rfl, rfl, rfl, hm.1, hm.2⟩))
  clear hm
  rcases key with h1 | ⟨h1, h2⟩ | ⟨h1, h2, h3⟩ | ⟨h1, h2, h3, h4, h5⟩
  · rw [h1] at CR
    clear h1
    go_enter Try.func25, Try.ntmps25
    go_upto_region 1 with fail
    have hD := ((Hold.start w).madeRow (.slice q L.length c) [.string H, .int .i64 N] 24).madeRow (.slice none 0 0) [.string ⟨#[]⟩, .int .i64 0] 24
    rw [World.size_alloc, List.nil_append] at hD
    generalize hw0 : (w.alloc (.cells #[.slice q L.length c, .string H, .int .i64 N] 24)).alloc (.cells #[.slice none 0 0, .string ⟨#[]⟩, .int .i64 0] 24) = w0 at *
    replace hD : Hold w w0 [rowR w.heap.size (.slice q L.length c) [.string H, .int .i64 N], rowR (w.heap.size + 1) (.slice none 0 0) [.string ⟨#[]⟩, .int .i64 0]] := hw0 ▸ hD
    clear hw0
    obtain ⟨t0, t1, t2, f0, f1, f2⟩ := RowAt.c3 (hD.get 0 rfl)
    obtain ⟨s0, s1, s2, z0, z1, z2⟩ := RowAt.c3 (hD.get 1 rfl)
    go_wp2_with (first
      | ((with_reducible refine (CR.out _ (HA.out.up hD.up).pairs).mono ?_); rintro e wn ⟨rfl, hwn⟩; replace hD := hD.next hwn; clear hwn; clear t0 t1 t2 f0 f1 f2 s0 s1 s2 z0 z1 z2; obtain ⟨t0, t1, t2, f0, f1, f2⟩ := RowAt.c3 (hD.get 0 rfl); obtain ⟨s0, s1, s2, z0, z1, z2⟩ := RowAt.c3 (hD.get 1 rfl))
      | ((with_reducible refine (C1.out _).mono ?_); rintro e wn ⟨rfl, rfl⟩) | ((with_reducible refine (C2.out _).mono ?_); rintro e wn ⟨rfl, rfl⟩))
    exact bodyPost_ret (v := .tuple #[.agg #[.slice none 0 0, .string ⟨#[]⟩, .int .i64 0], .int .i64 1]) (by simp [results, Try.results25, go_sem, *]) rfl (HP.out _ (Up.setCell (Up.setCell (Up.setCell hD.up _ _ _ (by omega)) _ _ _ (by omega)) _ _ _ (by omega)))
  · rw [h1] at CR
    rw [h2] at C1
    clear h1 h2
    go_enter Try.func25, Try.ntmps25
    go_upto_region 1 with fail
    have hD := ((Hold.start w).madeRow (.slice q L.length c) [.string H, .int .i64 N] 24).madeRow (.slice none 0 0) [.string ⟨#[]⟩, .int .i64 0] 24
    rw [World.size_alloc, List.nil_append] at hD
    generalize hw0 : (w.alloc (.cells #[.slice q L.length c, .string H, .int .i64 N] 24)).alloc (.cells #[.slice none 0 0, .string ⟨#[]⟩, .int .i64 0] 24) = w0 at *
    replace hD : Hold w w0 [rowR w.heap.size (.slice q L.length c) [.string H, .int .i64 N], rowR (w.heap.size + 1) (.slice none 0 0) [.string ⟨#[]⟩, .int .i64 0]] := hw0 ▸ hD
    clear hw0
    obtain ⟨t0, t1, t2, f0, f1, f2⟩ := RowAt.c3 (hD.get 0 rfl)
    obtain ⟨s0, s1, s2, z0, z1, z2⟩ := RowAt.c3 (hD.get 1 rfl)
    go_wp2_with (first
      | ((with_reducible refine (CR.out _ (HA.out.up hD.up).pairs).mono ?_); rintro e wn ⟨rfl, hwn⟩; replace hD := hD.next hwn; clear hwn; clear t0 t1 t2 f0 f1 f2 s0 s1 s2 z0 z1 z2; obtain ⟨t0, t1, t2, f0, f1, f2⟩ := RowAt.c3 (hD.get 0 rfl); obtain ⟨s0, s1, s2, z0, z1, z2⟩ := RowAt.c3 (hD.get 1 rfl))
      | ((with_reducible refine (C1.out _).mono ?_); rintro e wn ⟨rfl, rfl⟩) | ((with_reducible refine (C2.out _).mono ?_); rintro e wn ⟨rfl, rfl⟩))
    exact bodyPost_ret (v := .tuple #[.agg #[.slice none 0 0, .string ⟨#[]⟩, .int .i64 0], .int .i64 1]) (by simp [results, Try.results25, go_sem, *]) rfl (HP.out _ (Up.setCell (Up.setCell (Up.setCell hD.up _ _ _ (by omega)) _ _ _ (by omega)) _ _ _ (by omega)))
  · rw [h1] at CR
    rw [h2] at C1
    rw [h3] at C2
    clear h1 h2 h3
    go_enter Try.func25, Try.ntmps25
    go_upto_region 1 with fail
    have hD := ((Hold.start w).madeRow (.slice q L.length c) [.string H, .int .i64 N] 24).madeRow (.slice none 0 0) [.string ⟨#[]⟩, .int .i64 0] 24
    rw [World.size_alloc, List.nil_append] at hD
    generalize hw0 : (w.alloc (.cells #[.slice q L.length c, .string H, .int .i64 N] 24)).alloc (.cells #[.slice none 0 0, .string ⟨#[]⟩, .int .i64 0] 24) = w0 at *
    replace hD : Hold w w0 [rowR w.heap.size (.slice q L.length c) [.string H, .int .i64 N], rowR (w.heap.size + 1) (.slice none 0 0) [.string ⟨#[]⟩, .int .i64 0]] := hw0 ▸ hD
    clear hw0
    obtain ⟨t0, t1, t2, f0, f1, f2⟩ := RowAt.c3 (hD.get 0 rfl)
    obtain ⟨s0, s1, s2, z0, z1, z2⟩ := RowAt.c3 (hD.get 1 rfl)
    go_wp2_with (first
      | ((with_reducible refine (CR.out _ (HA.out.up hD.up).pairs).mono ?_); rintro e wn ⟨rfl, hwn⟩; replace hD := hD.next hwn; clear hwn; clear t0 t1 t2 f0 f1 f2 s0 s1 s2 z0 z1 z2; obtain ⟨t0, t1, t2, f0, f1, f2⟩ := RowAt.c3 (hD.get 0 rfl); obtain ⟨s0, s1, s2, z0, z1, z2⟩ := RowAt.c3 (hD.get 1 rfl))
      | ((with_reducible refine (C1.out _).mono ?_); rintro e wn ⟨rfl, rfl⟩) | ((with_reducible refine (C2.out _).mono ?_); rintro e wn ⟨rfl, rfl⟩))
    exact bodyPost_ret (v := .tuple #[.agg #[.slice none 0 0, .string ⟨#[]⟩, .int .i64 0], .int .i64 1]) (by simp [results, Try.results25, go_sem, *]) rfl (HP.out _ (Up.setCell (Up.setCell (Up.setCell hD.up _ _ _ (by omega)) _ _ _ (by omega)) _ _ _ (by omega)))
  · rw [h1] at CR
    rw [h2] at C1
    rw [h3] at C2
    have e1 := str_ltB k H
    rw [h5] at e1
    have e2 := toList_ne h4
    have e3 := toList_nonempty h4
    clear h1 h2 h3 h4 h5
    go_enter Try.func25, Try.ntmps25
    go_upto_region 1 with fail
    have hD := ((Hold.start w).madeRow (.slice q L.length c) [.string H, .int .i64 N] 24).madeRow (.slice none 0 0) [.string ⟨#[]⟩, .int .i64 0] 24
    rw [World.size_alloc, List.nil_append] at hD
    generalize hw0 : (w.alloc (.cells #[.slice q L.length c, .string H, .int .i64 N] 24)).alloc (.cells #[.slice none 0 0, .string ⟨#[]⟩, .int .i64 0] 24) = w0 at *
    replace hD : Hold w w0 [rowR w.heap.size (.slice q L.length c) [.string H, .int .i64 N], rowR (w.heap.size + 1) (.slice none 0 0) [.string ⟨#[]⟩, .int .i64 0]] := hw0 ▸ hD
    clear hw0
    obtain ⟨t0, t1, t2, f0, f1, f2⟩ := RowAt.c3 (hD.get 0 rfl)
    obtain ⟨s0, s1, s2, z0, z1, z2⟩ := RowAt.c3 (hD.get 1 rfl)
    go_wp2_with (first
      | ((with_reducible refine (CR.out _ (HA.out.up hD.up).pairs).mono ?_); rintro e wn ⟨rfl, hwn⟩; replace hD := hD.next hwn; clear hwn; clear t0 t1 t2 f0 f1 f2 s0 s1 s2 z0 z1 z2; obtain ⟨t0, t1, t2, f0, f1, f2⟩ := RowAt.c3 (hD.get 0 rfl); obtain ⟨s0, s1, s2, z0, z1, z2⟩ := RowAt.c3 (hD.get 1 rfl))
      | ((with_reducible refine (C1.out _).mono ?_); rintro e wn ⟨rfl, rfl⟩) | ((with_reducible refine (C2.out _).mono ?_); rintro e wn ⟨rfl, rfl⟩))
    exact bodyPost_ret (v := .tuple #[.agg #[.slice none 0 0, .string ⟨#[]⟩, .int .i64 0], .int .i64 1]) (by simp [results, Try.results25, go_sem, *]) rfl (HP.out _ (Up.setCell (Up.setCell (Up.setCell hD.up _ _ _ (by omega)) _ _ _ (by omega)) _ _ _ (by omega)))
theorem one_sl (w : World) (k v : ByteArray) (e : TypeId) : SlAt (w.alloc (.cells #[.string k, .string v] e)) (some ⟨w.heap.size, 0, none⟩) 1 [(k, v)] :=
  ⟨fun i hi => by
    obtain rfl : i = 0 := by simp at hi; exact hi
    have h := RowAt.made w e [.string k, .string v]
    exact ⟨w.heap.size, 0, rfl, h.cell 0 (by simp), h.cell 1 (by simp)⟩, by simp, fun h => by cases h⟩
set_option maxHeartbeats 4000000 in
theorem leaf_Put_good (x : LfD) (hx : x.Sm) (k v : ByteArray) (hk : k.size ≤ 1000) (hv : v.size ≤ 1000) (q : Option Addr) (c : Nat) (w : World) (hA : SlAt w q c x.l) (hm : mayPut x k v = true) :
    Calls Try.prog 25 #[lfV x q c, .string k, .string v] w (LfPost w (pD x k v) (pE x k v)) := by
  have hm' := hm
  rw [mayPut_iff] at hm
  simp only [Bool.and_eq_true, Bool.or_eq_true, decide_eq_true_eq] at hm
  obtain ⟨⟨⟨h1, h2⟩, h3⟩, h4⟩ := hm
  have hsm := right_sm h1
  have CR := Lib.hid (fun w hA => leaf_Right x hx q c w hA)
  have CF := Lib.hid (fun w hA => leaf_find x h1 q c k w hA)
  have C1 := Lib.hid (rec_Key k)
  have C2 := Lib.hid (rec_Value v)
  rw [h1] at CR
  rw [h2] at C1
  rw [h3] at C2
  have hI := findI_le x.l k
  obtain ⟨J, hJ⟩ : ∃ J, J = (if findB x.l k then findI x.l k + 1 else findI x.l k) := ⟨_, rfl⟩
  have hJ1 : findI x.l k ≤ J := by rw [hJ]; split <;> omega
  have hJ2 : J ≤ x.l.length := by
    rw [hJ]; split
    · rename_i hB
      obtain ⟨h, -⟩ := findB_iff.1 hB
      omega
    · exact hI
  have HL := Lib.hid (show putL x.l k v = overL x.l [(k, v)] (findI x.l k) J by rw [putL_over, ← hJ]; rfl)
  have hlen : (putL x.l k v).length ≤ 1000 := by rw [HL.out, overL_length hJ1 hJ2]; simp; omega
  have CO := Lib.hid (show ∀ (w : World) (g : Nat), SlAt w q c x.l → SlAt w (some ⟨g, 0, none⟩) 1 [(k, v)] → Calls Try.prog 55 #[.slice q x.l.length c, .int .i64 (findI x.l k), .int .i64 J, .slice (some ⟨g, 0, none⟩) 1 1] w
      fun e w' => ∃ q' c', e = .returned (.slice q' (putL x.l k v).length c') ∧ (slR q' c' (putL x.l k v)).holds w' ∧ NewQ w q' ∧ Below w.heap.size w w' from by
    rw [HL.out]
    exact fun w g h h' => leaf_over x.l [(k, v)] (by omega) (by simp) _ _ hJ1 hJ2 q (some ⟨g, 0, none⟩) c 1 w h h')
  have hS : LfD.Sm ⟨putL x.l k v, x.high, x.next⟩ := ⟨hlen, hx.high, fun p hp => by
    rw [HL.out, overL, List.mem_append, List.mem_append] at hp
    rcases hp with (hp | hp) | hp
    · exact hx.each p (List.mem_of_mem_take hp)
    · rw [List.mem_singleton] at hp; subst hp; exact ⟨hk, hv⟩
    · exact hx.each p (List.mem_of_mem_drop hp)⟩
  have CT := Lib.hid (fun q' c' w hA => leaf_fits ⟨putL x.l k v, x.high, x.next⟩ hS q' c' w hA)
  have HP := Lib.hid (show ∀ w' q' c', Below w.heap.size w w' → (slR q' c' (putL x.l k v)).holds w' → NewQ w q' → LfPost w (pD x k v) (pE x k v) (.returned (.tuple #[if wtL (putL x.l k v) ≤ 231 then .agg #[.slice q' (putL x.l k v).length c', .string x.high, .int .i64 x.next] else .agg #[.slice none 0 0, .string ⟨#[]⟩, .int .i64 0], .int .i64 (if wtL (putL x.l k v) ≤ 231 then 0 else 6)])) w' from fun w' q' c' hb hs hn => by
    by_cases hw : wtL (putL x.l k v) ≤ 231
    · have e1 : pE x k v = 0 := by simp [pE, hm', hw]
      have e2 : pD x k v = ⟨putL x.l k v, x.high, x.next⟩ := by simp [pD, e1]
      rw [e1, e2, if_pos hw, if_pos hw]
      exact ⟨q', c', rfl, hs, hn, hb⟩
    · have e1 : pE x k v = 6 := by simp [pE, hm', hw]
      have e2 : pD x k v = noneL := by simp [pD, e1]
      rw [e1, e2, if_neg hw, if_neg hw]
      exact ⟨none, 0, rfl, (slR_nil w').1, (slR_nil w).2, hb⟩)
  generalize LfPost w (pD x k v) (pE x k v) = PP at *
  clear HL hlen hS hJ1 hJ2 hm' h1 h2 h3
  generalize putL x.l k v = L' at *
  obtain ⟨I, hI'⟩ : ∃ I, I = findI x.l k := ⟨_, rfl⟩
  rw [← hI'] at CF CO hJ hI
  clear hI'
  have i0 : (I : Int) ≤ 1000 := by omega
  have i1 : (0 : Int) ≤ (I : Int) := by omega
  obtain ⟨L, H, N⟩ := x
  simp only [lfV] at *
  replace hA : SlAt w q c L := hA
  have HA := Lib.hid hA
  clear hA hsm hI hx
  have key : (H.toList = [] ∧ H.toList.isEmpty = true) ∨ (¬ H.toList = [] ∧ H.toList.isEmpty = false ∧ Op.bytesLess k.toList H.toList = true) := by
    by_cases h : H = ByteArray.empty
    · exact .inl (by subst h; rw [Lib.toList_data]; exact ⟨rfl, rfl⟩)
    · exact .inr ⟨toList_ne h, toList_nonempty h, by rw [str_ltB]; exact h4.resolve_left h⟩
  clear h4
  cases hB : findB L k
  · rw [hB] at CF hJ
    simp only [Bool.false_eq_true, if_false] at hJ
    subst hJ
    clear hB
    rcases key with ⟨e1, e2⟩ | ⟨e1, e2, e3⟩ <;> by_cases hw : wtL L' ≤ 231
    · rw [decide_eq_true hw] at CT
      simp only [if_pos hw] at HP
      clear hw
      go_enter Try.func25, Try.ntmps25
      go_upto_region 1 with fail
      have hD := ((Hold.start w).madeRow (.slice q L.length c) [.string H, .int .i64 N] 24).madeRow (.slice none 0 0) [.string ⟨#[]⟩, .int .i64 0] 24
      rw [World.size_alloc, List.nil_append] at hD
      generalize hw0 : (w.alloc (.cells #[.slice q L.length c, .string H, .int .i64 N] 24)).alloc (.cells #[.slice none 0 0, .string ⟨#[]⟩, .int .i64 0] 24) = w0 at *
      replace hD : Hold w w0 [rowR w.heap.size (.slice q L.length c) [.string H, .int .i64 N], rowR (w.heap.size + 1) (.slice none 0 0) [.string ⟨#[]⟩, .int .i64 0]] := hw0 ▸ hD
      clear hw0
      obtain ⟨t0, t1, t2, f0, f1, f2⟩ := RowAt.c3 (hD.get 0 rfl)
      obtain ⟨s0, s1, s2, z0, z1, z2⟩ := RowAt.c3 (hD.get 1 rfl)
      go_upto_region 8 with (first
        | ((with_reducible refine (CR.out _ (HA.out.up hD.up).pairs).mono ?_); rintro e wn ⟨rfl, hwn⟩; replace hD := hD.next hwn; clear hwn; clear t0 t1 t2 f0 f1 f2 s0 s1 s2 z0 z1 z2; obtain ⟨t0, t1, t2, f0, f1, f2⟩ := RowAt.c3 (hD.get 0 rfl); obtain ⟨s0, s1, s2, z0, z1, z2⟩ := RowAt.c3 (hD.get 1 rfl))
        | ((with_reducible refine (C1.out _).mono ?_); rintro e wn ⟨rfl, rfl⟩) | ((with_reducible refine (C2.out _).mono ?_); rintro e wn ⟨rfl, rfl⟩)
        | ((with_reducible refine (CF.out _ (HA.out.up hD.up).pairs).mono ?_); rintro e wn ⟨rfl, hwn⟩; replace hD := hD.next hwn; clear hwn; clear t0 t1 t2 f0 f1 f2 s0 s1 s2 z0 z1 z2; obtain ⟨t0, t1, t2, f0, f1, f2⟩ := RowAt.c3 (hD.get 0 rfl); obtain ⟨s0, s1, s2, z0, z1, z2⟩ := RowAt.c3 (hD.get 1 rfl))
        | ((with_reducible refine (CO.out _ _ (HA.out.up (hD.up.alloc _)) (one_sl _ _ _ _)).mono ?_); rintro e wn ⟨q', c', rfl, hs, hn, hb⟩; replace hD := hold_addSl (hD.next ((Below.refl _ _).alloc (Nat.le_refl _) _)) hb hs hn; clear hb hs hn; clear t0 t1 t2 f0 f1 f2 s0 s1 s2 z0 z1 z2; obtain ⟨t0, t1, t2, f0, f1, f2⟩ := RowAt.c3 (hD.get 0 rfl); obtain ⟨s0, s1, s2, z0, z1, z2⟩ := RowAt.c3 (hD.get 1 rfl)))
      replace hD := hD.putRow 0 (g := w.heap.size) rfl 0 (.slice q' L'.length c') (.slice q' L'.length c') [.string H, .int .i64 N] (by simp) rfl
      clear t0 t1 t2 f0 f1 f2 s0 s1 s2 z0 z1 z2
      obtain ⟨t0, t1, t2, f0, f1, f2⟩ := RowAt.c3 (hD.get 0 rfl)
      obtain ⟨s0, s1, s2, z0, z1, z2⟩ := RowAt.c3 (hD.get 1 rfl)
      generalize wn.setCell ⟨w.heap.size, 0, none⟩ (.slice q' L'.length c') = w8 at *
      go_wp2_with ((with_reducible refine (CT.out _ _ _ (slR_pairs (hD.get 2 rfl))).mono ?_); rintro e wn ⟨rfl, hwn⟩; replace hD := hD.next hwn; clear hwn; clear t0 t1 t2 f0 f1 f2 s0 s1 s2 z0 z1 z2; obtain ⟨t0, t1, t2, f0, f1, f2⟩ := RowAt.c3 (hD.get 0 rfl); obtain ⟨s0, s1, s2, z0, z1, z2⟩ := RowAt.c3 (hD.get 1 rfl))
      have hE := ((hD.putRow 1 (g := w.heap.size + 1) rfl 0 (.slice q' L'.length c') (.slice q' L'.length c') [.string ⟨#[]⟩, .int .i64 0] (by simp) rfl).putRow 1 (g := w.heap.size + 1) rfl 1 (.string H) (.slice q' L'.length c') [.string H, .int .i64 0] (by simp) rfl).putRow 1 (g := w.heap.size + 1) rfl 2 (.int .i64 N) (.slice q' L'.length c') [.string H, .int .i64 N] (by simp) rfl
      exact bodyPost_ret (v := .tuple #[.agg #[.slice q' L'.length c', .string H, .int .i64 N], .int .i64 0]) (by simp [results, Try.results25, go_sem, *]) rfl (HP.out _ q' c' hE.up (hE.get 2 rfl) (slR_new hE (j := 2) rfl))
    · rw [decide_eq_false hw] at CT
      simp only [if_neg hw] at HP
      clear hw
      go_enter Try.func25, Try.ntmps25
      go_upto_region 1 with fail
      have hD := ((Hold.start w).madeRow (.slice q L.length c) [.string H, .int .i64 N] 24).madeRow (.slice none 0 0) [.string ⟨#[]⟩, .int .i64 0] 24
      rw [World.size_alloc, List.nil_append] at hD
      generalize hw0 : (w.alloc (.cells #[.slice q L.length c, .string H, .int .i64 N] 24)).alloc (.cells #[.slice none 0 0, .string ⟨#[]⟩, .int .i64 0] 24) = w0 at *
      replace hD : Hold w w0 [rowR w.heap.size (.slice q L.length c) [.string H, .int .i64 N], rowR (w.heap.size + 1) (.slice none 0 0) [.string ⟨#[]⟩, .int .i64 0]] := hw0 ▸ hD
      clear hw0
      obtain ⟨t0, t1, t2, f0, f1, f2⟩ := RowAt.c3 (hD.get 0 rfl)
      obtain ⟨s0, s1, s2, z0, z1, z2⟩ := RowAt.c3 (hD.get 1 rfl)
      go_upto_region 8 with (first
        | ((with_reducible refine (CR.out _ (HA.out.up hD.up).pairs).mono ?_); rintro e wn ⟨rfl, hwn⟩; replace hD := hD.next hwn; clear hwn; clear t0 t1 t2 f0 f1 f2 s0 s1 s2 z0 z1 z2; obtain ⟨t0, t1, t2, f0, f1, f2⟩ := RowAt.c3 (hD.get 0 rfl); obtain ⟨s0, s1, s2, z0, z1, z2⟩ := RowAt.c3 (hD.get 1 rfl))
        | ((with_reducible refine (C1.out _).mono ?_); rintro e wn ⟨rfl, rfl⟩) | ((with_reducible refine (C2.out _).mono ?_); rintro e wn ⟨rfl, rfl⟩)
        | ((with_reducible refine (CF.out _ (HA.out.up hD.up).pairs).mono ?_); rintro e wn ⟨rfl, hwn⟩; replace hD := hD.next hwn; clear hwn; clear t0 t1 t2 f0 f1 f2 s0 s1 s2 z0 z1 z2; obtain ⟨t0, t1, t2, f0, f1, f2⟩ := RowAt.c3 (hD.get 0 rfl); obtain ⟨s0, s1, s2, z0, z1, z2⟩ := RowAt.c3 (hD.get 1 rfl))
        | ((with_reducible refine (CO.out _ _ (HA.out.up (hD.up.alloc _)) (one_sl _ _ _ _)).mono ?_); rintro e wn ⟨q', c', rfl, hs, hn, hb⟩; replace hD := hold_addSl (hD.next ((Below.refl _ _).alloc (Nat.le_refl _) _)) hb hs hn; clear hb hs hn; clear t0 t1 t2 f0 f1 f2 s0 s1 s2 z0 z1 z2; obtain ⟨t0, t1, t2, f0, f1, f2⟩ := RowAt.c3 (hD.get 0 rfl); obtain ⟨s0, s1, s2, z0, z1, z2⟩ := RowAt.c3 (hD.get 1 rfl)))
      replace hD := hD.putRow 0 (g := w.heap.size) rfl 0 (.slice q' L'.length c') (.slice q' L'.length c') [.string H, .int .i64 N] (by simp) rfl
      clear t0 t1 t2 f0 f1 f2 s0 s1 s2 z0 z1 z2
      obtain ⟨t0, t1, t2, f0, f1, f2⟩ := RowAt.c3 (hD.get 0 rfl)
      obtain ⟨s0, s1, s2, z0, z1, z2⟩ := RowAt.c3 (hD.get 1 rfl)
      generalize wn.setCell ⟨w.heap.size, 0, none⟩ (.slice q' L'.length c') = w8 at *
      go_wp2_with ((with_reducible refine (CT.out _ _ _ (slR_pairs (hD.get 2 rfl))).mono ?_); rintro e wn ⟨rfl, hwn⟩; replace hD := hD.next hwn; clear hwn; clear t0 t1 t2 f0 f1 f2 s0 s1 s2 z0 z1 z2; obtain ⟨t0, t1, t2, f0, f1, f2⟩ := RowAt.c3 (hD.get 0 rfl); obtain ⟨s0, s1, s2, z0, z1, z2⟩ := RowAt.c3 (hD.get 1 rfl))
      have hE := ((hD.putRow 1 (g := w.heap.size + 1) rfl 0 (.slice none 0 0) (.slice none 0 0) [.string ⟨#[]⟩, .int .i64 0] (by simp) rfl).putRow 1 (g := w.heap.size + 1) rfl 1 (.string ⟨#[]⟩) (.slice none 0 0) [.string ⟨#[]⟩, .int .i64 0] (by simp) rfl).putRow 1 (g := w.heap.size + 1) rfl 2 (.int .i64 0) (.slice none 0 0) [.string ⟨#[]⟩, .int .i64 0] (by simp) rfl
      exact bodyPost_ret (v := .tuple #[.agg #[.slice none 0 0, .string ⟨#[]⟩, .int .i64 0], .int .i64 6]) (by simp [results, Try.results25, go_sem, *]) rfl (HP.out _ q' c' hE.up (hE.get 2 rfl) (slR_new hE (j := 2) rfl))
    · rw [decide_eq_true hw] at CT
      simp only [if_pos hw] at HP
      clear hw
      go_enter Try.func25, Try.ntmps25
      go_upto_region 1 with fail
      have hD := ((Hold.start w).madeRow (.slice q L.length c) [.string H, .int .i64 N] 24).madeRow (.slice none 0 0) [.string ⟨#[]⟩, .int .i64 0] 24
      rw [World.size_alloc, List.nil_append] at hD
      generalize hw0 : (w.alloc (.cells #[.slice q L.length c, .string H, .int .i64 N] 24)).alloc (.cells #[.slice none 0 0, .string ⟨#[]⟩, .int .i64 0] 24) = w0 at *
      replace hD : Hold w w0 [rowR w.heap.size (.slice q L.length c) [.string H, .int .i64 N], rowR (w.heap.size + 1) (.slice none 0 0) [.string ⟨#[]⟩, .int .i64 0]] := hw0 ▸ hD
      clear hw0
      obtain ⟨t0, t1, t2, f0, f1, f2⟩ := RowAt.c3 (hD.get 0 rfl)
      obtain ⟨s0, s1, s2, z0, z1, z2⟩ := RowAt.c3 (hD.get 1 rfl)
      go_upto_region 8 with (first
        | ((with_reducible refine (CR.out _ (HA.out.up hD.up).pairs).mono ?_); rintro e wn ⟨rfl, hwn⟩; replace hD := hD.next hwn; clear hwn; clear t0 t1 t2 f0 f1 f2 s0 s1 s2 z0 z1 z2; obtain ⟨t0, t1, t2, f0, f1, f2⟩ := RowAt.c3 (hD.get 0 rfl); obtain ⟨s0, s1, s2, z0, z1, z2⟩ := RowAt.c3 (hD.get 1 rfl))
        | ((with_reducible refine (C1.out _).mono ?_); rintro e wn ⟨rfl, rfl⟩) | ((with_reducible refine (C2.out _).mono ?_); rintro e wn ⟨rfl, rfl⟩)
        | ((with_reducible refine (CF.out _ (HA.out.up hD.up).pairs).mono ?_); rintro e wn ⟨rfl, hwn⟩; replace hD := hD.next hwn; clear hwn; clear t0 t1 t2 f0 f1 f2 s0 s1 s2 z0 z1 z2; obtain ⟨t0, t1, t2, f0, f1, f2⟩ := RowAt.c3 (hD.get 0 rfl); obtain ⟨s0, s1, s2, z0, z1, z2⟩ := RowAt.c3 (hD.get 1 rfl))
        | ((with_reducible refine (CO.out _ _ (HA.out.up (hD.up.alloc _)) (one_sl _ _ _ _)).mono ?_); rintro e wn ⟨q', c', rfl, hs, hn, hb⟩; replace hD := hold_addSl (hD.next ((Below.refl _ _).alloc (Nat.le_refl _) _)) hb hs hn; clear hb hs hn; clear t0 t1 t2 f0 f1 f2 s0 s1 s2 z0 z1 z2; obtain ⟨t0, t1, t2, f0, f1, f2⟩ := RowAt.c3 (hD.get 0 rfl); obtain ⟨s0, s1, s2, z0, z1, z2⟩ := RowAt.c3 (hD.get 1 rfl)))
      replace hD := hD.putRow 0 (g := w.heap.size) rfl 0 (.slice q' L'.length c') (.slice q' L'.length c') [.string H, .int .i64 N] (by simp) rfl
      clear t0 t1 t2 f0 f1 f2 s0 s1 s2 z0 z1 z2
      obtain ⟨t0, t1, t2, f0, f1, f2⟩ := RowAt.c3 (hD.get 0 rfl)
      obtain ⟨s0, s1, s2, z0, z1, z2⟩ := RowAt.c3 (hD.get 1 rfl)
      generalize wn.setCell ⟨w.heap.size, 0, none⟩ (.slice q' L'.length c') = w8 at *
      go_wp2_with ((with_reducible refine (CT.out _ _ _ (slR_pairs (hD.get 2 rfl))).mono ?_); rintro e wn ⟨rfl, hwn⟩; replace hD := hD.next hwn; clear hwn; clear t0 t1 t2 f0 f1 f2 s0 s1 s2 z0 z1 z2; obtain ⟨t0, t1, t2, f0, f1, f2⟩ := RowAt.c3 (hD.get 0 rfl); obtain ⟨s0, s1, s2, z0, z1, z2⟩ := RowAt.c3 (hD.get 1 rfl))
      have hE := ((hD.putRow 1 (g := w.heap.size + 1) rfl 0 (.slice q' L'.length c') (.slice q' L'.length c') [.string ⟨#[]⟩, .int .i64 0] (by simp) rfl).putRow 1 (g := w.heap.size + 1) rfl 1 (.string H) (.slice q' L'.length c') [.string H, .int .i64 0] (by simp) rfl).putRow 1 (g := w.heap.size + 1) rfl 2 (.int .i64 N) (.slice q' L'.length c') [.string H, .int .i64 N] (by simp) rfl
      exact bodyPost_ret (v := .tuple #[.agg #[.slice q' L'.length c', .string H, .int .i64 N], .int .i64 0]) (by simp [results, Try.results25, go_sem, *]) rfl (HP.out _ q' c' hE.up (hE.get 2 rfl) (slR_new hE (j := 2) rfl))
    · rw [decide_eq_false hw] at CT
      simp only [if_neg hw] at HP
      clear hw
      go_enter Try.func25, Try.ntmps25
      go_upto_region 1 with fail
      have hD := ((Hold.start w).madeRow (.slice q L.length c) [.string H, .int .i64 N] 24).madeRow (.slice none 0 0) [.string ⟨#[]⟩, .int .i64 0] 24
      rw [World.size_alloc, List.nil_append] at hD
      generalize hw0 : (w.alloc (.cells #[.slice q L.length c, .string H, .int .i64 N] 24)).alloc (.cells #[.slice none 0 0, .string ⟨#[]⟩, .int .i64 0] 24) = w0 at *
      replace hD : Hold w w0 [rowR w.heap.size (.slice q L.length c) [.string H, .int .i64 N], rowR (w.heap.size + 1) (.slice none 0 0) [.string ⟨#[]⟩, .int .i64 0]] := hw0 ▸ hD
      clear hw0
      obtain ⟨t0, t1, t2, f0, f1, f2⟩ := RowAt.c3 (hD.get 0 rfl)
      obtain ⟨s0, s1, s2, z0, z1, z2⟩ := RowAt.c3 (hD.get 1 rfl)
      go_upto_region 8 with (first
        | ((with_reducible refine (CR.out _ (HA.out.up hD.up).pairs).mono ?_); rintro e wn ⟨rfl, hwn⟩; replace hD := hD.next hwn; clear hwn; clear t0 t1 t2 f0 f1 f2 s0 s1 s2 z0 z1 z2; obtain ⟨t0, t1, t2, f0, f1, f2⟩ := RowAt.c3 (hD.get 0 rfl); obtain ⟨s0, s1, s2, z0, z1, z2⟩ := RowAt.c3 (hD.get 1 rfl))
        | ((with_reducible refine (C1.out _).mono ?_); rintro e wn ⟨rfl, rfl⟩) | ((with_reducible refine (C2.out _).mono ?_); rintro e wn ⟨rfl, rfl⟩)
        | ((with_reducible refine (CF.out _ (HA.out.up hD.up).pairs).mono ?_); rintro e wn ⟨rfl, hwn⟩; replace hD := hD.next hwn; clear hwn; clear t0 t1 t2 f0 f1 f2 s0 s1 s2 z0 z1 z2; obtain ⟨t0, t1, t2, f0, f1, f2⟩ := RowAt.c3 (hD.get 0 rfl); obtain ⟨s0, s1, s2, z0, z1, z2⟩ := RowAt.c3 (hD.get 1 rfl))
        | ((with_reducible refine (CO.out _ _ (HA.out.up (hD.up.alloc _)) (one_sl _ _ _ _)).mono ?_); rintro e wn ⟨q', c', rfl, hs, hn, hb⟩; replace hD := hold_addSl (hD.next ((Below.refl _ _).alloc (Nat.le_refl _) _)) hb hs hn; clear hb hs hn; clear t0 t1 t2 f0 f1 f2 s0 s1 s2 z0 z1 z2; obtain ⟨t0, t1, t2, f0, f1, f2⟩ := RowAt.c3 (hD.get 0 rfl); obtain ⟨s0, s1, s2, z0, z1, z2⟩ := RowAt.c3 (hD.get 1 rfl)))
      replace hD := hD.putRow 0 (g := w.heap.size) rfl 0 (.slice q' L'.length c') (.slice q' L'.length c') [.string H, .int .i64 N] (by simp) rfl
      clear t0 t1 t2 f0 f1 f2 s0 s1 s2 z0 z1 z2
      obtain ⟨t0, t1, t2, f0, f1, f2⟩ := RowAt.c3 (hD.get 0 rfl)
      obtain ⟨s0, s1, s2, z0, z1, z2⟩ := RowAt.c3 (hD.get 1 rfl)
      generalize wn.setCell ⟨w.heap.size, 0, none⟩ (.slice q' L'.length c') = w8 at *
      go_wp2_with ((with_reducible refine (CT.out _ _ _ (slR_pairs (hD.get 2 rfl))).mono ?_); rintro e wn ⟨rfl, hwn⟩; replace hD := hD.next hwn; clear hwn; clear t0 t1 t2 f0 f1 f2 s0 s1 s2 z0 z1 z2; obtain ⟨t0, t1, t2, f0, f1, f2⟩ := RowAt.c3 (hD.get 0 rfl); obtain ⟨s0, s1, s2, z0, z1, z2⟩ := RowAt.c3 (hD.get 1 rfl))
      have hE := ((hD.putRow 1 (g := w.heap.size + 1) rfl 0 (.slice none 0 0) (.slice none 0 0) [.string ⟨#[]⟩, .int .i64 0] (by simp) rfl).putRow 1 (g := w.heap.size + 1) rfl 1 (.string ⟨#[]⟩) (.slice none 0 0) [.string ⟨#[]⟩, .int .i64 0] (by simp) rfl).putRow 1 (g := w.heap.size + 1) rfl 2 (.int .i64 0) (.slice none 0 0) [.string ⟨#[]⟩, .int .i64 0] (by simp) rfl
      exact bodyPost_ret (v := .tuple #[.agg #[.slice none 0 0, .string ⟨#[]⟩, .int .i64 0], .int .i64 6]) (by simp [results, Try.results25, go_sem, *]) rfl (HP.out _ q' c' hE.up (hE.get 2 rfl) (slR_new hE (j := 2) rfl))
  · rw [hB] at CF hJ
    simp only [if_true] at hJ
    subst hJ
    rw [show ((I + 1 : Nat) : Int) = (I : Int) + 1 from by omega] at CO
    clear hB
    rcases key with ⟨e1, e2⟩ | ⟨e1, e2, e3⟩ <;> by_cases hw : wtL L' ≤ 231
    · rw [decide_eq_true hw] at CT
      simp only [if_pos hw] at HP
      clear hw
      go_enter Try.func25, Try.ntmps25
      go_upto_region 1 with fail
      have hD := ((Hold.start w).madeRow (.slice q L.length c) [.string H, .int .i64 N] 24).madeRow (.slice none 0 0) [.string ⟨#[]⟩, .int .i64 0] 24
      rw [World.size_alloc, List.nil_append] at hD
      generalize hw0 : (w.alloc (.cells #[.slice q L.length c, .string H, .int .i64 N] 24)).alloc (.cells #[.slice none 0 0, .string ⟨#[]⟩, .int .i64 0] 24) = w0 at *
      replace hD : Hold w w0 [rowR w.heap.size (.slice q L.length c) [.string H, .int .i64 N], rowR (w.heap.size + 1) (.slice none 0 0) [.string ⟨#[]⟩, .int .i64 0]] := hw0 ▸ hD
      clear hw0
      obtain ⟨t0, t1, t2, f0, f1, f2⟩ := RowAt.c3 (hD.get 0 rfl)
      obtain ⟨s0, s1, s2, z0, z1, z2⟩ := RowAt.c3 (hD.get 1 rfl)
      go_upto_region 8 with (first
        | ((with_reducible refine (CR.out _ (HA.out.up hD.up).pairs).mono ?_); rintro e wn ⟨rfl, hwn⟩; replace hD := hD.next hwn; clear hwn; clear t0 t1 t2 f0 f1 f2 s0 s1 s2 z0 z1 z2; obtain ⟨t0, t1, t2, f0, f1, f2⟩ := RowAt.c3 (hD.get 0 rfl); obtain ⟨s0, s1, s2, z0, z1, z2⟩ := RowAt.c3 (hD.get 1 rfl))
        | ((with_reducible refine (C1.out _).mono ?_); rintro e wn ⟨rfl, rfl⟩) | ((with_reducible refine (C2.out _).mono ?_); rintro e wn ⟨rfl, rfl⟩)
        | ((with_reducible refine (CF.out _ (HA.out.up hD.up).pairs).mono ?_); rintro e wn ⟨rfl, hwn⟩; replace hD := hD.next hwn; clear hwn; clear t0 t1 t2 f0 f1 f2 s0 s1 s2 z0 z1 z2; obtain ⟨t0, t1, t2, f0, f1, f2⟩ := RowAt.c3 (hD.get 0 rfl); obtain ⟨s0, s1, s2, z0, z1, z2⟩ := RowAt.c3 (hD.get 1 rfl))
        | ((with_reducible refine (CO.out _ _ (HA.out.up (hD.up.alloc _)) (one_sl _ _ _ _)).mono ?_); rintro e wn ⟨q', c', rfl, hs, hn, hb⟩; replace hD := hold_addSl (hD.next ((Below.refl _ _).alloc (Nat.le_refl _) _)) hb hs hn; clear hb hs hn; clear t0 t1 t2 f0 f1 f2 s0 s1 s2 z0 z1 z2; obtain ⟨t0, t1, t2, f0, f1, f2⟩ := RowAt.c3 (hD.get 0 rfl); obtain ⟨s0, s1, s2, z0, z1, z2⟩ := RowAt.c3 (hD.get 1 rfl)))
      replace hD := hD.putRow 0 (g := w.heap.size) rfl 0 (.slice q' L'.length c') (.slice q' L'.length c') [.string H, .int .i64 N] (by simp) rfl
      clear t0 t1 t2 f0 f1 f2 s0 s1 s2 z0 z1 z2
      obtain ⟨t0, t1, t2, f0, f1, f2⟩ := RowAt.c3 (hD.get 0 rfl)
      obtain ⟨s0, s1, s2, z0, z1, z2⟩ := RowAt.c3 (hD.get 1 rfl)
      generalize wn.setCell ⟨w.heap.size, 0, none⟩ (.slice q' L'.length c') = w8 at *
      go_wp2_with ((with_reducible refine (CT.out _ _ _ (slR_pairs (hD.get 2 rfl))).mono ?_); rintro e wn ⟨rfl, hwn⟩; replace hD := hD.next hwn; clear hwn; clear t0 t1 t2 f0 f1 f2 s0 s1 s2 z0 z1 z2; obtain ⟨t0, t1, t2, f0, f1, f2⟩ := RowAt.c3 (hD.get 0 rfl); obtain ⟨s0, s1, s2, z0, z1, z2⟩ := RowAt.c3 (hD.get 1 rfl))
      have hE := ((hD.putRow 1 (g := w.heap.size + 1) rfl 0 (.slice q' L'.length c') (.slice q' L'.length c') [.string ⟨#[]⟩, .int .i64 0] (by simp) rfl).putRow 1 (g := w.heap.size + 1) rfl 1 (.string H) (.slice q' L'.length c') [.string H, .int .i64 0] (by simp) rfl).putRow 1 (g := w.heap.size + 1) rfl 2 (.int .i64 N) (.slice q' L'.length c') [.string H, .int .i64 N] (by simp) rfl
      exact bodyPost_ret (v := .tuple #[.agg #[.slice q' L'.length c', .string H, .int .i64 N], .int .i64 0]) (by simp [results, Try.results25, go_sem, *]) rfl (HP.out _ q' c' hE.up (hE.get 2 rfl) (slR_new hE (j := 2) rfl))
    · rw [decide_eq_false hw] at CT
      simp only [if_neg hw] at HP
      clear hw
      go_enter Try.func25, Try.ntmps25
      go_upto_region 1 with fail
      have hD := ((Hold.start w).madeRow (.slice q L.length c) [.string H, .int .i64 N] 24).madeRow (.slice none 0 0) [.string ⟨#[]⟩, .int .i64 0] 24
      rw [World.size_alloc, List.nil_append] at hD
      generalize hw0 : (w.alloc (.cells #[.slice q L.length c, .string H, .int .i64 N] 24)).alloc (.cells #[.slice none 0 0, .string ⟨#[]⟩, .int .i64 0] 24) = w0 at *
      replace hD : Hold w w0 [rowR w.heap.size (.slice q L.length c) [.string H, .int .i64 N], rowR (w.heap.size + 1) (.slice none 0 0) [.string ⟨#[]⟩, .int .i64 0]] := hw0 ▸ hD
      clear hw0
      obtain ⟨t0, t1, t2, f0, f1, f2⟩ := RowAt.c3 (hD.get 0 rfl)
      obtain ⟨s0, s1, s2, z0, z1, z2⟩ := RowAt.c3 (hD.get 1 rfl)
      go_upto_region 8 with (first
        | ((with_reducible refine (CR.out _ (HA.out.up hD.up).pairs).mono ?_); rintro e wn ⟨rfl, hwn⟩; replace hD := hD.next hwn; clear hwn; clear t0 t1 t2 f0 f1 f2 s0 s1 s2 z0 z1 z2; obtain ⟨t0, t1, t2, f0, f1, f2⟩ := RowAt.c3 (hD.get 0 rfl); obtain ⟨s0, s1, s2, z0, z1, z2⟩ := RowAt.c3 (hD.get 1 rfl))
        | ((with_reducible refine (C1.out _).mono ?_); rintro e wn ⟨rfl, rfl⟩) | ((with_reducible refine (C2.out _).mono ?_); rintro e wn ⟨rfl, rfl⟩)
        | ((with_reducible refine (CF.out _ (HA.out.up hD.up).pairs).mono ?_); rintro e wn ⟨rfl, hwn⟩; replace hD := hD.next hwn; clear hwn; clear t0 t1 t2 f0 f1 f2 s0 s1 s2 z0 z1 z2; obtain ⟨t0, t1, t2, f0, f1, f2⟩ := RowAt.c3 (hD.get 0 rfl); obtain ⟨s0, s1, s2, z0, z1, z2⟩ := RowAt.c3 (hD.get 1 rfl))
        | ((with_reducible refine (CO.out _ _ (HA.out.up (hD.up.alloc _)) (one_sl _ _ _ _)).mono ?_); rintro e wn ⟨q', c', rfl, hs, hn, hb⟩; replace hD := hold_addSl (hD.next ((Below.refl _ _).alloc (Nat.le_refl _) _)) hb hs hn; clear hb hs hn; clear t0 t1 t2 f0 f1 f2 s0 s1 s2 z0 z1 z2; obtain ⟨t0, t1, t2, f0, f1, f2⟩ := RowAt.c3 (hD.get 0 rfl); obtain ⟨s0, s1, s2, z0, z1, z2⟩ := RowAt.c3 (hD.get 1 rfl)))
      replace hD := hD.putRow 0 (g := w.heap.size) rfl 0 (.slice q' L'.length c') (.slice q' L'.length c') [.string H, .int .i64 N] (by simp) rfl
      clear t0 t1 t2 f0 f1 f2 s0 s1 s2 z0 z1 z2
      obtain ⟨t0, t1, t2, f0, f1, f2⟩ := RowAt.c3 (hD.get 0 rfl)
      obtain ⟨s0, s1, s2, z0, z1, z2⟩ := RowAt.c3 (hD.get 1 rfl)
      generalize wn.setCell ⟨w.heap.size, 0, none⟩ (.slice q' L'.length c') = w8 at *
      go_wp2_with ((with_reducible refine (CT.out _ _ _ (slR_pairs (hD.get 2 rfl))).mono ?_); rintro e wn ⟨rfl, hwn⟩; replace hD := hD.next hwn; clear hwn; clear t0 t1 t2 f0 f1 f2 s0 s1 s2 z0 z1 z2; obtain ⟨t0, t1, t2, f0, f1, f2⟩ := RowAt.c3 (hD.get 0 rfl); obtain ⟨s0, s1, s2, z0, z1, z2⟩ := RowAt.c3 (hD.get 1 rfl))
      have hE := ((hD.putRow 1 (g := w.heap.size + 1) rfl 0 (.slice none 0 0) (.slice none 0 0) [.string ⟨#[]⟩, .int .i64 0] (by simp) rfl).putRow 1 (g := w.heap.size + 1) rfl 1 (.string ⟨#[]⟩) (.slice none 0 0) [.string ⟨#[]⟩, .int .i64 0] (by simp) rfl).putRow 1 (g := w.heap.size + 1) rfl 2 (.int .i64 0) (.slice none 0 0) [.string ⟨#[]⟩, .int .i64 0] (by simp) rfl
      exact bodyPost_ret (v := .tuple #[.agg #[.slice none 0 0, .string ⟨#[]⟩, .int .i64 0], .int .i64 6]) (by simp [results, Try.results25, go_sem, *]) rfl (HP.out _ q' c' hE.up (hE.get 2 rfl) (slR_new hE (j := 2) rfl))
    · rw [decide_eq_true hw] at CT
      simp only [if_pos hw] at HP
      clear hw
      go_enter Try.func25, Try.ntmps25
      go_upto_region 1 with fail
      have hD := ((Hold.start w).madeRow (.slice q L.length c) [.string H, .int .i64 N] 24).madeRow (.slice none 0 0) [.string ⟨#[]⟩, .int .i64 0] 24
      rw [World.size_alloc, List.nil_append] at hD
      generalize hw0 : (w.alloc (.cells #[.slice q L.length c, .string H, .int .i64 N] 24)).alloc (.cells #[.slice none 0 0, .string ⟨#[]⟩, .int .i64 0] 24) = w0 at *
      replace hD : Hold w w0 [rowR w.heap.size (.slice q L.length c) [.string H, .int .i64 N], rowR (w.heap.size + 1) (.slice none 0 0) [.string ⟨#[]⟩, .int .i64 0]] := hw0 ▸ hD
      clear hw0
      obtain ⟨t0, t1, t2, f0, f1, f2⟩ := RowAt.c3 (hD.get 0 rfl)
      obtain ⟨s0, s1, s2, z0, z1, z2⟩ := RowAt.c3 (hD.get 1 rfl)
      go_upto_region 8 with (first
        | ((with_reducible refine (CR.out _ (HA.out.up hD.up).pairs).mono ?_); rintro e wn ⟨rfl, hwn⟩; replace hD := hD.next hwn; clear hwn; clear t0 t1 t2 f0 f1 f2 s0 s1 s2 z0 z1 z2; obtain ⟨t0, t1, t2, f0, f1, f2⟩ := RowAt.c3 (hD.get 0 rfl); obtain ⟨s0, s1, s2, z0, z1, z2⟩ := RowAt.c3 (hD.get 1 rfl))
        | ((with_reducible refine (C1.out _).mono ?_); rintro e wn ⟨rfl, rfl⟩) | ((with_reducible refine (C2.out _).mono ?_); rintro e wn ⟨rfl, rfl⟩)
        | ((with_reducible refine (CF.out _ (HA.out.up hD.up).pairs).mono ?_); rintro e wn ⟨rfl, hwn⟩; replace hD := hD.next hwn; clear hwn; clear t0 t1 t2 f0 f1 f2 s0 s1 s2 z0 z1 z2; obtain ⟨t0, t1, t2, f0, f1, f2⟩ := RowAt.c3 (hD.get 0 rfl); obtain ⟨s0, s1, s2, z0, z1, z2⟩ := RowAt.c3 (hD.get 1 rfl))
        | ((with_reducible refine (CO.out _ _ (HA.out.up (hD.up.alloc _)) (one_sl _ _ _ _)).mono ?_); rintro e wn ⟨q', c', rfl, hs, hn, hb⟩; replace hD := hold_addSl (hD.next ((Below.refl _ _).alloc (Nat.le_refl _) _)) hb hs hn; clear hb hs hn; clear t0 t1 t2 f0 f1 f2 s0 s1 s2 z0 z1 z2; obtain ⟨t0, t1, t2, f0, f1, f2⟩ := RowAt.c3 (hD.get 0 rfl); obtain ⟨s0, s1, s2, z0, z1, z2⟩ := RowAt.c3 (hD.get 1 rfl)))
      replace hD := hD.putRow 0 (g := w.heap.size) rfl 0 (.slice q' L'.length c') (.slice q' L'.length c') [.string H, .int .i64 N] (by simp) rfl
      clear t0 t1 t2 f0 f1 f2 s0 s1 s2 z0 z1 z2
      obtain ⟨t0, t1, t2, f0, f1, f2⟩ := RowAt.c3 (hD.get 0 rfl)
      obtain ⟨s0, s1, s2, z0, z1, z2⟩ := RowAt.c3 (hD.get 1 rfl)
      generalize wn.setCell ⟨w.heap.size, 0, none⟩ (.slice q' L'.length c') = w8 at *
      go_wp2_with ((with_reducible refine (CT.out _ _ _ (slR_pairs (hD.get 2 rfl))).mono ?_); rintro e wn ⟨rfl, hwn⟩; replace hD := hD.next hwn; clear hwn; clear t0 t1 t2 f0 f1 f2 s0 s1 s2 z0 z1 z2; obtain ⟨t0, t1, t2, f0, f1, f2⟩ := RowAt.c3 (hD.get 0 rfl); obtain ⟨s0, s1, s2, z0, z1, z2⟩ := RowAt.c3 (hD.get 1 rfl))
      have hE := ((hD.putRow 1 (g := w.heap.size + 1) rfl 0 (.slice q' L'.length c') (.slice q' L'.length c') [.string ⟨#[]⟩, .int .i64 0] (by simp) rfl).putRow 1 (g := w.heap.size + 1) rfl 1 (.string H) (.slice q' L'.length c') [.string H, .int .i64 0] (by simp) rfl).putRow 1 (g := w.heap.size + 1) rfl 2 (.int .i64 N) (.slice q' L'.length c') [.string H, .int .i64 N] (by simp) rfl
      exact bodyPost_ret (v := .tuple #[.agg #[.slice q' L'.length c', .string H, .int .i64 N], .int .i64 0]) (by simp [results, Try.results25, go_sem, *]) rfl (HP.out _ q' c' hE.up (hE.get 2 rfl) (slR_new hE (j := 2) rfl))
    · rw [decide_eq_false hw] at CT
      simp only [if_neg hw] at HP
      clear hw
      go_enter Try.func25, Try.ntmps25
      go_upto_region 1 with fail
      have hD := ((Hold.start w).madeRow (.slice q L.length c) [.string H, .int .i64 N] 24).madeRow (.slice none 0 0) [.string ⟨#[]⟩, .int .i64 0] 24
      rw [World.size_alloc, List.nil_append] at hD
      generalize hw0 : (w.alloc (.cells #[.slice q L.length c, .string H, .int .i64 N] 24)).alloc (.cells #[.slice none 0 0, .string ⟨#[]⟩, .int .i64 0] 24) = w0 at *
      replace hD : Hold w w0 [rowR w.heap.size (.slice q L.length c) [.string H, .int .i64 N], rowR (w.heap.size + 1) (.slice none 0 0) [.string ⟨#[]⟩, .int .i64 0]] := hw0 ▸ hD
      clear hw0
      obtain ⟨t0, t1, t2, f0, f1, f2⟩ := RowAt.c3 (hD.get 0 rfl)
      obtain ⟨s0, s1, s2, z0, z1, z2⟩ := RowAt.c3 (hD.get 1 rfl)
      go_upto_region 8 with (first
        | ((with_reducible refine (CR.out _ (HA.out.up hD.up).pairs).mono ?_); rintro e wn ⟨rfl, hwn⟩; replace hD := hD.next hwn; clear hwn; clear t0 t1 t2 f0 f1 f2 s0 s1 s2 z0 z1 z2; obtain ⟨t0, t1, t2, f0, f1, f2⟩ := RowAt.c3 (hD.get 0 rfl); obtain ⟨s0, s1, s2, z0, z1, z2⟩ := RowAt.c3 (hD.get 1 rfl))
        | ((with_reducible refine (C1.out _).mono ?_); rintro e wn ⟨rfl, rfl⟩) | ((with_reducible refine (C2.out _).mono ?_); rintro e wn ⟨rfl, rfl⟩)
        | ((with_reducible refine (CF.out _ (HA.out.up hD.up).pairs).mono ?_); rintro e wn ⟨rfl, hwn⟩; replace hD := hD.next hwn; clear hwn; clear t0 t1 t2 f0 f1 f2 s0 s1 s2 z0 z1 z2; obtain ⟨t0, t1, t2, f0, f1, f2⟩ := RowAt.c3 (hD.get 0 rfl); obtain ⟨s0, s1, s2, z0, z1, z2⟩ := RowAt.c3 (hD.get 1 rfl))
        | ((with_reducible refine (CO.out _ _ (HA.out.up (hD.up.alloc _)) (one_sl _ _ _ _)).mono ?_); rintro e wn ⟨q', c', rfl, hs, hn, hb⟩; replace hD := hold_addSl (hD.next ((Below.refl _ _).alloc (Nat.le_refl _) _)) hb hs hn; clear hb hs hn; clear t0 t1 t2 f0 f1 f2 s0 s1 s2 z0 z1 z2; obtain ⟨t0, t1, t2, f0, f1, f2⟩ := RowAt.c3 (hD.get 0 rfl); obtain ⟨s0, s1, s2, z0, z1, z2⟩ := RowAt.c3 (hD.get 1 rfl)))
      replace hD := hD.putRow 0 (g := w.heap.size) rfl 0 (.slice q' L'.length c') (.slice q' L'.length c') [.string H, .int .i64 N] (by simp) rfl
      clear t0 t1 t2 f0 f1 f2 s0 s1 s2 z0 z1 z2
      obtain ⟨t0, t1, t2, f0, f1, f2⟩ := RowAt.c3 (hD.get 0 rfl)
      obtain ⟨s0, s1, s2, z0, z1, z2⟩ := RowAt.c3 (hD.get 1 rfl)
      generalize wn.setCell ⟨w.heap.size, 0, none⟩ (.slice q' L'.length c') = w8 at *
      go_wp2_with ((with_reducible refine (CT.out _ _ _ (slR_pairs (hD.get 2 rfl))).mono ?_); rintro e wn ⟨rfl, hwn⟩; replace hD := hD.next hwn; clear hwn; clear t0 t1 t2 f0 f1 f2 s0 s1 s2 z0 z1 z2; obtain ⟨t0, t1, t2, f0, f1, f2⟩ := RowAt.c3 (hD.get 0 rfl); obtain ⟨s0, s1, s2, z0, z1, z2⟩ := RowAt.c3 (hD.get 1 rfl))
      have hE := ((hD.putRow 1 (g := w.heap.size + 1) rfl 0 (.slice none 0 0) (.slice none 0 0) [.string ⟨#[]⟩, .int .i64 0] (by simp) rfl).putRow 1 (g := w.heap.size + 1) rfl 1 (.string ⟨#[]⟩) (.slice none 0 0) [.string ⟨#[]⟩, .int .i64 0] (by simp) rfl).putRow 1 (g := w.heap.size + 1) rfl 2 (.int .i64 0) (.slice none 0 0) [.string ⟨#[]⟩, .int .i64 0] (by simp) rfl
      exact bodyPost_ret (v := .tuple #[.agg #[.slice none 0 0, .string ⟨#[]⟩, .int .i64 0], .int .i64 6]) (by simp [results, Try.results25, go_sem, *]) rfl (HP.out _ q' c' hE.up (hE.get 2 rfl) (slR_new hE (j := 2) rfl))
theorem leaf_Put (x : LfD) (hx : x.Sm) (k v : ByteArray) (hk : k.size ≤ 1000) (hv : v.size ≤ 1000) (q : Option Addr) (c : Nat) (w : World) (hA : SlAt w q c x.l) :
    Calls Try.prog 25 #[lfV x q c, .string k, .string v] w (LfPost w (pD x k v) (pE x k v)) := by
  cases hm : mayPut x k v
  · exact leaf_Put_bad x hx k v q c w hA hm
  · exact leaf_Put_good x hx k v hk hv q c w hA hm
end Go.Proofs.Ytdlcmbnbfghdmaa
