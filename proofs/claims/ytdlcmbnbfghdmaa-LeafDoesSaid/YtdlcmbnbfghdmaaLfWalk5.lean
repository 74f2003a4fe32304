/- Layer 10: Del. -/
import Derived.Test.YtdlcmbnbfghdmaaLfWalk4
namespace Go.Proofs.Ytdlcmbnbfghdmaa
open Go.RowKit Bw
set_option linter.unusedVariables false
theorem post_none {w : World} {x : LfD} {E E' : Int} (h1 : x = noneL) (h2 : E = E') : ∀ w', Below w.heap.size w w' → LfPost w x E (.returned (.tuple #[.agg #[.slice none 0 0, .string ⟨#[]⟩, .int .i64 0], .int .i64 E'])) w' := fun w' hw => by
  rw [h1, h2]
  exact ⟨none, 0, rfl, (slR_nil w').1, (slR_nil w).2, hw⟩
set_option maxHeartbeats 4000000 in
theorem leaf_Del (x : LfD) (hx : x.Sm) (k : ByteArray) (q : Option Addr) (c : Nat) (w : World) (hA : SlAt w q c x.l) :
    Calls Try.prog 27 #[lfV x q c, .string k] w (LfPost w (dD x k) (dE x k)) := by
  have CR := Lib.hid (fun w hA => leaf_Right x hx q c w hA)
  cases h1 : x.right
  · have e1 : dE x k = 1 := by simp [dE, h1]
    have HP := Lib.hid (post_none (w := w) (show dD x k = noneL by simp [dD, e1]) e1)
    have CF := Lib.hid (rec_Key k)
    generalize LfPost w (dD x k) (dE x k) = PP at *
    rw [h1] at CR
    clear h1 e1
    obtain ⟨L, H, N⟩ := x
    simp only [lfV] at *
    replace hA : SlAt w q c L := hA
    have HA := Lib.hid hA
    clear hA hx CF
    go_enter Try.func27, Try.ntmps27
    go_upto_region 1 with fail
    have hD := ((Hold.start w).madeRow (.slice q L.length c) [.string H, .int .i64 N] 24).madeRow (.slice none 0 0) [.string ⟨#[]⟩, .int .i64 0] 24
    rw [World.size_alloc, List.nil_append] at hD
    generalize hw0 : (w.alloc (.cells #[.slice q L.length c, .string H, .int .i64 N] 24)).alloc (.cells #[.slice none 0 0, .string ⟨#[]⟩, .int .i64 0] 24) = w0 at *
    replace hD : Hold w w0 [rowR w.heap.size (.slice q L.length c) [.string H, .int .i64 N], rowR (w.heap.size + 1) (.slice none 0 0) [.string ⟨#[]⟩, .int .i64 0]] := hw0 ▸ hD
    clear hw0
    obtain ⟨t0, t1, t2, f0, f1, f2⟩ := RowAt.c3 (hD.get 0 rfl)
    obtain ⟨s0, s1, s2, z0, z1, z2⟩ := RowAt.c3 (hD.get 1 rfl)
    go_wp2_with (first
      | ((with_reducible refine (CR.out _ (HA.out.up hD.up).pairs).mono ?_); rintro e wn ⟨rfl, hwn⟩; replace hD := hD.next hwn; clear hwn; clear t0 t1 t2 f0 f1 f2 s0 s1 s2 z0 z1 z2; obtain ⟨t0, t1, t2, f0, f1, f2⟩ := RowAt.c3 (hD.get 0 rfl); obtain ⟨s0, s1, s2, z0, z1, z2⟩ := RowAt.c3 (hD.get 1 rfl))
      | ((with_reducible refine (CF.out _ (HA.out.up hD.up).pairs).mono ?_); rintro e wn ⟨rfl, hwn⟩; replace hD := hD.next hwn; clear hwn; clear t0 t1 t2 f0 f1 f2 s0 s1 s2 z0 z1 z2; obtain ⟨t0, t1, t2, f0, f1, f2⟩ := RowAt.c3 (hD.get 0 rfl); obtain ⟨s0, s1, s2, z0, z1, z2⟩ := RowAt.c3 (hD.get 1 rfl)))
    exact bodyPost_ret (v := .tuple #[.agg #[.slice none 0 0, .string ⟨#[]⟩, .int .i64 0], .int .i64 1]) (by simp [results, Try.results27, go_sem, *]) rfl (HP.out _ (Up.setCell (Up.setCell (Up.setCell hD.up _ _ _ (by omega)) _ _ _ (by omega)) _ _ _ (by omega)))
  have CF := Lib.hid (fun w hA => leaf_find x h1 q c k w hA)
  rw [h1] at CR
  cases hB : findB x.l k
  · have e1 : dE x k = 7 := by simp [dE, h1, hB]
    have HP := Lib.hid (post_none (w := w) (show dD x k = noneL by simp [dD, e1]) e1)
    generalize LfPost w (dD x k) (dE x k) = PP at *
    rw [hB] at CF
    clear h1 e1 hB
    obtain ⟨L, H, N⟩ := x
    simp only [lfV] at *
    replace hA : SlAt w q c L := hA
    have HA := Lib.hid hA
    clear hA hx
    go_enter Try.func27, Try.ntmps27
    go_upto_region 1 with fail
    have hD := ((Hold.start w).madeRow (.slice q L.length c) [.string H, .int .i64 N] 24).madeRow (.slice none 0 0) [.string ⟨#[]⟩, .int .i64 0] 24
    rw [World.size_alloc, List.nil_append] at hD
    generalize hw0 : (w.alloc (.cells #[.slice q L.length c, .string H, .int .i64 N] 24)).alloc (.cells #[.slice none 0 0, .string ⟨#[]⟩, .int .i64 0] 24) = w0 at *
    replace hD : Hold w w0 [rowR w.heap.size (.slice q L.length c) [.string H, .int .i64 N], rowR (w.heap.size + 1) (.slice none 0 0) [.string ⟨#[]⟩, .int .i64 0]] := hw0 ▸ hD
    clear hw0
    obtain ⟨t0, t1, t2, f0, f1, f2⟩ := RowAt.c3 (hD.get 0 rfl)
    obtain ⟨s0, s1, s2, z0, z1, z2⟩ := RowAt.c3 (hD.get 1 rfl)
    go_wp2_with (first
      | ((with_reducible refine (CR.out _ (HA.out.up hD.up).pairs).mono ?_); rintro e wn ⟨rfl, hwn⟩; replace hD := hD.next hwn; clear hwn; clear t0 t1 t2 f0 f1 f2 s0 s1 s2 z0 z1 z2; obtain ⟨t0, t1, t2, f0, f1, f2⟩ := RowAt.c3 (hD.get 0 rfl); obtain ⟨s0, s1, s2, z0, z1, z2⟩ := RowAt.c3 (hD.get 1 rfl))
      | ((with_reducible refine (CF.out _ (HA.out.up hD.up).pairs).mono ?_); rintro e wn ⟨rfl, hwn⟩; replace hD := hD.next hwn; clear hwn; clear t0 t1 t2 f0 f1 f2 s0 s1 s2 z0 z1 z2; obtain ⟨t0, t1, t2, f0, f1, f2⟩ := RowAt.c3 (hD.get 0 rfl); obtain ⟨s0, s1, s2, z0, z1, z2⟩ := RowAt.c3 (hD.get 1 rfl)))
    exact bodyPost_ret (v := .tuple #[.agg #[.slice none 0 0, .string ⟨#[]⟩, .int .i64 0], .int .i64 7]) (by simp [results, Try.results27, go_sem, *]) rfl (HP.out _ (Up.setCell (Up.setCell (Up.setCell hD.up _ _ _ (by omega)) _ _ _ (by omega)) _ _ _ (by omega)))
  obtain ⟨hI, -⟩ := findB_iff.1 hB
  have hsm := right_sm h1
  have HL := Lib.hid (show delL x.l k = overL x.l [] (findI x.l k) (findI x.l k + 1) from delL_over x.l k)
  have CO := Lib.hid (show ∀ (w : World), SlAt w q c x.l → Calls Try.prog 55 #[.slice q x.l.length c, .int .i64 (findI x.l k), .int .i64 ((findI x.l k : Nat) + 1 : Int), .slice none 0 0] w
      fun e w' => ∃ q' c', e = .returned (.slice q' (delL x.l k).length c') ∧ (slR q' c' (delL x.l k)).holds w' ∧ NewQ w q' ∧ Below w.heap.size w w' from by
    rw [HL.out]
    intro w h
    have := leaf_over x.l [] (by omega) (by simp) (findI x.l k) (findI x.l k + 1) (by omega) (by omega) q none c 0 w h ⟨PairsAt.nil w none, Nat.le_refl _, fun _ => rfl⟩
    rw [show ((findI x.l k + 1 : Nat) : Int) = (findI x.l k : Int) + 1 from by omega] at this
    exact this)
  have e1 : dE x k = 0 := by simp [dE, h1, hB]
  have e2 : dD x k = ⟨delL x.l k, x.high, x.next⟩ := by simp [dD, e1]
  have HP := Lib.hid (show ∀ w' q' c', Below w.heap.size w w' → (slR q' c' (delL x.l k)).holds w' → NewQ w q' → LfPost w (dD x k) (dE x k) (.returned (.tuple #[.agg #[.slice q' (delL x.l k).length c', .string x.high, .int .i64 x.next], .int .i64 0])) w' from fun w' q' c' hb hs hn => by
    rw [e1, e2]; exact ⟨q', c', rfl, hs, hn, hb⟩)
  generalize LfPost w (dD x k) (dE x k) = PP at *
  rw [hB] at CF
  clear HL h1 e1 e2 hB
  generalize delL x.l k = L' at *
  have i0 : (findI x.l k : Int) ≤ 1000 := by omega
  have i1 : (0 : Int) ≤ (findI x.l k : Int) := by omega
  generalize findI x.l k = I at *
  obtain ⟨L, H, N⟩ := x
  simp only [lfV] at *
  replace hA : SlAt w q c L := hA
  have HA := Lib.hid hA
  clear hA hsm hI hx
  go_enter Try.func27, Try.ntmps27
  go_upto_region 1 with fail
  have hD := ((Hold.start w).madeRow (.slice q L.length c) [.string H, .int .i64 N] 24).madeRow (.slice none 0 0) [.string ⟨#[]⟩, .int .i64 0] 24
  rw [World.size_alloc, List.nil_append] at hD
  generalize hw0 : (w.alloc (.cells #[.slice q L.length c, .string H, .int .i64 N] 24)).alloc (.cells #[.slice none 0 0, .string ⟨#[]⟩, .int .i64 0] 24) = w0 at *
  replace hD : Hold w w0 [rowR w.heap.size (.slice q L.length c) [.string H, .int .i64 N], rowR (w.heap.size + 1) (.slice none 0 0) [.string ⟨#[]⟩, .int .i64 0]] := hw0 ▸ hD
  clear hw0
  obtain ⟨t0, t1, t2, f0, f1, f2⟩ := RowAt.c3 (hD.get 0 rfl)
  obtain ⟨s0, s1, s2, z0, z1, z2⟩ := RowAt.c3 (hD.get 1 rfl)
  go_upto_region 7 with (first
    | ((with_reducible refine (CR.out _ (HA.out.up hD.up).pairs).mono ?_); rintro e wn ⟨rfl, hwn⟩; replace hD := hD.next hwn; clear hwn; clear t0 t1 t2 f0 f1 f2 s0 s1 s2 z0 z1 z2; obtain ⟨t0, t1, t2, f0, f1, f2⟩ := RowAt.c3 (hD.get 0 rfl); obtain ⟨s0, s1, s2, z0, z1, z2⟩ := RowAt.c3 (hD.get 1 rfl))
    | ((with_reducible refine (CF.out _ (HA.out.up hD.up).pairs).mono ?_); rintro e wn ⟨rfl, hwn⟩; replace hD := hD.next hwn; clear hwn; clear t0 t1 t2 f0 f1 f2 s0 s1 s2 z0 z1 z2; obtain ⟨t0, t1, t2, f0, f1, f2⟩ := RowAt.c3 (hD.get 0 rfl); obtain ⟨s0, s1, s2, z0, z1, z2⟩ := RowAt.c3 (hD.get 1 rfl))
    | ((with_reducible refine (CO.out _ (HA.out.up hD.up)).mono ?_); rintro e wn ⟨q', c', rfl, hs, hn, hb⟩; replace hD := hold_addSl hD hb hs hn; clear hb hs hn; clear t0 t1 t2 f0 f1 f2 s0 s1 s2 z0 z1 z2; obtain ⟨t0, t1, t2, f0, f1, f2⟩ := RowAt.c3 (hD.get 0 rfl); obtain ⟨s0, s1, s2, z0, z1, z2⟩ := RowAt.c3 (hD.get 1 rfl)))
  replace hD := hD.putRow 0 (g := w.heap.size) rfl 0 (.slice q' L'.length c') (.slice q' L'.length c') [.string H, .int .i64 N] (by simp) rfl
  clear t0 t1 t2 f0 f1 f2 s0 s1 s2 z0 z1 z2
  obtain ⟨t0, t1, t2, f0, f1, f2⟩ := RowAt.c3 (hD.get 0 rfl)
  obtain ⟨s0, s1, s2, z0, z1, z2⟩ := RowAt.c3 (hD.get 1 rfl)
  generalize wn.setCell ⟨w.heap.size, 0, none⟩ (.slice q' L'.length c') = w8 at *
  go_wp2_with fail
  have hE := ((hD.putRow 1 (g := w.heap.size + 1) rfl 0 (.slice q' L'.length c') (.slice q' L'.length c') [.string ⟨#[]⟩, .int .i64 0] (by simp) rfl).putRow 1 (g := w.heap.size + 1) rfl 1 (.string H) (.slice q' L'.length c') [.string H, .int .i64 0] (by simp) rfl).putRow 1 (g := w.heap.size + 1) rfl 2 (.int .i64 N) (.slice q' L'.length c') [.string H, .int .i64 N] (by simp) rfl
  exact bodyPost_ret (v := .tuple #[.agg #[.slice q' L'.length c', .string H, .int .i64 N], .int .i64 0]) (by simp [results, Try.results27, go_sem, *]) rfl (HP.out _ q' c' hE.up (hE.get 2 rfl) (slR_new hE (j := 2) rfl))
end Go.Proofs.Ytdlcmbnbfghdmaa
