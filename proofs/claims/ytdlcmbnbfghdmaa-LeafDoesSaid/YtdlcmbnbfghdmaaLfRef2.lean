/- Layer 10, the document's answer: find, Get, Right. -/
import Derived.Test.YtdlcmbnbfghdmaaLfRef1
namespace Go.Proofs.Ytdlcmbnbfghdmaa
open Go.RowKit Bw
set_option linter.unusedVariables false
set_option maxHeartbeats 2000000 in
theorem ref10_find (x : LfD) (hx : x.Sm) (k : ByteArray) (hk : k.size ≤ 1000) (q : Option Addr) (c : Nat) (w : World) (hA : PairsAt w q x.l) :
    Calls Try.prog 54 #[lfV x q c, .string k] w fun e w' => e = .returned (.tuple #[.int .i64 (findI x.l k), .bool (findB x.l k)]) ∧ Below w.heap.size w w' := by
  obtain ⟨L, H, N⟩ := x
  obtain ⟨s1, s2, s3⟩ := hx
  simp only [lfV] at *
  have HS := Lib.hid s3
  have b1 : (L.length : Int) ≤ 1000 := by omega
  have hD := (Hold.start w).madeRow (.slice q L.length c) [.string H, .int .i64 N] 29
  rw [List.nil_append] at hD
  have HA := Lib.hid hA
  clear hA s3 s1 s2
  go_enter Try.func54, Try.ntmps54
  go_upto_region 1 with fail
  generalize w.alloc _ = w0 at *
  go_wp2_with fail
  go_loopw [6] (fun v wr => ∃ i : Nat, i ≤ L.length ∧ v = .int .i64 i ∧ (∀ t (h : t < L.length), t < i → ltS L[t].1 k = true) ∧ Hold w wr [rowR w.heap.size (.slice q L.length c) [.string H, .int .i64 N]]) (fun v _ => L.length - (intOf v).toNat)
  case atStart => exact ⟨0, by omega, rfl, fun t _ h => absurd h (by omega), hD⟩
  case round =>
  clear hD
  obtain ⟨i, hi, rfl, h1, hD⟩ := hrel
  have H1 := Lib.hid h1
  clear h1
  obtain ⟨t0, t1, t2, f0, f1, f2⟩ := RowAt.c3 (hD.get 0 rfl)
  clear f0 f1 f2
  have i0 : (0 : Int) ≤ (i : Int) := by omega
  by_cases hlt : i < L.length
  · have i1 : (i : Int) < (L.length : Int) := by omega
    obtain ⟨g, o, rfl, a1, a2⟩ := (HA.out.up hD.up) i hlt
    have C1 := Lib.hid (fun w => ref5_Less L[i].1 k w (by have := (HS.out _ (List.getElem_mem hlt)).1; omega) (by omega))
    have e1 := str_eqB L[i].1 k
    have HI := Lib.hid (show ltS L[i].1 k = false → findI L k = i ∧ findB L k = decide (L[i].1 = k) from fun h => by
      have hI : findI L k = i := findI_of hi H1.out (fun _ => h)
      refine ⟨hI, ?_⟩
      unfold findB
      rw [hI, List.getElem?_eq_getElem hlt])
    have HT := Lib.hid (show ltS L[i].1 k = true → ∀ t (h : t < L.length), t < i + 1 → ltS L[t].1 k = true from fun h t ht hti => by
      rcases Nat.lt_or_ge t i with h2 | h2
      · exact H1.out t ht h2
      · obtain rfl : t = i := by omega
        exact h)
    generalize L[i] = p at *
    obtain ⟨pk, pv⟩ := p
    simp only at a1 a2 C1 HI HT e1
    cases hb : ltS pk k
    · rw [hb] at C1
      obtain ⟨hI, hB⟩ := HI.out hb
      rw [← hB] at e1
      have HF := Lib.hid hI
      obtain ⟨B, hB2⟩ : ∃ B, B = findB L k := ⟨_, rfl⟩
      rw [← hB2] at e1
      have HB := Lib.hid hB2
      clear HI HT hb hI hB hB2
      go_upto_region 4 with ((with_reducible refine (C1.out _).mono ?_); rintro e wn ⟨rfl, hwn⟩; replace hD := hD.next hwn; replace a1 := (Below.cell hwn (World.block_lt_of_cell? _ _ a1)).trans a1; clear hwn t0 t1 t2; obtain ⟨t0, t1, t2, -⟩ := RowAt.c3 (hD.get 0 rfl))
      have l0 := Later.cell_of t0; have l1 := Later.cell_of a1
      have hne := later_ne wn
      clear t0 t1 t2 a1 a2
      refine wp_region_later (by kernel_rfl) (by kernel_rfl) ?_
      repeat (go_big_quiet_step (fail))
      refine wpQuiet_nil ?_
      intro w9 hw9
      obtain ⟨u9, rfl⟩ := hw9
      replace hD := hD.next u9.up
      clear l0 l1 hne
      generalize u9.world = w9 at *
      go_wp2_with fail
      go_ret2
      exact ⟨by rw [HF.out, ← HB.out]; rfl, hD.up⟩
    · rw [hb] at C1
      have HT2 := Lib.hid (HT.out hb)
      clear HI HT hb e1
      go_wp2_with ((with_reducible refine (C1.out _).mono ?_); rintro e wn ⟨rfl, hwn⟩; replace hD := hD.next hwn; clear hwn t0 t1 t2 a1 a2)
      exact ⟨⟨i + 1, by omega, by go_num, HT2.out, hD⟩, by simp [intOf]; omega⟩
  · have i1 : ¬ (i : Int) < (L.length : Int) := by omega
    obtain rfl : i = L.length := by omega
    have HI := Lib.hid (show findI L k = L.length ∧ findB L k = false from by
      have hI : findI L k = L.length := findI_of (Nat.le_refl _) H1.out (fun h => absurd h (Nat.lt_irrefl _))
      refine ⟨hI, ?_⟩
      unfold findB
      rw [hI, List.getElem?_eq_none (Nat.le_refl _)])
    go_upto_region 4 with fail
    have l0 := Later.cell_of t0
    have hne := later_ne wr
    clear t0 t1 t2 hlt hi
    refine wp_region_later (by kernel_rfl) (by kernel_rfl) ?_
    repeat (go_big_quiet_step (fail))
    refine wpQuiet_nil ?_
    intro w9 hw9
    obtain ⟨u9, rfl⟩ := hw9
    replace hD := hD.next u9.up
    clear l0 hne
    generalize u9.world = w9 at *
    go_wp2_with fail
    go_ret2
    exact ⟨by rw [HI.out.1, HI.out.2]; rfl, hD.up⟩
set_option maxHeartbeats 1000000 in
theorem ref10_Get (CR : ∀ (x : LfD) (hx : x.Sm) (q : Option Addr) (c : Nat) (w : World) (hA : PairsAt w q x.l), Calls Try.prog 14 #[lfV x q c] w fun e w' => e = .returned (.bool x.right) ∧ Below w.heap.size w w')
    (x : LfD) (hx : x.Sm) (q : Option Addr) (c : Nat) (k : ByteArray) (hk : k.size ≤ 1000) (w : World) (hA : PairsAt w q x.l) :
    Calls Try.prog 24 #[lfV x q c, .string k] w fun e w' => e = .returned (.tuple #[.string (getS x k), .int .i64 (getE x k)]) ∧ Below w.heap.size w w' := by
  have C1 := Lib.hid (fun w hA => CR x hx q c w hA)
  clear CR
  cases hR : x.right
  · have HS := Lib.hid (show getS x k = ⟨#[]⟩ ∧ getE x k = 1 by simp [getS, getE, hR]; rfl)
    rw [hR] at C1
    clear hR
    obtain ⟨L, H, N⟩ := x
    simp only [lfV] at *
    have hD := (Hold.start w).madeRow (.slice q L.length c) [.string H, .int .i64 N] 29
    rw [List.nil_append] at hD
    replace hA : PairsAt w q L := hA
    have HA := Lib.hid hA
    clear hA hx
    go_enter Try.func24, Try.ntmps24
    go_upto_region 1 with fail
    generalize w.alloc _ = w0 at *
    obtain ⟨t0, t1, t2, f0, f1, f2⟩ := RowAt.c3 (hD.get 0 rfl)
    go_wp2_with ((with_reducible refine (C1.out _ (HA.out.up hD.up)).mono ?_); rintro e wn ⟨rfl, hwn⟩; replace hD := hD.next hwn; clear hwn)
    go_ret2
    exact ⟨by rw [HS.out.1, HS.out.2]; rfl, hD.up⟩
  · have C2 := Lib.hid (fun w hA => ref10_find x hx k hk q c w hA)
    rw [hR] at C1
    cases hB : findB x.l k
    · have HS := Lib.hid (show getS x k = ⟨#[]⟩ ∧ getE x k = 7 by simp [getS, getE, hR, hB]; rfl)
      rw [hB] at C2
      clear hR hB
      generalize findI x.l k = I at *
      obtain ⟨L, H, N⟩ := x
      simp only [lfV] at *
      have hD := (Hold.start w).madeRow (.slice q L.length c) [.string H, .int .i64 N] 29
      rw [List.nil_append] at hD
      replace hA : PairsAt w q L := hA
      have HA := Lib.hid hA
      clear hA hx
      go_enter Try.func24, Try.ntmps24
      go_upto_region 1 with fail
      generalize w.alloc _ = w0 at *
      obtain ⟨t0, t1, t2, f0, f1, f2⟩ := RowAt.c3 (hD.get 0 rfl)
      go_wp2_with (first
        | ((with_reducible refine (C1.out _ (HA.out.up hD.up)).mono ?_); rintro e wn ⟨rfl, hwn⟩; replace hD := hD.next hwn; clear hwn; clear t0 t1 t2 f0 f1 f2; obtain ⟨t0, t1, t2, f0, f1, f2⟩ := RowAt.c3 (hD.get 0 rfl))
        | ((with_reducible refine (C2.out _ (HA.out.up hD.up)).mono ?_); rintro e wn ⟨rfl, hwn⟩; replace hD := hD.next hwn; clear hwn; clear t0 t1 t2 f0 f1 f2; obtain ⟨t0, t1, t2, f0, f1, f2⟩ := RowAt.c3 (hD.get 0 rfl)))
      go_ret2
      exact ⟨by rw [HS.out.1, HS.out.2]; rfl, hD.up⟩
    · obtain ⟨hi, hk⟩ := findB_iff.1 hB
      have HS := Lib.hid (show getS x k = x.l[findI x.l k].2 ∧ getE x k = 0 by simp [getS, getE, hR, hB, valAt, List.getElem?_eq_getElem hi])
      rw [hB] at C2
      clear hR hB hk
      have i0 : (0 : Int) ≤ (findI x.l k : Int) := by omega
      have i1 : (findI x.l k : Int) < (x.l.length : Int) := by omega
      generalize hI : findI x.l k = I at *
      clear hI
      obtain ⟨L, H, N⟩ := x
      simp only [lfV] at *
      have hD := (Hold.start w).madeRow (.slice q L.length c) [.string H, .int .i64 N] 29
      rw [List.nil_append] at hD
      replace hA : PairsAt w q L := hA
      have HA := Lib.hid hA
      clear hA hx
      go_enter Try.func24, Try.ntmps24
      go_upto_region 1 with fail
      generalize w.alloc _ = w0 at *
      obtain ⟨t0, t1, t2, f0, f1, f2⟩ := RowAt.c3 (hD.get 0 rfl)
      have hi' : I < L.length := hi
      go_wp2_with (first
        | ((with_reducible refine (C1.out _ (HA.out.up hD.up)).mono ?_); rintro e wn ⟨rfl, hwn⟩; replace hD := hD.next hwn; clear hwn; clear t0 t1 t2 f0 f1 f2; obtain ⟨t0, t1, t2, f0, f1, f2⟩ := RowAt.c3 (hD.get 0 rfl))
        | ((with_reducible refine (C2.out _ (HA.out.up hD.up)).mono ?_); rintro e wn ⟨rfl, hwn⟩; replace hD := hD.next hwn; clear hwn; clear t0 t1 t2 f0 f1 f2; obtain ⟨t0, t1, t2, f0, f1, f2⟩ := RowAt.c3 (hD.get 0 rfl); obtain ⟨g1, o1, rfl, a1, a2⟩ := (HA.out.up hD.up) I hi'))
      go_ret2
      exact ⟨by rw [HS.out.1, HS.out.2]; rfl, hD.up⟩
end Go.Proofs.Ytdlcmbnbfghdmaa
