/- Layer 10: Decode. -/
import Derived.Test.YtdlcmbnbfghdmaaLfWalk8
import Derived.Test.YtdlcmbnbfghdmaaLfWalk5
namespace Bw
theorem rLf_sm {l : List UInt8} {x : LfD} {t : List UInt8} (h : rLf l = some (x, t)) : x.Sm := by
  match l, h with
  | b :: n :: r, h =>
    rw [rLf] at h
    obtain ⟨m, hm, h⟩ := Option.bind_eq_some_iff.1 h
    obtain ⟨hh, hh2, h⟩ := Option.bind_eq_some_iff.1 h
    obtain ⟨ps, hp, h⟩ := Option.bind_eq_some_iff.1 h
    split at h
    · injection h with h
      injection h with h1 h2
      subst h1
      obtain ⟨-, p2, p3⟩ := rPairs_inv _ (ps := ps.1) (t := ps.2) hp
      have hlt := n.toNat_lt
      have h4 := (rText_inv (s := hh.1) (t := hh.2) hh2).2
      exact ⟨by simp only; omega, by simp only; omega, fun p hp => by have := p3 p hp; omega⟩
    · cases h
theorem lst_from (s : ByteArray) (i : Nat) : lst (s.extract i s.size) = (lst s).drop i := by
  rw [extract_lst, List.take_of_length_le]
  rw [List.length_drop, lst_length]
  omega
theorem bare_from {s : ByteArray} {i : Nat} {t : List UInt8} (ht : t = (lst s).drop i) : bareS (s.extract i s.size) = str (bareL t) := by
  rw [bareS, lst_from, ht]
theorem str_toList (l : List UInt8) : (str l).toList = l := by rw [Go.Lib.toList_data]; exact lst_str l
end Bw
namespace Go.Proofs.Ytdlcmbnbfghdmaa
open Go.RowKit Bw
set_option linter.unusedVariables false
set_option maxHeartbeats 2000000 in
set_option maxRecDepth 100000 in
theorem leaf_Decode (s : ByteArray) (hs : s.size ≤ 1000) (w : World) : Calls Try.prog 11 #[.string s] w (LfPost w (decLD s) (decLE s)) := by
  have CB := Lib.hid (fun i w => field_Bare (s.extract i s.size) w (by rw [ByteArray.size_extract]; omega))
  by_cases hbig : 252 < s.size
  · have e1 : decLO s = none := by simp [decLO, hbig]
    have HP := Lib.hid (post_none (w := w) (show decLD s = noneL by simp [decLD, e1]) (show decLE s = 4 by simp [decLE, e1]))
    generalize LfPost w (decLD s) (decLE s) = PP at *
    have b0 : (252 : Int) < (s.size : Int) := by omega
    clear e1 hbig CB
    have hD := (Hold.start w).madeRow (.slice none 0 0) [.string ⟨#[]⟩, .int .i64 0] 24
    rw [List.nil_append] at hD
    obtain ⟨t0, t1, t2, f0, f1, f2⟩ := RowAt.c3 (hD.get 0 rfl)
    go_enter Try.func11, Try.ntmps11
    go_wp2_with fail
    exact bodyPost_ret (v := .tuple #[.agg #[.slice none 0 0, .string ⟨#[]⟩, .int .i64 0], .int .i64 4]) (by simp [results, Try.results11, go_sem, *]) rfl (HP.out _ (by (repeat (refine Up.setCell ?_ _ _ _ (by omega))); exact hD.up))
  have b0 : ¬ (252 : Int) < (s.size : Int) := by omega
  have CD := Lib.hid (leaf_read s hs)
  cases hr : rLf (lst s) with
  | none =>
    have e1 : decLO s = none := by simp [decLO, hr]
    have HP := Lib.hid (post_none (w := w) (show decLD s = noneL by simp [decLD, e1]) (show decLE s = 4 by simp [decLE, e1]))
    have C1 := Lib.hid (fun w => (CD.out w).mono fun e w' h => h.1 hr)
    generalize LfPost w (decLD s) (decLE s) = PP at *
    clear e1 hbig CB CD hr
    have hD := (Hold.start w).madeRow (.slice none 0 0) [.string ⟨#[]⟩, .int .i64 0] 24
    rw [List.nil_append] at hD
    obtain ⟨t0, t1, t2, f0, f1, f2⟩ := RowAt.c3 (hD.get 0 rfl)
    go_enter Try.func11, Try.ntmps11
    go_upto_region 3 with fail
    generalize w.alloc _ = w0 at *
    go_wp2_with ((with_reducible refine (C1.out _).mono ?_); rintro e wn ⟨_, _, _, _, rfl, ⟨q, n, c, h, m, i, rfl, rfl, rfl, rfl⟩, hb⟩; replace hD := hD.next hb; clear hb t0 t1 t2 f0 f1 f2; replace hD := hD.madeRow (.slice q n c) [.string h, .int .i64 m] 24; obtain ⟨t0, t1, t2, f0, f1, f2⟩ := RowAt.c3 (hD.get 0 rfl))
    exact bodyPost_ret (v := .tuple #[.agg #[.slice none 0 0, .string ⟨#[]⟩, .int .i64 0], .int .i64 4]) (by simp [results, Try.results11, go_sem, *]) rfl (HP.out _ (by (repeat (refine Up.setCell ?_ _ _ _ (by omega))); exact hD.up))
  | some x =>
    obtain ⟨x, t⟩ := x
    have hsm := rLf_sm hr
    have C1 := Lib.hid (fun w => (CD.out w).mono fun e w' h => h.2 x t hr)
    have CR := Lib.hid (fun q c w hA => leaf_Right x hsm q c w hA)
    have hdec : decLO s = if x.right = true ∧ bareL t = [] then some x else none := by simp [decLO, hbig, hr]
    obtain ⟨B, hB⟩ : ∃ B, B = str (bareL t) := ⟨_, rfl⟩
    have HB := Lib.hid hB
    have key : x.right = false ∨ (x.right = true ∧ ¬ bareL t = []) ∨ (x.right = true ∧ bareL t = []) := by
      cases x.right
      · exact .inl rfl
      · by_cases h : bareL t = []
        · exact .inr (.inr ⟨rfl, h⟩)
        · exact .inr (.inl ⟨rfl, h⟩)
    rcases key with k1 | ⟨k1, k2⟩ | ⟨k1, k2⟩
    · have e1 : decLO s = none := by rw [hdec, k1]; simp
      have HP := Lib.hid (post_none (w := w) (show decLD s = noneL by simp [decLD, e1]) (show decLE s = 4 by simp [decLE, e1]))
      generalize LfPost w (decLD s) (decLE s) = PP at *
      rw [k1] at CR
      clear hbig hr hsm hdec hB CD e1 k1
      obtain ⟨L, H, N⟩ := x
      simp only [ReadYes, lfV] at *
      have hD := (Hold.start w).madeRow (.slice none 0 0) [.string ⟨#[]⟩, .int .i64 0] 24
      rw [List.nil_append] at hD
      obtain ⟨t0, t1, t2, f0, f1, f2⟩ := RowAt.c3 (hD.get 0 rfl)
      go_enter Try.func11, Try.ntmps11
      go_upto_region 3 with fail
      generalize w.alloc _ = w0 at *
      go_wp2_with (first
        | ((with_reducible refine (C1.out _).mono ?_); rintro e wn ⟨i, hi, ht, q, c, rfl, hS, hN, hb⟩; clear t0 t1 t2 f0 f1 f2; replace hD := (hold_addSl hD hb hS hN).madeRow (.slice q L.length c) [.string H, .int .i64 N] 24; clear hb hS hN; obtain ⟨t0, t1, t2, f0, f1, f2⟩ := RowAt.c3 (hD.get 0 rfl); obtain ⟨s0, s1, s2, z0, z1, z2⟩ := RowAt.c3 (hD.get 2 rfl); have hcb := CB.out i; rw [bare_from ht, ← HB.out] at hcb; have CBi := Lib.hid hcb; clear hcb ht; have b1 : (i : Int) ≤ (s.size : Int) := (by omega))
        | ((with_reducible refine (CR.out _ _ _ (slR_pairs (hD.get 1 rfl))).mono ?_); rintro e wn2 ⟨rfl, hwn⟩; replace hD := hD.next hwn; clear hwn t0 t1 t2 f0 f1 f2 s0 s1 s2 z0 z1 z2; obtain ⟨t0, t1, t2, f0, f1, f2⟩ := RowAt.c3 (hD.get 0 rfl); obtain ⟨s0, s1, s2, z0, z1, z2⟩ := RowAt.c3 (hD.get 2 rfl))
        | ((with_reducible refine (CBi.out _).mono ?_); rintro e wn ⟨rfl, rfl⟩))
      exact bodyPost_ret (v := .tuple #[.agg #[.slice none 0 0, .string ⟨#[]⟩, .int .i64 0], .int .i64 4]) (by simp [results, Try.results11, go_sem, *]) rfl (HP.out _ (by (repeat (refine Up.setCell ?_ _ _ _ (by omega))); exact hD.up))
    · have e1 : decLO s = none := by rw [hdec, if_neg (fun h => k2 h.2)]
      have HP := Lib.hid (post_none (w := w) (show decLD s = noneL by simp [decLD, e1]) (show decLE s = 4 by simp [decLE, e1]))
      generalize LfPost w (decLD s) (decLE s) = PP at *
      rw [k1] at CR
      have hb1 : ¬ B.toList = [] := by rw [hB, str_toList]; exact k2
      have hb2 : B.toList.isEmpty = false := by rw [List.isEmpty_eq_false_iff]; exact hb1
      clear hbig hr hsm hdec hB CD e1 k1 k2
      obtain ⟨L, H, N⟩ := x
      simp only [ReadYes, lfV] at *
      have hD := (Hold.start w).madeRow (.slice none 0 0) [.string ⟨#[]⟩, .int .i64 0] 24
      rw [List.nil_append] at hD
      obtain ⟨t0, t1, t2, f0, f1, f2⟩ := RowAt.c3 (hD.get 0 rfl)
      go_enter Try.func11, Try.ntmps11
      go_upto_region 3 with fail
      generalize w.alloc _ = w0 at *
      go_wp2_with (first
        | ((with_reducible refine (C1.out _).mono ?_); rintro e wn ⟨i, hi, ht, q, c, rfl, hS, hN, hb⟩; clear t0 t1 t2 f0 f1 f2; replace hD := (hold_addSl hD hb hS hN).madeRow (.slice q L.length c) [.string H, .int .i64 N] 24; clear hb hS hN; obtain ⟨t0, t1, t2, f0, f1, f2⟩ := RowAt.c3 (hD.get 0 rfl); obtain ⟨s0, s1, s2, z0, z1, z2⟩ := RowAt.c3 (hD.get 2 rfl); have hcb := CB.out i; rw [bare_from ht, ← HB.out] at hcb; have CBi := Lib.hid hcb; clear hcb ht; have b1 : (i : Int) ≤ (s.size : Int) := (by omega))
        | ((with_reducible refine (CR.out _ _ _ (slR_pairs (hD.get 1 rfl))).mono ?_); rintro e wn2 ⟨rfl, hwn⟩; replace hD := hD.next hwn; clear hwn t0 t1 t2 f0 f1 f2 s0 s1 s2 z0 z1 z2; obtain ⟨t0, t1, t2, f0, f1, f2⟩ := RowAt.c3 (hD.get 0 rfl); obtain ⟨s0, s1, s2, z0, z1, z2⟩ := RowAt.c3 (hD.get 2 rfl))
        | ((with_reducible refine (CBi.out _).mono ?_); rintro e wn ⟨rfl, rfl⟩))
      exact bodyPost_ret (v := .tuple #[.agg #[.slice none 0 0, .string ⟨#[]⟩, .int .i64 0], .int .i64 4]) (by simp [results, Try.results11, go_sem, *]) rfl (HP.out _ (by (repeat (refine Up.setCell ?_ _ _ _ (by omega))); exact hD.up))
    · have e1 : decLO s = some x := by rw [hdec, if_pos ⟨k1, k2⟩]
      have HP := Lib.hid (show ∀ w' q c, Below w.heap.size w w' → (slR q c x.l).holds w' → NewQ w q → LfPost w (decLD s) (decLE s) (.returned (.tuple #[.agg #[.slice q x.l.length c, .string x.high, .int .i64 x.next], .int .i64 0])) w' from fun w' q c hb hs hn => by
        have e2 : decLD s = x := by simp [decLD, e1]
        have e3 : decLE s = 0 := by simp [decLE, e1]
        rw [e2, e3]; exact ⟨q, c, rfl, hs, hn, hb⟩)
      generalize LfPost w (decLD s) (decLE s) = PP at *
      rw [k1] at CR
      have hb1 : B.toList = [] := by rw [hB, str_toList]; exact k2
      have hb2 : B.toList.isEmpty = true := by rw [hb1]; rfl
      clear hbig hr hsm hdec hB CD e1 k1 k2
      obtain ⟨L, H, N⟩ := x
      simp only [ReadYes, lfV] at *
      have hD := (Hold.start w).madeRow (.slice none 0 0) [.string ⟨#[]⟩, .int .i64 0] 24
      rw [List.nil_append] at hD
      obtain ⟨t0, t1, t2, f0, f1, f2⟩ := RowAt.c3 (hD.get 0 rfl)
      go_enter Try.func11, Try.ntmps11
      go_upto_region 3 with fail
      generalize w.alloc _ = w0 at *
      go_wp2_with (first
        | ((with_reducible refine (C1.out _).mono ?_); rintro e wn ⟨i, hi, ht, q, c, rfl, hS, hN, hb⟩; clear t0 t1 t2 f0 f1 f2; replace hD := (hold_addSl hD hb hS hN).madeRow (.slice q L.length c) [.string H, .int .i64 N] 24; clear hb hS hN; obtain ⟨t0, t1, t2, f0, f1, f2⟩ := RowAt.c3 (hD.get 0 rfl); obtain ⟨s0, s1, s2, z0, z1, z2⟩ := RowAt.c3 (hD.get 2 rfl); have hcb := CB.out i; rw [bare_from ht, ← HB.out] at hcb; have CBi := Lib.hid hcb; clear hcb ht; have b1 : (i : Int) ≤ (s.size : Int) := (by omega))
        | ((with_reducible refine (CR.out _ _ _ (slR_pairs (hD.get 1 rfl))).mono ?_); rintro e wn2 ⟨rfl, hwn⟩; replace hD := hD.next hwn; clear hwn t0 t1 t2 f0 f1 f2 s0 s1 s2 z0 z1 z2; obtain ⟨t0, t1, t2, f0, f1, f2⟩ := RowAt.c3 (hD.get 0 rfl); obtain ⟨s0, s1, s2, z0, z1, z2⟩ := RowAt.c3 (hD.get 2 rfl))
        | ((with_reducible refine (CBi.out _).mono ?_); rintro e wn ⟨rfl, rfl⟩))
      have hE := ((hD.putRow 0 (g := w.heap.size) rfl 0 (.slice q L.length c) (.slice q L.length c) [.string ⟨#[]⟩, .int .i64 0] (by simp) rfl).putRow 0 (g := w.heap.size) rfl 1 (.string H) (.slice q L.length c) [.string H, .int .i64 0] (by simp) rfl).putRow 0 (g := w.heap.size) rfl 2 (.int .i64 N) (.slice q L.length c) [.string H, .int .i64 N] (by simp) rfl
      exact bodyPost_ret (v := .tuple #[.agg #[.slice q L.length c, .string H, .int .i64 N], .int .i64 0]) (by simp [results, Try.results11, go_sem, *]) rfl (HP.out _ q c hE.up (hE.get 1 rfl) (slR_new hE (j := 1) rfl))
end Go.Proofs.Ytdlcmbnbfghdmaa
