/- What a leaf is as two. No program in sight. -/
import Derived.Test.YtdlcmbnbfghdmaaLfPure6
import Derived.Test.YtdlcmbnbfghdmaaLfWalk6
namespace Bw
set_option linter.unusedVariables false
theorem halfN_spec {z : Int} {L : List PairD} : ∀ (d n : Nat), n < L.length → L.length - n = d → ∃ N, halfN z L.length n (wtL (L.take n)) (L.drop n) = N ∧ n ≤ N ∧ N < L.length ∧ (∀ t, n ≤ t → t < N → t = 0 ∨ 2 * wtL (L.take t) < z) ∧ ¬ (N + 1 < L.length ∧ (N = 0 ∨ 2 * wtL (L.take N) < z))
  | 0, n, hn, hd => absurd hd (by omega)
  | d + 1, n, hn, hd => by
    by_cases h : n + 1 < L.length ∧ (n = 0 ∨ 2 * wtL (L.take n) < z)
    · obtain ⟨N, h1, h2, h3, h4, h5⟩ := halfN_spec (z := z) d (n + 1) h.1 (by omega)
      refine ⟨N, ?_, by omega, h3, fun t ht1 ht2 => ?_, h5⟩
      · rw [halfN_step hn h, ← wtL_take_succ hn]; exact h1
      · by_cases e : t = n
        · rw [e]; exact h.2
        · exact h4 t (by omega) ht2
    · exact ⟨n, halfN_stop hn h, Nat.le_refl _, hn, fun t h1 h2 => absurd h1 (by omega), h⟩
theorem put_wt_le {l : List PairD} {k v : ByteArray} : wtL (putL l k v) ≤ wtL l + (2 + (k.size : Int) + (v.size : Int)) := by
  cases h : findB l k
  · rw [put_wt h]; omega
  · obtain ⟨hi, -⟩ := findB_iff.1 h
    rw [putL, wtL_append]
    simp only [h, if_true, wtL]
    have h1 := wtL_append (l.take (findI l k)) (l.drop (findI l k))
    rw [List.take_append_drop, List.drop_eq_getElem_cons hi, wtL] at h1
    omega
structure Halves (x : LfD) (page : Int) (N : Nat) : Prop where
  lo : 1 ≤ N
  hi : N < x.l.length
  a : sA x page = ⟨x.l.take N, (x.l[N]'hi).1, page + 1⟩
  b : sB x page = ⟨x.l.drop N, x.high, x.next⟩
  wa : wtL (x.l.take N) ≤ 181
  wb : wtL (x.l.drop N) ≤ 181
  ra : (sA x page).right = true
  rb : (sB x page).right = true
theorem halves {x : LfD} {page : Int} (hr : x.right = true) (h2 : 2 ≤ x.l.length) (p0 : 0 ≤ page) (p1 : page ≤ 1023) : ∃ N, Halves x page N := by
  have hm : maySplit x page = true := by simp [maySplit, hr, h2, p0, p1]
  obtain ⟨N, e, -, hN, hb, hs⟩ := halfN_spec (z := wtL x.l) (L := x.l) _ 0 (by omega) rfl
  have e' : splitN x.l = N := e
  have hlo : 1 ≤ N := by
    by_cases h : N = 0
    · exact absurd ⟨by omega, .inl h⟩ hs
    · omega
  obtain ⟨⟨r1, r2⟩, r3, r4, r5⟩ := right_doc.1 hr
  have hsm := (right_sm hr).2.2
  have hp : ∀ t (ht : t < x.l.length), wtL (x.l.take (t + 1)) ≤ wtL (x.l.take t) + 50 := fun t ht => by
    rw [wtL_take_succ ht]
    have := hsm _ (List.getElem_mem ht)
    omega
  have hsum := wtL_append (x.l.take N) (x.l.drop N)
  rw [List.take_append_drop] at hsum
  have hwa : wtL (x.l.take N) ≤ 181 := by
    have h1 := hp (N - 1) (by omega)
    rw [show N - 1 + 1 = N by omega] at h1
    rcases hb (N - 1) (by omega) (by omega) with h | h
    · rw [h] at h1
      have : wtL (x.l.take 0) = 0 := rfl
      omega
    · omega
  have hwb : wtL (x.l.drop N) ≤ 181 := by
    by_cases h : N + 1 < x.l.length
    · have : ¬ 2 * wtL (x.l.take N) < wtL x.l := fun h' => hs ⟨h, .inr h'⟩
      omega
    · rw [List.drop_eq_getElem_cons hN, wtL, List.drop_of_length_le (by omega), wtL]
      have := hsm _ (List.getElem_mem hN)
      omega
  have ha : sA x page = ⟨x.l.take N, (x.l[N]'hN).1, page + 1⟩ := by simp [sA, hm, e', List.getElem?_eq_getElem hN]
  have hbb : sB x page = ⟨x.l.drop N, x.high, x.next⟩ := by simp [sB, hm, e']
  have hk := (rowFrom_keys r1 _ (List.getElem_mem hN)).1
  refine ⟨N, hlo, hN, ha, hbb, hwa, hwb, ?_, ?_⟩
  · rw [ha]
    refine right_doc.2 ⟨⟨(row_split r1 N).1, fun p hp' => .inr ?_⟩, ?_, ?_, ?_⟩
    · obtain ⟨t, ht, rfl⟩ := List.mem_iff_getElem.1 hp'
      rw [List.length_take] at ht
      rw [List.getElem_take]
      exact rowFrom_lt r1 (by omega) hN
    · have := hsm _ (List.getElem_mem hN); simp only; omega
    · simp only; omega
    · simp only; omega
  · rw [hbb]
    refine right_doc.2 ⟨⟨rowFrom_lower (row_split r1 N).2 fun p hp' => ?_, fun p hp' => r2 p (List.mem_of_mem_drop hp')⟩, r3, r4, ?_⟩
    · rw [List.drop_eq_getElem_cons hN, List.head?_cons] at hp'
      injection hp' with hp'
      rw [← hp']
      exact keyB_ltS hk
    · simp only; omega
theorem halves_join {x : LfD} {page : Int} {N : Nat} (hr : x.right = true) (h : Halves x page N) : jE (sA x page) (sB x page) = 0 ∧ jD (sA x page) (sB x page) = x := by
  obtain ⟨⟨r1, r2⟩, r3, r4, r5⟩ := right_doc.1 hr
  have hk := (rowFrom_keys r1 _ (List.getElem_mem h.hi)).1
  have hne : ¬ (x.l[N]'h.hi).1 = ByteArray.empty := fun he => by rw [he] at hk; exact absurd hk (by decide)
  have hmj : mayJoin (sA x page) (sB x page) = true := by
    have h1 := h.ra
    have h2 := h.rb
    rw [mayJoin, h1, h2, h.a, h.b]
    simp only [Bool.true_and, Bool.and_eq_true, Bool.not_eq_true', decide_eq_false_iff_not, Bool.or_eq_true, decide_eq_true_eq]
    refine ⟨⟨hne, ?_⟩, ?_⟩
    · rw [List.drop_eq_getElem_cons h.hi]; exact ltS_irrefl _
    · rcases r2 _ (List.getElem_mem h.hi) with h3 | h3
      · exact .inl h3
      · exact .inr (ltS_asymm h3)
  have hw : wtL ((sA x page).l ++ (sB x page).l) ≤ 231 := by
    rw [h.a, h.b]; simp only; rw [List.take_append_drop]; exact r5
  have he : jE (sA x page) (sB x page) = 0 := by rw [jE, if_pos hmj, if_pos hw]
  refine ⟨he, ?_⟩
  rw [jD, if_pos he, h.a, h.b]
  simp only
  rw [List.take_append_drop]
theorem half_put {x y : LfD} {k v : ByteArray} (hE : pE x k v = 6) (hk : k.size ≤ 16) (hv : v.size ≤ 32) (hy : y.right = true) (hw : wtL y.l ≤ 181) (hh : ltS k y.high = true ∨ y.high = x.high) : pE y k v = 0 := by
  have hm : mayPut x k v = true := by
    cases h : mayPut x k v
    · simp [pE, h] at hE
    · rfl
  simp only [mayPut, Bool.and_eq_true, Bool.or_eq_true, decide_eq_true_eq] at hm
  obtain ⟨⟨⟨h1, h2⟩, h3⟩, h4⟩ := hm
  have hmy : mayPut y k v = true := by
    simp only [mayPut, Bool.and_eq_true, Bool.or_eq_true, decide_eq_true_eq]
    refine ⟨⟨⟨hy, h2⟩, h3⟩, ?_⟩
    rcases hh with h | h
    · exact .inr h
    · rw [h]; exact h4
  have := put_wt_le (l := y.l) (k := k) (v := v)
  rw [pE, if_pos hmy, if_pos (by omega)]
end Bw
