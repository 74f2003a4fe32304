/- Pairs that are put, and taken out, beside a leaf. No program in sight. -/
import Derived.Test.YtdlcmbnbfghdmaaLfPure6
namespace Bw
set_option linter.unusedVariables false
/-- Pairs but a key's. -/
def woL (l : List PairD) (k : ByteArray) : List PairD := l.filter fun p => !decide (p.1 = k)
theorem row_drop_above {l : List PairD} {k : ByteArray} (hr : rowFrom ByteArray.empty l = true) : ∀ p ∈ l.drop (if findB l k then findI l k + 1 else findI l k), ltS k p.1 = true := by
  intro p hp
  cases hB : findB l k
  · simp only [hB, Bool.false_eq_true, if_false] at hp
    obtain ⟨t, ht, rfl⟩ := List.mem_iff_getElem.1 hp
    rw [List.length_drop] at ht
    rw [List.getElem_drop]
    have h0 := findB_no hB (by omega)
    cases t with
    | zero => exact h0
    | succ t => exact ltS_trans h0 (rowFrom_lt hr (by omega) (by omega))
  · simp only [hB, if_true] at hp
    obtain ⟨t, ht, rfl⟩ := List.mem_iff_getElem.1 hp
    rw [List.length_drop] at ht
    rw [List.getElem_drop]
    obtain ⟨hi, he⟩ := findB_iff.1 hB
    have h0 := rowFrom_lt hr (i := findI l k) (j := findI l k + 1 + t) (by omega) (by omega)
    rw [he] at h0
    exact h0
theorem wo_row {l : List PairD} {k : ByteArray} (hr : rowFrom ByteArray.empty l = true) : woL l k = l.take (findI l k) ++ l.drop (if findB l k then findI l k + 1 else findI l k) := by
  have hi := findI_le l k
  have h1 : (l.take (findI l k)).filter (fun p => !decide (p.1 = k)) = l.take (findI l k) := by
    rw [List.filter_eq_self]
    intro p hp
    obtain ⟨t, ht, rfl⟩ := List.mem_iff_getElem.1 hp
    rw [List.length_take] at ht
    rw [List.getElem_take]
    have := findI_below l k t (by omega)
    simp only [Bool.not_eq_true', decide_eq_false_iff_not]
    intro he
    rw [he, ltS_irrefl] at this
    cases this
  have h2 : (l.drop (if findB l k then findI l k + 1 else findI l k)).filter (fun p => !decide (p.1 = k)) = l.drop (if findB l k then findI l k + 1 else findI l k) := by
    rw [List.filter_eq_self]
    intro p hp
    have := row_drop_above hr p hp
    simp only [Bool.not_eq_true', decide_eq_false_iff_not]
    intro he
    rw [he, ltS_irrefl] at this
    cases this
  unfold woL
  conv => lhs; rw [← List.take_append_drop (findI l k) l]
  rw [List.filter_append, h1]
  congr 1
  cases hB : findB l k
  · simp only [hB, Bool.false_eq_true, if_false] at h2 ⊢
    exact h2
  · simp only [hB, if_true] at h2 ⊢
    obtain ⟨hl, he⟩ := findB_iff.1 hB
    rw [List.drop_eq_getElem_cons hl, List.filter_cons]
    simp only [he, decide_true, Bool.not_true, Bool.false_eq_true, if_false]
    exact h2
theorem wo_put {l : List PairD} {k v : ByteArray} (hr : rowFrom ByteArray.empty l = true) : (woL l k ++ [(k, v)]).Perm (putL l k v) := by
  rw [wo_row hr, putL, List.append_assoc]
  exact List.Perm.append_left _ (List.perm_append_singleton _ _)
theorem wo_del {l : List PairD} {k : ByteArray} (hr : rowFrom ByteArray.empty l = true) (hB : findB l k = true) : woL l k = delL l k := by
  rw [wo_row hr, delL]; simp [hB]
theorem wo_none {l : List PairD} {k : ByteArray} (hr : rowFrom ByteArray.empty l = true) (hB : findB l k = false) : woL l k = l := by
  rw [wo_row hr]; simp [hB]
theorem row_mem {l : List PairD} (hr : rowFrom ByteArray.empty l = true) {p : PairD} (hp : p ∈ l) : findB l p.1 = true ∧ valAt l (findI l p.1) = p.2 := by
  obtain ⟨t, ht, rfl⟩ := List.mem_iff_getElem.1 hp
  have h : findI l l[t].1 = t := findI_of (by omega) (fun s hs hst => rowFrom_lt hr hst ht) (fun _ => ltS_irrefl _)
  refine ⟨findB_iff.2 ⟨by omega, ?_⟩, ?_⟩
  · simp only [h]
  · rw [h, valAt, List.getElem?_eq_getElem ht]; rfl
/-- A leaf that has just these pairs. -/
structure Has (x : LfD) (has : List PairD) : Prop where
  right : x.right = true
  high : x.high = ByteArray.empty
  perm : has.Perm x.l
theorem Has.row {x : LfD} {has : List PairD} (h : Has x has) : rowFrom ByteArray.empty x.l = true := (right_doc.1 h.right).1.1
theorem Has.start : Has ⟨[], ByteArray.empty, 0⟩ [] := ⟨by decide +kernel, rfl, .nil⟩
theorem Has.len {x : LfD} {has : List PairD} (h : Has x has) : x.l.length = has.length := h.perm.length_eq.symm
theorem wtL_two : ∀ l : List PairD, 2 * (l.length : Int) ≤ wtL l
  | [] => Int.le_refl 0
  | p :: l => by
    have := wtL_two l
    simp only [wtL, List.length_cons]
    omega
theorem Has.small {x : LfD} {has : List PairD} (h : Has x has) : has.length ≤ 115 := by
  have h1 := (right_doc.1 h.right).2.2.2
  have h2 := wtL_two x.l
  have := h.len
  omega
theorem Has.get {x : LfD} {has : List PairD} (h : Has x has) {p : PairD} (hp : p ∈ has) : getE x p.1 = 0 ∧ getS x p.1 = p.2 := by
  obtain ⟨h1, h2⟩ := row_mem h.row (h.perm.mem_iff.1 hp)
  have h3 : getE x p.1 = 0 := by simp [getE, h.right, h1]
  exact ⟨h3, by simp [getS, h3, h2]⟩
theorem Has.may {x : LfD} {has : List PairD} (h : Has x has) (k v : ByteArray) : mayPut x k v = (keyB k && valB v) := by
  simp [mayPut, h.right, h.high]
theorem Has.putE {x : LfD} {has : List PairD} (h : Has x has) (k v : ByteArray) : pE x k v = 6 ∨ (pE x k v = 0 ∧ (keyB k && valB v) = true) ∨ (pE x k v = 1 ∧ (keyB k && valB v) = false) := by
  unfold pE
  rw [h.may]
  cases keyB k && valB v
  · exact .inr (.inr ⟨rfl, rfl⟩)
  · simp only [if_true]
    split
    · exact .inr (.inl ⟨rfl, trivial⟩)
    · exact .inl rfl
theorem Has.put {x : LfD} {has : List PairD} (h : Has x has) {k v : ByteArray} (h0 : pE x k v = 0) : Has (pD x k v) (woL has k ++ [(k, v)]) := by
  have hm : mayPut x k v = true := by
    cases hm : mayPut x k v
    · rw [pE, hm] at h0; cases h0
    · rfl
  have hw : wtL (putL x.l k v) ≤ 231 := by
    rw [pE, hm] at h0
    simp only [if_true] at h0
    split at h0
    · assumption
    · cases h0
  have hd : pD x k v = ⟨putL x.l k v, x.high, x.next⟩ := by rw [pD, if_pos h0]
  rw [hd]
  refine ⟨put_right hm hw, h.high, ?_⟩
  exact (List.Perm.append_right _ (h.perm.filter _)).trans (wo_put h.row)
theorem Has.delE {x : LfD} {has : List PairD} (h : Has x has) (k : ByteArray) : (dE x k = 0 ∧ Has (dD x k) (woL has k) ∧ (woL has k).length < has.length) ∨ (dE x k = 7 ∧ Has x (woL has k) ∧ ¬ (woL has k).length < has.length) := by
  have hp : (woL has k).Perm (woL x.l k) := h.perm.filter _
  cases hB : findB x.l k
  · have h0 : dE x k = 7 := by simp [dE, h.right, hB]
    rw [wo_none h.row hB] at hp
    refine .inr ⟨h0, ⟨h.right, h.high, hp⟩, ?_⟩
    have := hp.length_eq
    have := h.len
    omega
  · have h0 : dE x k = 0 := by simp [dE, h.right, hB]
    rw [wo_del h.row hB] at hp
    obtain ⟨hi, -⟩ := findB_iff.1 hB
    have hd : dD x k = ⟨delL x.l k, x.high, x.next⟩ := by rw [dD, if_pos h0]
    refine .inl ⟨h0, ?_, ?_⟩
    · rw [hd]
      refine ⟨?_, h.high, hp⟩
      obtain ⟨⟨r1, r2⟩, r3, r4, r5⟩ := right_doc.1 h.right
      refine right_doc.2 ⟨⟨?_, fun p hp => .inl h.high⟩, r3, r4, ?_⟩
      · show rowFrom ByteArray.empty (delL x.l k) = true
        rw [delL, rowFrom_append, (row_split r1 _).1, Bool.true_and]
        have h2 := (row_split r1 (findI x.l k)).2
        rw [List.drop_eq_getElem_cons hi, rowFrom] at h2
        simp only [Bool.and_eq_true] at h2
        refine rowFrom_lower h2.2 fun q hq => ?_
        have hq' := List.mem_of_mem_head? hq
        exact ltS_trans h2.1.2 (rowFrom_above h2.2 q hq')
      · show wtL (delL x.l k) ≤ 231
        have h3 := wtL_append (x.l.take (findI x.l k)) (x.l.drop (findI x.l k))
        rw [List.take_append_drop, List.drop_eq_getElem_cons hi, wtL] at h3
        rw [delL, wtL_append]
        omega
    · rw [hp.length_eq, delL, List.length_append, List.length_take, List.length_drop]
      have := h.len
      omega
/-- How many pairs are left. -/
theorem wo_le (l : List PairD) (k : ByteArray) : (woL l k).length ≤ l.length := List.length_filter_le _ _
theorem wo_take {l : List PairD} {k : ByteArray} {i : Nat} (hi : i < l.length) : woL (l.take (i + 1)) k = woL (l.take i) k ++ (if l[i].1 = k then [] else [l[i]]) := by
  unfold woL
  rw [List.take_succ_eq_append_getElem hi, List.filter_append, List.filter_cons]
  congr 1
  split <;> simp_all
end Bw
