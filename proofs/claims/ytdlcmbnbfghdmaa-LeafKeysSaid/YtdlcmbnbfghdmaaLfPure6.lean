/- What is put into a leaf, and taken out. No program in sight. -/
import Derived.Test.YtdlcmbnbfghdmaaLfPure4
namespace Bw
set_option linter.unusedVariables false
theorem row_split {s : ByteArray} {l : List PairD} (h : rowFrom s l = true) (i : Nat) : rowFrom s (l.take i) = true ∧ rowFrom (lastK s (l.take i)) (l.drop i) = true := by
  have := rowFrom_append s (l.take i) (l.drop i)
  rw [List.take_append_drop, h] at this
  simpa using this.symm
theorem last_take_lt {l : List PairD} {k : ByteArray} (hk : keyB k = true) : ltS (lastK ByteArray.empty (l.take (findI l k))) k = true := by
  by_cases h : l.take (findI l k) = []
  · rw [h]; exact keyB_ltS hk
  · obtain ⟨p, hp, e⟩ := lastK_mem (s := ByteArray.empty) h
    rw [e]
    obtain ⟨t, ht, rfl⟩ := List.mem_iff_getElem.1 hp
    rw [List.length_take] at ht
    rw [List.getElem_take]
    exact findI_below l k t (by omega)
theorem findB_no {l : List PairD} {k : ByteArray} (h : findB l k = false) (hi : findI l k < l.length) : ltS k l[findI l k].1 = true := by
  cases hh : ltS k l[findI l k].1
  · exfalso
    have h1 := ltS_total (findI_at l k hi) hh
    have h2 : findB l k = true := findB_iff.2 ⟨hi, h1⟩
    rw [h] at h2; cases h2
  · rfl
theorem put_row {l : List PairD} {k v : ByteArray} (hr : rowFrom ByteArray.empty l = true) (hk : keyB k = true) (hv : valB v = true) : rowFrom ByteArray.empty (putL l k v) = true := by
  rw [putL, rowFrom_append, (row_split hr _).1, Bool.true_and, rowFrom, hk, hv, last_take_lt hk, Bool.true_and, Bool.true_and, Bool.true_and]
  have hi := findI_le l k
  by_cases hl : findI l k < l.length
  · have h2 := (row_split hr (findI l k)).2
    rw [List.drop_eq_getElem_cons hl] at h2
    cases hB : findB l k
    · simp only [Bool.false_eq_true, if_false]
      rw [List.drop_eq_getElem_cons hl]
      refine rowFrom_lower h2 fun p hp => ?_
      rw [List.head?_cons] at hp
      injection hp with hp
      rw [← hp]
      exact findB_no hB hl
    · simp only [if_true]
      obtain ⟨hl', he⟩ := findB_iff.1 hB
      rw [rowFrom] at h2
      simp only [Bool.and_eq_true] at h2
      rw [he] at h2
      exact h2.2
  · have : l.drop (if findB l k then findI l k + 1 else findI l k) = [] := List.drop_of_length_le (by split <;> omega)
    rw [this]; rfl
theorem put_mem {l : List PairD} {k v : ByteArray} {p : PairD} (hp : p ∈ putL l k v) : p = (k, v) ∨ p ∈ l := by
  rw [putL, List.mem_append, List.mem_cons] at hp
  rcases hp with hp | hp | hp
  · exact .inr (List.mem_of_mem_take hp)
  · exact .inl hp
  · exact .inr (List.mem_of_mem_drop hp)
theorem put_right {x : LfD} {k v : ByteArray} (hm : mayPut x k v = true) (hw : wtL (putL x.l k v) ≤ 231) : LfD.right ⟨putL x.l k v, x.high, x.next⟩ = true := by
  simp only [mayPut, Bool.and_eq_true, Bool.or_eq_true, decide_eq_true_eq] at hm
  obtain ⟨⟨⟨h1, h2⟩, h3⟩, h4⟩ := hm
  obtain ⟨⟨r1, r2⟩, r3, r4, r5⟩ := right_doc.1 h1
  refine right_doc.2 ⟨⟨put_row r1 h2 h3, fun p hp => ?_⟩, r3, r4, hw⟩
  rcases put_mem hp with rfl | hp
  · exact h4
  · exact r2 p hp
theorem put_find {l : List PairD} {k v : ByteArray} : findI (putL l k v) k = findI l k ∧ findB (putL l k v) k = true := by
  have hi := findI_le l k
  have hlt : (l.take (findI l k)).length = findI l k := by rw [List.length_take]; omega
  have hlen : findI l k < (putL l k v).length := by rw [putL, List.length_append, hlt, List.length_cons]; omega
  have hat : (putL l k v)[findI l k]'hlen = (k, v) := by
    simp only [putL]
    rw [List.getElem_append_right (by omega)]
    simp [hlt]
  have h : findI (putL l k v) k = findI l k := by
    refine findI_of (by omega) (fun t ht hti => ?_) (fun _ => ?_)
    · have : (putL l k v)[t]'ht = l[t]'(by omega) := by
        simp only [putL]
        rw [List.getElem_append_left (by omega), List.getElem_take]
      rw [this]
      exact findI_below l k t hti
    · rw [hat]; exact ltS_irrefl k
  refine ⟨h, findB_iff.2 ⟨by omega, ?_⟩⟩
  have : (putL l k v)[findI (putL l k v) k]'(by omega) = (k, v) := by
    rw [← hat]; congr 1
  rw [this]
theorem put_del {l : List PairD} {k v : ByteArray} (h : findB l k = false) : delL (putL l k v) k = l := by
  have hi := findI_le l k
  have hlt : (l.take (findI l k)).length = findI l k := by rw [List.length_take]; omega
  rw [delL, put_find.1, putL]
  simp only [h, Bool.false_eq_true, if_false]
  rw [List.take_append_of_le_length (by omega), List.take_take, Nat.min_self, List.drop_append, hlt]
  have : List.drop (findI l k + 1) (l.take (findI l k)) = [] := List.drop_of_length_le (by omega)
  rw [this]
  have h2 : findI l k + 1 - findI l k = 1 := by omega
  rw [h2]
  simp
theorem put_wt {l : List PairD} {k v : ByteArray} (h : findB l k = false) : wtL (putL l k v) = wtL l + (2 + (k.size : Int) + (v.size : Int)) := by
  rw [putL, wtL_append]
  simp only [h, Bool.false_eq_true, if_false, wtL]
  have := wtL_append (l.take (findI l k)) (l.drop (findI l k))
  rw [List.take_append_drop] at this
  omega
end Bw
