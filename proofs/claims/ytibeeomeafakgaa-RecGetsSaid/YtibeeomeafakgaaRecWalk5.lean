import Derived.Test.YtibeeomeafakgaaRecWalk4
namespace Go.Proofs.Ytibeeomeafakgaa
open Go.RowKit Bw
set_option linter.unusedVariables false

theorem lt_asymm_total : ∀ (a b : List UInt8), (decide (a < b) || a == b) = !decide (b < a)
  | [], [] => by simp
  | [], y :: b => by simp
  | x :: a, [] => by simp
  | x :: a, y :: b => by
    have ih := lt_asymm_total a b
    have e1 : (x :: a < y :: b) ↔ (x < y ∨ x = y ∧ a < b) := List.cons_lt_cons_iff
    have e2 : (y :: b < x :: a) ↔ (y < x ∨ y = x ∧ b < a) := List.cons_lt_cons_iff
    rw [Bool.eq_iff_iff] at ih ⊢
    simp only [Bool.or_eq_true, decide_eq_true_eq, beq_iff_eq, Bool.not_eq_true', decide_eq_false_iff_not, List.cons.injEq, e1, e2] at ih ⊢
    rcases (show x < y ∨ x = y ∨ y < x by simp only [UInt8.lt_iff_toNat_lt, ← UInt8.toNat_inj]; omega) with h | h | h
    · have h2 : ¬ y < x := UInt8.lt_asymm h
      have h3 : ¬ y = x := fun e => by rw [e] at h; exact UInt8.lt_irrefl _ h
      simp [h, h2, h3]
    · subst h
      simp [UInt8.lt_irrefl, ih]
    · have h2 : ¬ x < y := UInt8.lt_asymm h
      have h3 : ¬ x = y := fun e => by rw [e] at h; exact UInt8.lt_irrefl _ h
      simp [h, h2, h3]

theorem str_leB (a b : ByteArray) : (Op.bytesLess a.toList b.toList || a.toList == b.toList) = !ltS b a := by
  rw [Go.Proofs.bytesLess_eq, Lib.toList_data, Lib.toList_data]
  exact lt_asymm_total a.data.toList b.data.toList

set_option maxHeartbeats 1000000 in
theorem rec_row (l : List PairD) (pa : Option Addr) (ca : Nat) (w : World) (hA : PairsAt w pa l) (la : l.length ≤ 1099511627776) :
    Calls Try.prog 28 #[.slice pa l.length ca] w fun e w' => e = .returned (.bool (rowB l)) ∧ Below w.heap.size w w' := by
  have HK := Lib.hid (show rowB l = (rowFrom ByteArray.empty l && decide (l.length ≤ 4000)) from rfl)
  generalize rowB l = K at *
  have HA := Lib.hid hA; clear hA
  go_enter Try.func28, Try.ntmps28
  go_wp2_with fail
  go_loopw [3, 8] (fun c v wr => ∃ (k : Nat) (last : ByteArray), k ≤ l.length ∧ v = .int .i64 k ∧ c = .string last ∧ rowFrom ByteArray.empty l = rowFrom last (l.drop k) ∧ Up w wr) (fun _ v _ => l.length - (intOf v).toNat)
  case atStart => exact ⟨0, ByteArray.empty, by omega, rfl, rfl, rfl, Up.refl w⟩
  case round =>
    obtain ⟨k, last, hk, rfl, rfl, htk, hu⟩ := hrel
    have HT := Lib.hid htk; clear htk
    by_cases hlt : k < l.length
    · obtain ⟨ga, oa, rfl, a1, a2⟩ := (HA.out.up hu) k hlt
      have hd := List.drop_eq_getElem_cons hlt
      generalize l[k] = x at *
      obtain ⟨x1, x2⟩ := x
      have i0 : (0 : Int) ≤ (k : Int) := by omega
      have i1 : (k : Int) < (l.length : Int) := by omega
      have i2 : (k : Int) < 1099511627776 := by omega
      have HT2 := Lib.hid (show rowFrom ByteArray.empty l = (keyB x1 && valB x2 && ltS last x1 && rowFrom x1 (l.drop (k + 1))) by rw [HT.out, hd]; rfl)
      clear hd
      have C1 := Lib.hid (fun w => rec_Key x1 w)
      have C2 := Lib.hid (fun w => rec_Value x2 w)
      have E := Lib.hid (str_leB x1 last)
      cases h1 : keyB x1
      · rw [h1] at C1 HT2
        go_wp2_with ((with_reducible refine (C1.out _).mono ?_); rintro e wn ⟨rfl, rfl⟩)
        go_ret
        refine ⟨?_, hu.alloc _⟩
        rw [HK.out, HT2.out]; rfl
      cases h2 : valB x2
      · rw [h1] at C1 HT2
        rw [h2] at C2 HT2
        go_wp2_with (first | ((with_reducible refine (C1.out _).mono ?_); rintro e wn ⟨rfl, rfl⟩) | ((with_reducible refine (C2.out _).mono ?_); rintro e wn ⟨rfl, rfl⟩))
        go_ret
        refine ⟨?_, hu.alloc _⟩
        rw [HK.out, HT2.out]; rfl
      rw [h1] at C1 HT2
      rw [h2] at C2 HT2
      clear h1 h2
      cases h3 : ltS last x1
      · have h4 : (Op.bytesLess x1.toList last.toList || x1.toList == last.toList) = true := by rw [E.out, h3]; rfl
        rw [h3] at HT2
        go_wp2_with (first | ((with_reducible refine (C1.out _).mono ?_); rintro e wn ⟨rfl, rfl⟩) | ((with_reducible refine (C2.out _).mono ?_); rintro e wn ⟨rfl, rfl⟩))
        go_ret
        refine ⟨?_, hu.alloc _⟩
        rw [HK.out, HT2.out]; rfl
      · have h4 : (Op.bytesLess x1.toList last.toList || x1.toList == last.toList) = false := by rw [E.out, h3]; rfl
        rw [h3] at HT2
        go_wp2_with (first | ((with_reducible refine (C1.out _).mono ?_); rintro e wn ⟨rfl, rfl⟩) | ((with_reducible refine (C2.out _).mono ?_); rintro e wn ⟨rfl, rfl⟩))
        go_roundw
        case rel =>
          exact ⟨k + 1, x1, by omega, by go_num, rfl, by rw [HT2.out]; rfl, hu.alloc _⟩
        case measure => simp [intOf]; omega
    · go_wp2_with fail
      go_ret
      refine ⟨?_, hu⟩
      have hT := HT.out
      rw [List.drop_of_length_le (by omega)] at hT
      rw [HK.out, hT]
      simp [rowFrom]
      try omega
end Go.Proofs.Ytibeeomeafakgaa
