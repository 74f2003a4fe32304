/- Layer 24, the document's side: whether a kind has something. -/
import Derived.Test.YtkkgcmnipdkeeaaDoorScRef0
namespace Go.Proofs.YtkkgcmnipdkeeaaDoor
open Go.RowKit Bw
set_option linter.unusedVariables false
set_option maxHeartbeats 1000000 in
theorem ref24_in (k : Int) (c : UInt8) (w : World) : Calls Tryd.prog 28 #[.int .i64 k, .int .u8 (c.toNat : Int)] w fun e w' => e = .returned (.bool (inL k c)) ∧ Below w.heap.size w w' := by
  have C := Lib.hid (ref24_Has k w)
  have HL := Lib.hid (show inL k c = (hasL k).any (fun b => b == c) from rfl)
  have hl := hasL_len k
  generalize inL k c = R at *
  generalize hasL k = L at *
  have hsz : (str L).size = L.length := size_str L
  generalize hS : str L = S at *
  have HS := Lib.hid hS
  clear hS
  go_enter Tryd.func28, Tryd.ntmps28
  go_wp2_with ((with_reducible refine C.out.mono ?_); rintro e wn ⟨rfl, hu⟩)
  go_loopw [6] (fun v6 wr => ∃ n : Nat, n ≤ L.length ∧ v6 = .int .i64 n ∧ (L.take n).any (fun b => b == c) = false ∧ Up w wr) (fun v _ => L.length - (intOf v).toNat)
  case atStart => exact ⟨0, by omega, rfl, rfl, hu⟩
  case round =>
    clear hu
    obtain ⟨n, hn, rfl, hf, hu⟩ := hrel
    have HF := Lib.hid hf
    clear hf
    have i0 : (0 : Int) ≤ (n : Int) := by omega
    have i2 : (S.size : Int) ≤ 5 := by omega
    by_cases hlt : n < L.length
    · have b1 : (n : Int) < (S.size : Int) := by omega
      have b2 : (n : Int) < (L.length : Int) := by omega
      have b3 : n < S.size := by omega
      have HB := Lib.hid (show S[n] = L[n] by have h := HS.out; subst h; rfl)
      have HT := Lib.hid (show (L.take (n + 1)).any (fun b => b == c) = ((L.take n).any (fun b => b == c) || L[n] == c) by rw [List.take_succ_eq_append_getElem hlt]; simp only [List.any_append, List.any_cons, List.any_nil, Bool.or_false])
      have HM := Lib.hid (show (L[n] == c) = true → L.any (fun b => b == c) = true from fun h => List.any_eq_true.2 ⟨_, List.getElem_mem hlt, h⟩)
      have HE := Lib.hid (show ((S[n].toNat : Int) == (c.toNat : Int)) = (L[n] == c) by
        rw [HB.out]
        cases h : L[n] == c
        · have h1 : ¬ L[n] = c := by simpa using h
          have h2 : ¬ L[n].toNat = c.toNat := fun h => h1 (UInt8.toNat_inj.1 h)
          simp; omega
        · have h1 : L[n] = c := by simpa using h
          rw [h1]; simp)
      go_wp2_with fail
      · rename_i hh
        go_ret
        refine ⟨?_, hu⟩
        have hR : R = true := by rw [HL.out, HM.out (by rw [← HE.out]; exact hh)]
        rw [hR]; rfl
      · rename_i hh
        go_roundw
        case rel => exact ⟨n + 1, by omega, by go_num, by rw [HT.out, HF.out, ← HE.out, hh]; rfl, hu⟩
        case measure => simp [intOf]; omega
    · have hnl : n = L.length := by omega
      subst hnl
      have hf := HF.out
      rw [List.take_length] at hf
      go_wp2_with fail
      go_ret
      have hR : R = false := by rw [HL.out, hf]
      exact ⟨by rw [hR]; rfl, hu⟩
theorem in_t (k : Int) (w : World) : Calls Tryd.prog 28 #[.int .i64 k, .int .u8 116] w fun e w' => e = .returned (.bool (bT k)) ∧ Below w.heap.size w w' := by
  have h := ref24_in k 116 w
  rw [inL_t] at h
  exact h
theorem in_k (k : Int) (w : World) : Calls Tryd.prog 28 #[.int .i64 k, .int .u8 107] w fun e w' => e = .returned (.bool (bK k)) ∧ Below w.heap.size w w' := by
  have h := ref24_in k 107 w
  rw [inL_k] at h
  exact h
theorem in_v (k : Int) (w : World) : Calls Tryd.prog 28 #[.int .i64 k, .int .u8 118] w fun e w' => e = .returned (.bool (bV k)) ∧ Below w.heap.size w w' := by
  have h := ref24_in k 118 w
  rw [inL_v] at h
  exact h
theorem in_n (k : Int) (w : World) : Calls Tryd.prog 28 #[.int .i64 k, .int .u8 110] w fun e w' => e = .returned (.bool (bN k)) ∧ Below w.heap.size w w' := by
  have h := ref24_in k 110 w
  rw [inL_n] at h
  exact h
theorem in_f (k : Int) (w : World) : Calls Tryd.prog 28 #[.int .i64 k, .int .u8 102] w fun e w' => e = .returned (.bool (bF k)) ∧ Below w.heap.size w w' := by
  have h := ref24_in k 102 w
  rw [inL_f] at h
  exact h
end Go.Proofs.YtkkgcmnipdkeeaaDoor
