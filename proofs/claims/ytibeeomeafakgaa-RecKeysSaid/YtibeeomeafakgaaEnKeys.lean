import Derived.Test.YtibeeomeafakgaaEnLaws
import Derived.OpenShut
namespace Go.Proofs.Ytibeeomeafakgaa
open Go.RowKit Bw
set_option linter.unusedVariables false

theorem right_key (s : ByteArray) : RecD.rightR ⟨3, 1, s, ⟨#[]⟩, 0, 0, 0, []⟩ = keyB s := by
  have e : (⟨#[]⟩ : ByteArray) = ByteArray.empty := rfl
  have e1 : valB ByteArray.empty = true := rfl
  have e2 : rowB [] = true := rfl
  rw [e, Bool.eq_iff_iff]
  unfold RecD.rightR top5
  simp [RecD.same, RecD.bare, txnB, hkeyB, hvalB, passB, pairsB, inB, e1, e2]
theorem right_val (s : ByteArray) : RecD.rightR ⟨2, 1, ⟨#[107]⟩, s, 0, 0, 0, []⟩ = valB s := by
  have e0 : keyB ⟨#[107]⟩ = true := rfl
  have e2 : rowB [] = true := rfl
  rw [Bool.eq_iff_iff]
  unfold RecD.rightR top5
  simp [RecD.same, RecD.bare, txnB, hkeyB, hvalB, passB, pairsB, inB, e0, e2]
theorem rep_step (C : UInt8) (k : Nat) : str (List.replicate k C) ++ str [C] = str (List.replicate (k + 1) C) := by
  rw [str_append, List.replicate_succ']
def repS (C : UInt8) (k : Nat) : ByteArray := str (List.replicate k C)
theorem repS_size (C : UInt8) (k : Nat) : (repS C k).size = k := by rw [repS, size_str, List.length_replicate]

set_option maxHeartbeats 2000000 in
set_option maxRecDepth 100000 in
theorem keys_walk (C : UInt8) (c n : Int) (hc : c = (C.toNat : Int)) (m : Nat) (hm : m < 40) (hn : (wrap64 n).tmod 40 = (m : Int)) (w : World) :
    Calls Try.prog 8 #[.int .u8 c, .int .u8 n] w fun e w' => e = .returned (.bool true) ∧ Below w.heap.size w w' := by
  have hone := fun w e => bytes_one w e C
  rw [← hc] at hone
  have HO := Lib.hid hone
  have C9 := Lib.hid law5_fixed
  have hu := Up.refl w
  clear hone hc
  go_enter Try.func8, Try.ntmps8
  go_wp2_with fail
  go_loopw [5, 6] (fun v5 v6 wr => ∃ k : Nat, k ≤ m ∧ v5 = .string (repS C k) ∧ v6 = .int .i64 k ∧ Up w wr) (fun _ v _ => m - (intOf v).toNat)
  case atStart => exact ⟨0, by omega, rfl, rfl, hu⟩
  case round =>
    clear hu
    obtain ⟨k, hk, rfl, rfl, hu⟩ := hrel
    have hsz := repS_size C k
    by_cases hlt : k < m
    · have j1 : (k : Int) < (m : Int) := by omega
      have hcat : ¬ 9223372036854775807 < (repS C k).size + (str [C]).size := by rw [hsz, size_str, List.length_cons, List.length_nil]; omega
      have HT := Lib.hid (show repS C k ++ str [C] = repS C (k + 1) from rep_step C k)
      generalize repS C k = S at *
      have hua := hu.alloc (.cells #[.int .u8 c] 5)
      go_wp2_with ((with_reducible refine wpList_toString rfl _ 43 9 5 rfl Try.underlying43 Try.underlying9 Try.underlying5 [C] wr.heap.size 0 1 1 rfl (by simp) (HO.out _ _) ?_))
      refine ⟨⟨k + 1, by omega, congrArg _ HT.out, by go_num, hua⟩, by simp [intOf]; omega⟩
    · have j1 : ¬ (k : Int) < (m : Int) := by omega
      obtain rfl : k = m := by omega
      have hsz2 : (((repS C k).size : Nat) : Int) = (k : Int) := by rw [hsz]
      by_cases h16 : k ≤ 16
      · by_cases h1 : 1 ≤ k
        · have q1 : (1 : Int) ≤ (k : Int) := by omega
          have q2 : (k : Int) ≤ 16 := by omega
          have q3 : (k : Int) ≤ 32 := by omega
          have hb1 : keyB (repS C k) = true := by rw [keyB, repS_size]; first | (simp; done) | (simp; omega)
          have hb2 : valB (repS C k) = true := by rw [valB, repS_size]; first | (simp; done) | (simp; omega)
          have K1 := Lib.hid (show ∀ w, Calls Try.prog 18 #[.string (repS C k)] w fun e w' => e = .returned (.bool true) ∧ w = w' from fun w => by rw [← hb1]; exact rec_Key _ w)
          have V1 := Lib.hid (show ∀ w, Calls Try.prog 20 #[.string (repS C k)] w fun e w' => e = .returned (.bool true) ∧ w = w' from fun w => by rw [← hb2]; exact rec_Value _ w)
          have R1 := Lib.hid (show ∀ w, Calls Try.prog 11 #[.agg #[.int .i64 3, .int .i64 1, .string (repS C k), .string ⟨#[]⟩, .int .i64 0, .int .i64 0, .int .i64 0, .slice none 0 0]] w fun e w' => e = .returned (.bool true) ∧ Below w.heap.size w w' from fun w => by
            have := rec_Right ⟨3, 1, repS C k, ⟨#[]⟩, 0, 0, 0, []⟩ none 0 w (PairsAt.nil _ _) (by simp)
            rw [right_key, hb1] at this
            exact this)
          have R2 := Lib.hid (show ∀ w, Calls Try.prog 11 #[.agg #[.int .i64 2, .int .i64 1, .string ⟨#[107]⟩, .string (repS C k), .int .i64 0, .int .i64 0, .int .i64 0, .slice none 0 0]] w fun e w' => e = .returned (.bool true) ∧ Below w.heap.size w w' from fun w => by
            have := rec_Right ⟨2, 1, ⟨#[107]⟩, repS C k, 0, 0, 0, []⟩ none 0 w (PairsAt.nil _ _) (by simp)
            rw [right_val, hb2] at this
            exact this)
          clear hb1 hb2
          generalize repS C k = S at *
          go_wp2_with (first
            | ((with_reducible refine (K1.out _).mono ?_); rintro e wn ⟨rfl, rfl⟩)
            | ((with_reducible refine (V1.out _).mono ?_); rintro e wn ⟨rfl, rfl⟩)
            | ((with_reducible refine (R1.out _).mono ?_); rintro e wn ⟨rfl, hw⟩; replace hu := hu.next hw; clear hw)
            | ((with_reducible refine (R2.out _).mono ?_); rintro e wn ⟨rfl, hw⟩; replace hu := hu.next hw; clear hw)
            | ((with_reducible refine (C9.out _).mono ?_); rintro e wn ⟨rfl, hw⟩; replace hu := hu.next hw; clear hw))
          go_ret
          refine ⟨?_, hu⟩
          first | rfl | (simp; done) | (simp; omega)
        · have q1 : ¬ (1 : Int) ≤ (k : Int) := by omega
          have q3 : (k : Int) ≤ 32 := by omega
          have hb1 : keyB (repS C k) = false := by rw [keyB, repS_size]; first | (simp; done) | (simp; omega)
          have hb2 : valB (repS C k) = true := by rw [valB, repS_size]; first | (simp; done) | (simp; omega)
          have K1 := Lib.hid (show ∀ w, Calls Try.prog 18 #[.string (repS C k)] w fun e w' => e = .returned (.bool false) ∧ w = w' from fun w => by rw [← hb1]; exact rec_Key _ w)
          have V1 := Lib.hid (show ∀ w, Calls Try.prog 20 #[.string (repS C k)] w fun e w' => e = .returned (.bool true) ∧ w = w' from fun w => by rw [← hb2]; exact rec_Value _ w)
          have R1 := Lib.hid (show ∀ w, Calls Try.prog 11 #[.agg #[.int .i64 3, .int .i64 1, .string (repS C k), .string ⟨#[]⟩, .int .i64 0, .int .i64 0, .int .i64 0, .slice none 0 0]] w fun e w' => e = .returned (.bool false) ∧ Below w.heap.size w w' from fun w => by
            have := rec_Right ⟨3, 1, repS C k, ⟨#[]⟩, 0, 0, 0, []⟩ none 0 w (PairsAt.nil _ _) (by simp)
            rw [right_key, hb1] at this
            exact this)
          have R2 := Lib.hid (show ∀ w, Calls Try.prog 11 #[.agg #[.int .i64 2, .int .i64 1, .string ⟨#[107]⟩, .string (repS C k), .int .i64 0, .int .i64 0, .int .i64 0, .slice none 0 0]] w fun e w' => e = .returned (.bool true) ∧ Below w.heap.size w w' from fun w => by
            have := rec_Right ⟨2, 1, ⟨#[107]⟩, repS C k, 0, 0, 0, []⟩ none 0 w (PairsAt.nil _ _) (by simp)
            rw [right_val, hb2] at this
            exact this)
          clear hb1 hb2
          generalize repS C k = S at *
          go_wp2_with (first
            | ((with_reducible refine (K1.out _).mono ?_); rintro e wn ⟨rfl, rfl⟩)
            | ((with_reducible refine (V1.out _).mono ?_); rintro e wn ⟨rfl, rfl⟩)
            | ((with_reducible refine (R1.out _).mono ?_); rintro e wn ⟨rfl, hw⟩; replace hu := hu.next hw; clear hw)
            | ((with_reducible refine (R2.out _).mono ?_); rintro e wn ⟨rfl, hw⟩; replace hu := hu.next hw; clear hw)
            | ((with_reducible refine (C9.out _).mono ?_); rintro e wn ⟨rfl, hw⟩; replace hu := hu.next hw; clear hw))
          go_ret
          refine ⟨?_, hu⟩
          first | rfl | (simp; done) | (simp; omega)
      · by_cases h32 : k ≤ 32
        · have q1 : (1 : Int) ≤ (k : Int) := by omega
          have q2 : ¬ (k : Int) ≤ 16 := by omega
          have q3 : (k : Int) ≤ 32 := by omega
          have hb1 : keyB (repS C k) = false := by rw [keyB, repS_size]; first | (simp; done) | (simp; omega)
          have hb2 : valB (repS C k) = true := by rw [valB, repS_size]; first | (simp; done) | (simp; omega)
          have K1 := Lib.hid (show ∀ w, Calls Try.prog 18 #[.string (repS C k)] w fun e w' => e = .returned (.bool false) ∧ w = w' from fun w => by rw [← hb1]; exact rec_Key _ w)
          have V1 := Lib.hid (show ∀ w, Calls Try.prog 20 #[.string (repS C k)] w fun e w' => e = .returned (.bool true) ∧ w = w' from fun w => by rw [← hb2]; exact rec_Value _ w)
          have R1 := Lib.hid (show ∀ w, Calls Try.prog 11 #[.agg #[.int .i64 3, .int .i64 1, .string (repS C k), .string ⟨#[]⟩, .int .i64 0, .int .i64 0, .int .i64 0, .slice none 0 0]] w fun e w' => e = .returned (.bool false) ∧ Below w.heap.size w w' from fun w => by
            have := rec_Right ⟨3, 1, repS C k, ⟨#[]⟩, 0, 0, 0, []⟩ none 0 w (PairsAt.nil _ _) (by simp)
            rw [right_key, hb1] at this
            exact this)
          have R2 := Lib.hid (show ∀ w, Calls Try.prog 11 #[.agg #[.int .i64 2, .int .i64 1, .string ⟨#[107]⟩, .string (repS C k), .int .i64 0, .int .i64 0, .int .i64 0, .slice none 0 0]] w fun e w' => e = .returned (.bool true) ∧ Below w.heap.size w w' from fun w => by
            have := rec_Right ⟨2, 1, ⟨#[107]⟩, repS C k, 0, 0, 0, []⟩ none 0 w (PairsAt.nil _ _) (by simp)
            rw [right_val, hb2] at this
            exact this)
          clear hb1 hb2
          generalize repS C k = S at *
          go_wp2_with (first
            | ((with_reducible refine (K1.out _).mono ?_); rintro e wn ⟨rfl, rfl⟩)
            | ((with_reducible refine (V1.out _).mono ?_); rintro e wn ⟨rfl, rfl⟩)
            | ((with_reducible refine (R1.out _).mono ?_); rintro e wn ⟨rfl, hw⟩; replace hu := hu.next hw; clear hw)
            | ((with_reducible refine (R2.out _).mono ?_); rintro e wn ⟨rfl, hw⟩; replace hu := hu.next hw; clear hw)
            | ((with_reducible refine (C9.out _).mono ?_); rintro e wn ⟨rfl, hw⟩; replace hu := hu.next hw; clear hw))
          go_ret
          refine ⟨?_, hu⟩
          first | rfl | (simp; done) | (simp; omega)
        · have q1 : (1 : Int) ≤ (k : Int) := by omega
          have q2 : ¬ (k : Int) ≤ 16 := by omega
          have q3 : ¬ (k : Int) ≤ 32 := by omega
          have hb1 : keyB (repS C k) = false := by rw [keyB, repS_size]; first | (simp; done) | (simp; omega)
          have hb2 : valB (repS C k) = false := by rw [valB, repS_size]; first | (simp; done) | (simp; omega)
          have K1 := Lib.hid (show ∀ w, Calls Try.prog 18 #[.string (repS C k)] w fun e w' => e = .returned (.bool false) ∧ w = w' from fun w => by rw [← hb1]; exact rec_Key _ w)
          have V1 := Lib.hid (show ∀ w, Calls Try.prog 20 #[.string (repS C k)] w fun e w' => e = .returned (.bool false) ∧ w = w' from fun w => by rw [← hb2]; exact rec_Value _ w)
          have R1 := Lib.hid (show ∀ w, Calls Try.prog 11 #[.agg #[.int .i64 3, .int .i64 1, .string (repS C k), .string ⟨#[]⟩, .int .i64 0, .int .i64 0, .int .i64 0, .slice none 0 0]] w fun e w' => e = .returned (.bool false) ∧ Below w.heap.size w w' from fun w => by
            have := rec_Right ⟨3, 1, repS C k, ⟨#[]⟩, 0, 0, 0, []⟩ none 0 w (PairsAt.nil _ _) (by simp)
            rw [right_key, hb1] at this
            exact this)
          have R2 := Lib.hid (show ∀ w, Calls Try.prog 11 #[.agg #[.int .i64 2, .int .i64 1, .string ⟨#[107]⟩, .string (repS C k), .int .i64 0, .int .i64 0, .int .i64 0, .slice none 0 0]] w fun e w' => e = .returned (.bool false) ∧ Below w.heap.size w w' from fun w => by
            have := rec_Right ⟨2, 1, ⟨#[107]⟩, repS C k, 0, 0, 0, []⟩ none 0 w (PairsAt.nil _ _) (by simp)
            rw [right_val, hb2] at this
            exact this)
          clear hb1 hb2
          generalize repS C k = S at *
          go_wp2_with (first
            | ((with_reducible refine (K1.out _).mono ?_); rintro e wn ⟨rfl, rfl⟩)
            | ((with_reducible refine (V1.out _).mono ?_); rintro e wn ⟨rfl, rfl⟩)
            | ((with_reducible refine (R1.out _).mono ?_); rintro e wn ⟨rfl, hw⟩; replace hu := hu.next hw; clear hw)
            | ((with_reducible refine (R2.out _).mono ?_); rintro e wn ⟨rfl, hw⟩; replace hu := hu.next hw; clear hw)
            | ((with_reducible refine (C9.out _).mono ?_); rintro e wn ⟨rfl, hw⟩; replace hu := hu.next hw; clear hw))
          go_ret
          refine ⟨?_, hu⟩
          first | rfl | (simp; done) | (simp; omega)

theorem keys_law (c : Int) (hc : (Lit.int .u8 c).wf = true) (n : Int) (hn : (Lit.int .u8 n).wf = true) (w : World) :
    Calls Try.prog 8 #[.int .u8 c, .int .u8 n] w fun e w' => e = .returned (.bool true) ∧ Below w.heap.size w w' := by
  have h1 := bounds_u8 hc
  have h2 := bounds_u8 hn
  refine keys_walk (UInt8.ofNat c.toNat) c n ?_ (n % 40).toNat (by omega) ?_ w
  · rw [UInt8.toNat_ofNat']; omega
  · have e : wrap64 n = n := by unfold wrap64; omega
    rw [e, Int.tmod_eq_emod_of_nonneg (by omega)]
    omega
end Go.Proofs.Ytibeeomeafakgaa
