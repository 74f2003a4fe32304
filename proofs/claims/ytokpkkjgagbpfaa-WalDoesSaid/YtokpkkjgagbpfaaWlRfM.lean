/- Layer 6, the document: num, at, Text. -/
import Derived.Test.YtokpkkjgagbpfaaWlLawA
import Derived.Test.YtokpkkjgagbpfaaRfM
import Derived.Test.YtokpkkjgagbpfaaWlSure
namespace Bw
set_option linter.unusedVariables false
def sp6 : ByteArray := ⟨#[32, 32, 32, 32, 32, 32]⟩
theorem put_sp {k n : Nat} (h1 : 1 ≤ k) (h6 : k ≤ 6) (hn : n < 256 ^ k) : putS (sp6.extract 0 k) 0 k n = str (toLE n k) := by
  have hz : (sp6.extract 0 k).size = k := by rw [ByteArray.size_extract]; show min k 6 - 0 = k; omega
  have hE : putE (sp6.extract 0 k) 0 k n = 0 := by
    have hR : roomE (sp6.extract 0 k) 0 k = 0 := by
      unfold roomE
      rw [hz, if_neg (by omega), if_neg (by omega)]
    unfold putE
    rw [hR, if_pos rfl, if_neg]
    have e1 : ((n : Nat) : Int).toNat = n := by omega
    have e2 : ((k : Nat) : Int).toNat = k := by omega
    rw [e1, e2]; omega
  unfold putS
  rw [if_pos hE]
  have e1 : ((n : Nat) : Int).toNat = n := by omega
  have e2 : ((k : Nat) : Int).toNat = k := by omega
  rw [e1, e2]
  show str ((lst (sp6.extract 0 k)).take 0 ++ toLE n k ++ (lst (sp6.extract 0 k)).drop (0 + k)) = _
  rw [List.take_zero, List.nil_append, Nat.zero_add, List.drop_of_length_le (by rw [lst_length, hz]; exact Nat.le_refl _), List.append_nil]
end Bw
namespace Go.Proofs.Ytokpkkjgagbpfaa
open Go.RowKit Bw
set_option linter.unusedVariables false
set_option maxRecDepth 100000
theorem ref6_num (n k : Nat) (N K : Int) (hN : N = n) (hK : K = k) (h1 : 1 ≤ k) (h6 : k ≤ 6) (hn : n < 256 ^ k) (w : World) :
    Calls Try.prog 71 #[.int .i64 N, .int .i64 K] w fun e w' => e = .returned (.string (str (toLE n k))) ∧ Below w.heap.size w w' := by
  subst hN hK
  have h7 : (256 : Nat) ^ k ≤ 256 ^ 6 := Nat.pow_le_pow_right (by decide) h6
  have h8 : (256 : Nat) ^ 6 = 281474976710656 := by decide
  have hz : (sp6.extract 0 k).size = k := by rw [ByteArray.size_extract]; show min k 6 - 0 = k; omega
  have c := fun w => ref1_Put (sp6.extract 0 k) 0 k n w (by omega) (by omega) (by omega)
  rw [put_sp h1 h6 hn] at c
  have C := Lib.hid (fun w => show Calls Try.prog 61 #[.string (ByteArray.extract ⟨#[32, 32, 32, 32, 32, 32]⟩ 0 k), .int .i64 0, .int .i64 (k : Int), .int .u64 (n : Int)] w _ from c w)
  have k0 : (0 : Int) ≤ (k : Int) := by omega
  have k6 : (k : Int) ≤ ((ByteArray.mk #[32, 32, 32, 32, 32, 32]).size : Int) := by show (k : Int) ≤ 6; omega
  have n0 : (n : Int) < 281474976710656 := by omega
  clear c hz
  generalize str (toLE n k) = R at *
  go_enter Try.func71, Try.ntmps71
  go_wp2_with ((with_reducible refine (C.out _).mono ?_); rintro e wn ⟨rfl, hb⟩)
  go_ret
  exact ⟨rfl, hb⟩
theorem ref6_at (s : ByteArray) (hs : s.size ≤ 1099511627776) (i k : Int) (hk : k ≤ 6) (w : World) : Calls Try.prog 41 #[.string s, .int .i64 i, .int .i64 k] w fun e w' => e = .returned (.int .i64 (getV s i k)) ∧ w = w' := by
  have C := Lib.hid (fun w => ref1_Get s i k w hs)
  obtain ⟨v0, v1⟩ := getV_range s i k hk
  generalize getV s i k = V at *
  generalize roomE s i k = E at *
  go_enter Try.func41, Try.ntmps41
  go_wp2_with ((with_reducible refine (C.out _).mono ?_); rintro e wn ⟨rfl, rfl⟩)
  go_ret
  exact ⟨rfl, rfl⟩
end Go.Proofs.Ytokpkkjgagbpfaa
namespace Bw
set_option linter.unusedVariables false
theorem text_parts (age num : Nat) (b : Bool) (s : ByteArray) (hs : s.size ≤ 234) :
    str (toLE age 6) ++ str (toLE num 2) ++ str (toLE (if b then 1 else 0) 1) ++ str (toLE s.size 1) ++ padS s 234 ++ (str (toLE age 6) ++ str (toLE num 2)) = leafS age num b s := by
  have hp : padS s 234 = str (lst s ++ List.replicate (234 - s.size) 0) := padS_of hs (by decide)
  have h1 : toLE (if b then 1 else 0) 1 = (if b then [1] else [0]) := by cases b <;> rfl
  have h2 : toLE s.size 1 = [UInt8.ofNat (lst s).length] := by
    rw [lst_length]; show [_] = _; congr 1
  rw [hp, h1, h2]
  apply lst_inj
  unfold leafS leafL zeros
  simp only [lst_append, lst_str, List.append_assoc, lst_length, List.cons_append, List.nil_append]
end Bw
namespace Go.Proofs.Ytokpkkjgagbpfaa
open Go.RowKit Bw
set_option linter.unusedVariables false
set_option maxRecDepth 100000
theorem ref6_Text (age num : Nat) (b : Bool) (s : ByteArray) (ha : age < 281474976710656) (hn : num < 65536) (hs : s.size ≤ 234) (w : World) :
    Calls Try.prog 75 #[.agg #[.int .i64 age, .int .i64 num, .bool b, .string s]] w fun e w' => e = .returned (.string (leafS age num b s)) ∧ Up w w' := by
  have hT := text_parts age num b s hs
  have p234 : ∀ w, Calls Try.prog 60 #[.string s, .int .i64 234] w fun e w' => e = .returned (.tuple #[.string (padS s 234), .int .i64 (padE s 234)]) ∧ Below w.heap.size w w' := fun w => ref1_Pad s 234 w (by omega)
  have CA := Lib.hid (fun w => ref6_num age 6 age 6 rfl rfl (by decide) (by decide) (Nat.lt_of_lt_of_le ha (by decide)) w)
  have CN := Lib.hid (fun w => ref6_num num 2 num 2 rfl rfl (by decide) (by decide) (Nat.lt_of_lt_of_le hn (by decide)) w)
  have CL := Lib.hid (fun w => ref6_num s.size 1 s.size 1 rfl rfl (by decide) (by decide) (by show s.size < 256; omega) w)
  have CP := Lib.hid p234
  have HT := Lib.hid hT
  clear p234 hT
  have hD := (Hold.start w).madeRow (.int .i64 (age : Int)) [.int .i64 (num : Int), .bool b, .string s] 108
  have z1 : (str (toLE age 6)).size = 6 := by rw [size_str, toLE_length]
  have z2 : (str (toLE num 2)).size = 2 := by rw [size_str, toLE_length]
  have z4 : (str (toLE s.size 1)).size = 1 := by rw [size_str, toLE_length]
  have z5 : (padS s 234).size = 234 := by
    have hps : padS s 234 = str (lst s ++ List.replicate (234 - s.size) 0) := padS_of (n := 234) hs (by decide)
    rw [hps, size_str, List.length_append, lst_length, List.length_replicate]; omega
  generalize str (toLE age 6) = A1 at *
  generalize str (toLE num 2) = A2 at *
  generalize str (toLE s.size 1) = A4 at *
  generalize padS s 234 = A5 at *
  generalize padE s 234 = E5 at *
  generalize leafS age num b s = R at *
  cases b
  · have CB := Lib.hid (fun w => show Calls Try.prog 71 #[.int .i64 0, .int .i64 1] w fun e w' => e = .returned (.string (str (toLE (if false = true then 1 else 0) 1))) ∧ Below w.heap.size w w' from ref6_num 0 1 0 1 rfl rfl (by decide) (by decide) (by decide) w)
    have z3 : (str (toLE (if false = true then 1 else 0) 1)).size = 1 := by rw [size_str, toLE_length]
    obtain ⟨A3, hA3⟩ : ∃ A3, str (toLE (if false = true then 1 else 0) 1) = A3 := ⟨_, rfl⟩
    rw [hA3] at CB HT z3
    clear hA3
    go_enter Try.func75, Try.ntmps75
    go_upto_region 1 with fail
    generalize w.heap.size = g0 at *
    generalize w.alloc _ = ws at *
    obtain ⟨⟨x0, x1, x2, x3⟩, x4, x5, x6, x7⟩ := RowAt.c4 (hD.get 0 rfl)
    go_upto_region 4 with fail
    clear x0 x1 x2 x3 x4 x5 x6 x7
    obtain ⟨⟨x0, x1, x2, x3⟩, x4, x5, x6, x7⟩ := RowAt.c4 (hD.get 0 rfl)
    refine wp_region_later (by kernel_rfl) (by kernel_rfl) ?_
    have l0 := Later.cell_of x0
    have l1 := Later.cell_of x1
    have l2 := Later.cell_of x2
    have l3 := Later.cell_of x3
    have hne := later_ne ws
    repeat (go_big_quiet_step (first | (go_at_call 71; first | (with_reducible exact Calls.later (CA.out _)) | (with_reducible exact Calls.later (CN.out _)))))
    refine wpQuiet_nil ?_
    rintro w9 ⟨u9, rfl⟩
    replace hD := hD.next u9.up
    clear l0 l1 l2 l3 hne x0 x1 x2 x3 x4 x5 x6 x7
    generalize u9.world = w4 at *
    obtain ⟨⟨x0, x1, x2, x3⟩, x4, x5, x6, x7⟩ := RowAt.c4 (hD.get 0 rfl)
    go_upto_region 6 with ((with_reducible refine (CP.out _).mono ?_); rintro e w5 ⟨rfl, hb⟩; replace hD := hD.next hb; clear hb x0 x1 x2 x3 x4 x5 x6 x7)
    obtain ⟨⟨x0, x1, x2, x3⟩, x4, x5, x6, x7⟩ := RowAt.c4 (hD.get 0 rfl)
    refine wp_region_later (by kernel_rfl) (by kernel_rfl) ?_
    have l0 := Later.cell_of x0
    have l1 := Later.cell_of x1
    have l2 := Later.cell_of x2
    have l3 := Later.cell_of x3
    have hne := later_ne w5
    repeat (go_big_quiet_step (first | (go_at_call 71; first | (with_reducible exact Calls.later (CB.out _)) | (with_reducible exact Calls.later (CL.out _)))))
    refine wpQuiet_nil ?_
    rintro w9 ⟨u9, rfl⟩
    replace hD := hD.next u9.up
    clear l0 l1 l2 l3 hne x0 x1 x2 x3 x4 x5 x6 x7
    generalize u9.world = w6 at *
    go_wp2_with fail
    go_ret
    exact ⟨congrArg (fun x => Ending.returned (.string x)) HT.out, hD.up⟩
  · have CB := Lib.hid (fun w => show Calls Try.prog 71 #[.int .i64 1, .int .i64 1] w fun e w' => e = .returned (.string (str (toLE (if true = true then 1 else 0) 1))) ∧ Below w.heap.size w w' from ref6_num 1 1 1 1 rfl rfl (by decide) (by decide) (by decide) w)
    have z3 : (str (toLE (if true = true then 1 else 0) 1)).size = 1 := by rw [size_str, toLE_length]
    obtain ⟨A3, hA3⟩ : ∃ A3, str (toLE (if true = true then 1 else 0) 1) = A3 := ⟨_, rfl⟩
    rw [hA3] at CB HT z3
    clear hA3
    go_enter Try.func75, Try.ntmps75
    go_upto_region 1 with fail
    generalize w.heap.size = g0 at *
    generalize w.alloc _ = ws at *
    obtain ⟨⟨x0, x1, x2, x3⟩, x4, x5, x6, x7⟩ := RowAt.c4 (hD.get 0 rfl)
    go_upto_region 4 with fail
    clear x0 x1 x2 x3 x4 x5 x6 x7
    obtain ⟨⟨x0, x1, x2, x3⟩, x4, x5, x6, x7⟩ := RowAt.c4 (hD.get 0 rfl)
    refine wp_region_later (by kernel_rfl) (by kernel_rfl) ?_
    have l0 := Later.cell_of x0
    have l1 := Later.cell_of x1
    have l2 := Later.cell_of x2
    have l3 := Later.cell_of x3
    have hne := later_ne ws
    repeat (go_big_quiet_step (first | (go_at_call 71; first | (with_reducible exact Calls.later (CA.out _)) | (with_reducible exact Calls.later (CN.out _)))))
    refine wpQuiet_nil ?_
    rintro w9 ⟨u9, rfl⟩
    replace hD := hD.next u9.up
    clear l0 l1 l2 l3 hne x0 x1 x2 x3 x4 x5 x6 x7
    generalize u9.world = w4 at *
    obtain ⟨⟨x0, x1, x2, x3⟩, x4, x5, x6, x7⟩ := RowAt.c4 (hD.get 0 rfl)
    go_upto_region 6 with ((with_reducible refine (CP.out _).mono ?_); rintro e w5 ⟨rfl, hb⟩; replace hD := hD.next hb; clear hb x0 x1 x2 x3 x4 x5 x6 x7)
    obtain ⟨⟨x0, x1, x2, x3⟩, x4, x5, x6, x7⟩ := RowAt.c4 (hD.get 0 rfl)
    refine wp_region_later (by kernel_rfl) (by kernel_rfl) ?_
    have l0 := Later.cell_of x0
    have l1 := Later.cell_of x1
    have l2 := Later.cell_of x2
    have l3 := Later.cell_of x3
    have hne := later_ne w5
    repeat (go_big_quiet_step (first | (go_at_call 71; first | (with_reducible exact Calls.later (CB.out _)) | (with_reducible exact Calls.later (CL.out _)))))
    refine wpQuiet_nil ?_
    rintro w9 ⟨u9, rfl⟩
    replace hD := hD.next u9.up
    clear l0 l1 l2 l3 hne x0 x1 x2 x3 x4 x5 x6 x7
    generalize u9.world = w6 at *
    go_wp2_with fail
    go_ret
    exact ⟨congrArg (fun x => Ending.returned (.string x)) HT.out, hD.up⟩
end Go.Proofs.Ytokpkkjgagbpfaa
namespace Go.Proofs.Ytokpkkjgagbpfaa
open Go.RowKit Bw
set_option linter.unusedVariables false
set_option maxRecDepth 100000
theorem recN_lt (t : ByteArray) : recN t < 16777217 := by
  unfold recN getV
  split
  · have h1 := le_lt (((lst t).drop (0 : Int).toNat).take (3 : Int).toNat)
    have h2 : (((lst t).drop (0 : Int).toNat).take (3 : Int).toNat).length ≤ 3 := by rw [List.length_take]; exact Nat.min_le_left _ _
    have h3 : 256 ^ (((lst t).drop (0 : Int).toNat).take (3 : Int).toNat).length ≤ 256 ^ 3 := Nat.pow_le_pow_right (by decide) h2
    have h4 : (256 : Nat) ^ 3 = 16777216 := by decide
    omega
  · decide
/-- Records in new memory, and what is left. -/
def RecsPost (w : World) (s : ByteArray) (e : Ending) (w' : World) : Prop := ∃ b c, e = .returned (.tuple #[.slice (some ⟨b, 0, none⟩) (wholeW s).1.length c, .string (wholeW s).2]) ∧ Hold w w' [recsR (some ⟨b, 0, none⟩) c (wholeW s).1]
set_option maxHeartbeats 2000000 in
theorem ref6_records (s : ByteArray) (hs : s.size ≤ 1000000) (w : World) : Calls Try.prog 68 #[.string s] w (RecsPost w s) := by
  obtain ⟨inf, hi0', hz0, hz1, hz2⟩ := infoStr
  have hD := (Hold.start w).madeZ 9 1
  go_enter Try.func68, Try.ntmps68
  go_wp2_with fail
  generalize w.heap.size = g0 at *
  generalize w.alloc _ = w0 at *
  go_loopw [4, 5] (fun v4 v5 wr => ∃ (rs : List ByteArray) (t : ByteArray) (b cc m : Nat), v4 = .slice (some ⟨b, 0, none⟩) m cc ∧ rs.length = m ∧ v5 = .string t ∧ t.size + m ≤ s.size ∧ wholeW s = (rs ++ (wholeW t).1, (wholeW t).2) ∧ Hold w wr [recsR (some ⟨b, 0, none⟩) cc rs]) (fun _ v _ => strLen v)
  case atStart => exact ⟨[], s, g0, 0, 0, rfl, rfl, rfl, by omega, by simp, hD⟩
  case round =>
  clear hD
  obtain ⟨rs, t, b, cc, m, rfl, hm0, rfl, hz, hw, hD⟩ := hrel
  have HMm := Lib.hid hm0
  have HW := Lib.hid hw
  clear hw hm0
  have ht0 : t.size ≤ 1000000 := by omega
  have hm1 : m ≤ 1000000 := by omega
  by_cases h3 : 3 ≤ t.size
  · have h3' : (t.size : Int) ≥ 3 := by omega
    have CN := Lib.hid (fun w => ref6_at t (by omega) 0 3 (by decide) w)
    obtain ⟨n0, n1⟩ := getV_range t 0 3 (by decide)
    obtain ⟨N, hN⟩ : ∃ N : Nat, getV t 0 3 = (N : Int) := ⟨(getV t 0 3).toNat, by omega⟩
    have hrn : recN t = N := by unfold recN; omega
    rw [hN] at CN n1
    clear hN n0
    by_cases he : 3 + N ≤ t.size
    · have hm := whole_more h3 (by rw [hrn]; exact he)
      rw [hrn] at hm
      have hx : (t.extract (3 + N) t.size).size = t.size - (3 + N) := by rw [ByteArray.size_extract]; omega
      have HM := Lib.hid hm
      have HX := Lib.hid hx
      have HZ := Lib.hid hz
      have e1 : (t.size : Int) ≥ 3 + (N : Int) := by omega
      have HE := Lib.hid he
      have H3 := Lib.hid h3
      clear hm hx hrn
      go_upto_region 4 with ((with_reducible refine (CN.out _).mono ?_); rintro e wn ⟨rfl, rfl⟩)
      have f1 : (0 : Int) ≤ (N : Int) := by omega
      have f2 : ((3 : Int) + (N : Int)).toNat = 3 + N := by omega
      have hD3 : Hold w wr [ownZ 9 1 (.slice (some ⟨b, 0, none⟩) m cc) m (strC rs)] := by rw [← HMm.out]; exact hD
      clear hD
      have HZ2 := Lib.hid hz
      clear hz hs h3
      have hN6 : N ≤ 1000000 := by omega
      have hle3 : 3 + (N : Int) ≤ (t.size : Int) := by omega
      clear n1 h3' e1 f2 he
      go_upto_region 5 with ((with_reducible refine wpList_at 28 ?_); have hF := hD3.madeRow (.string (t.extract 3 (3 + N))) [] 9; have r7 : RowAt _ wr.heap.size [.string (t.extract 3 (3 + N))] := hF.get (R := rowR wr.heap.size (.string (t.extract 3 (3 + N))) []) 1 rfl; refine wpList_appendZ rfl _ _ 49 rfl 9 inf (.string ⟨#[]⟩) 1 16 (by kernel_rfl) hi0' hz0 hz1 hz2 rfl (by decide) hF 0 _ (strC rs) m rfl rfl ⟨wr.heap.size, 0, none⟩ 1 [.string (t.extract 3 (3 + N))] rfl rfl r7.addsAt (strC_one [t.extract 3 (3 + N)]) (by unfold maxLen; omega) (by omega) ?_; intro b9 c9 w6 hw9; clear hF r7)
      have hD4 := own_more (lst := [ownZ 9 1 (.slice (some ⟨b, 0, none⟩) m cc) m (strC rs)]) 0 HMm.out hw9 (show 0 < 1 by decide)
      replace hD4 : Hold w w6 [recsR (some ⟨b9, 0, none⟩) c9 (rs ++ [t.extract 3 (3 + N)])] := hD4
      clear hw9 hD3
      go_wp2_with fail
      refine ⟨⟨rs ++ [t.extract 3 (3 + N)], t.extract (3 + N) t.size, b9, c9, m + 1, rfl, by rw [List.length_append, HMm.out]; rfl, rfl, ?_, ?_, hD4⟩, ?_⟩
      · have := HX.out; have := HZ2.out; have := H3.out; have := HE.out; omega
      · have h1 := HW.out
        rw [HM.out] at h1
        rw [h1, List.append_assoc]; rfl
      · have := HX.out; have := H3.out; have := HE.out; simp only [strLen]; omega
    · have hm := whole_stop (s := t) (by rw [hrn]; omega)
      have e1 : ¬ (t.size : Int) ≥ 3 + (N : Int) := by omega
      have hN6 : N ≤ 16777216 := by have := recN_lt t; omega
      have HM := Lib.hid hm
      have hrs : (wholeW s).1 = rs := by have := HW.out; rw [HM.out] at this; rw [this]; simp
      have hlt : (wholeW s).2 = t := by have := HW.out; rw [HM.out] at this; rw [this]
      have HRS := Lib.hid hrs
      have HLT := Lib.hid hlt
      have HD := Lib.hid hD
      clear hD hm hrs hlt
      clear n1 he hrn
      go_wp2_with ((with_reducible refine (CN.out _).mono ?_); rintro e wn ⟨rfl, rfl⟩)
      refine bodyPost_ret (v := .tuple #[.slice (some ⟨b, 0, none⟩) m cc, .string t]) (by simp [results, Try.results68, go_sem]) rfl ⟨b, cc, ?_, ?_⟩
      · rw [HRS.out, HLT.out, HMm.out]
      · rw [HRS.out]; exact HD.out
  · have hm := whole_stop (s := t) (by omega)
    have h3' : ¬ (t.size : Int) ≥ 3 := by omega
    have HM := Lib.hid hm
    have hrs : (wholeW s).1 = rs := by have := HW.out; rw [HM.out] at this; rw [this]; simp
    have hlt : (wholeW s).2 = t := by have := HW.out; rw [HM.out] at this; rw [this]
    have HRS := Lib.hid hrs
    have HLT := Lib.hid hlt
    have HD := Lib.hid hD
    clear hD hm hrs hlt
    go_wp2_with fail
    refine bodyPost_ret (v := .tuple #[.slice (some ⟨b, 0, none⟩) m cc, .string t]) (by simp [results, Try.results68, go_sem]) rfl ⟨b, cc, ?_, ?_⟩
    · rw [HRS.out, HLT.out, HMm.out]
    · rw [HRS.out]; exact HD.out
end Go.Proofs.Ytokpkkjgagbpfaa
namespace Bw
open Go Go.RowKit
set_option linter.unusedVariables false
theorem le_inj : ∀ (a b : List UInt8), a.length = b.length → le a = le b → a = b
  | [], [], _, _ => rfl
  | x :: a, y :: b, hl, h => by
    have hx := x.toNat_lt
    have hy := y.toNat_lt
    have h1 : x.toNat + 256 * le a = y.toNat + 256 * le b := h
    have h2 : x.toNat = y.toNat := by omega
    have h3 : le a = le b := by omega
    rw [le_inj a b (by simpa using hl) h3, UInt8.toNat_inj.1 h2]
theorem names_same {s : ByteArray} (hs : s.size = 252) : (s.extract 0 8 = s.extract 244 252) ↔ (getV s 0 6 = getV s 244 6 ∧ getV s 6 2 = getV s 250 2) := by
  have g1 := getV_eq (s := s) (i := 0) (k := 6) (by omega) (by omega) (by omega)
  have g2 := getV_eq (s := s) (i := 244) (k := 6) (by omega) (by omega) (by omega)
  have g3 := getV_eq (s := s) (i := 6) (k := 2) (by omega) (by omega) (by omega)
  have g4 := getV_eq (s := s) (i := 250) (k := 2) (by omega) (by omega) (by omega)
  have hl : (lst s).length = 252 := by rw [lst_length, hs]
  have e0 : lst (s.extract 0 8) = ((lst s).drop 0).take 6 ++ ((lst s).drop 6).take 2 := by
    rw [extract_lst, List.drop_zero, show 8 - 0 = 6 + 2 from rfl, List.take_add]
  have e1 : lst (s.extract 244 252) = ((lst s).drop 244).take 6 ++ ((lst s).drop 250).take 2 := by
    rw [extract_lst, show 252 - 244 = 6 + 2 from rfl, List.take_add, List.drop_drop]
  have l1 : (((lst s).drop 0).take 6).length = 6 := by rw [List.length_take, List.length_drop, hl]; rfl
  have l2 : (((lst s).drop 244).take 6).length = 6 := by rw [List.length_take, List.length_drop, hl]; rfl
  have l3 : (((lst s).drop 6).take 2).length = 2 := by rw [List.length_take, List.length_drop, hl]; rfl
  have l4 : (((lst s).drop 250).take 2).length = 2 := by rw [List.length_take, List.length_drop, hl]; rfl
  constructor
  · intro h
    have h2 := congrArg lst h
    rw [e0, e1] at h2
    obtain ⟨h3, h4⟩ := List.append_inj h2 (by rw [l1, l2])
    refine ⟨?_, ?_⟩
    · show getV s ((0 : Nat) : Int) ((6 : Nat) : Int) = getV s ((244 : Nat) : Int) ((6 : Nat) : Int)
      rw [g1, g2, h3]
    · show getV s ((6 : Nat) : Int) ((2 : Nat) : Int) = getV s ((250 : Nat) : Int) ((2 : Nat) : Int)
      rw [g3, g4, h4]
  · rintro ⟨h1, h2⟩
    have h1' : getV s ((0 : Nat) : Int) ((6 : Nat) : Int) = getV s ((244 : Nat) : Int) ((6 : Nat) : Int) := h1
    have h2' : getV s ((6 : Nat) : Int) ((2 : Nat) : Int) = getV s ((250 : Nat) : Int) ((2 : Nat) : Int) := h2
    rw [g1, g2] at h1'
    rw [g3, g4] at h2'
    apply lst_inj
    have e6 := le_inj (((lst s).drop 0).take 6) (((lst s).drop 244).take 6) (l1.trans l2.symm) (by omega)
    have e2 := le_inj (((lst s).drop 6).take 2) (((lst s).drop 250).take 2) (l3.trans l4.symm) (by omega)
    rw [e0, e1, e6, e2]
theorem getV_at {s : ByteArray} {i : Nat} (h : i < s.size) : getV s (i : Int) 1 = ((s[i]'h).toNat : Int) := by
  have g := getV_eq (s := s) (i := i) (k := 1) (by omega) (by omega) (by omega)
  have hl : i < (lst s).length := by rw [lst_length]; exact h
  have e : ((lst s).drop i).take 1 = [(lst s)[i]'hl] := by
    rw [List.drop_eq_getElem_cons hl]; rfl
  rw [show ((1 : Nat) : Int) = 1 from rfl] at g
  rw [g, e, le_one]
  rfl
theorem leafOf_no {s : ByteArray} (hs : s.size = 252) {i : Int} (h : getV s 0 6 < 1 ∨ ¬ getV s 6 2 = i ∨ 1 < ((s[8]'(by omega)).toNat : Int) ∨ 234 < ((s[9]'(by omega)).toNat : Int) ∨ ¬ s.extract 0 8 = s.extract 244 252) : leafOf s i = none := by
  have e8 : getV s 8 1 = _ := getV_at (s := s) (i := 8) (by omega)
  have e9 : getV s 9 1 = _ := getV_at (s := s) (i := 9) (by omega)
  have hn := names_same hs
  obtain ⟨a0, a1⟩ := getV_range s 0 6 (by decide)
  unfold leafOf
  rw [if_neg]
  rintro ⟨h1, h2, h3, h4, h5, h6⟩
  rw [e8] at h5
  rw [e9] at h6
  rcases h with h | h | h | h | h
  · omega
  · exact h h4
  · omega
  · omega
  · exact h (hn.2 ⟨h1, h2⟩)
theorem leafOf_yes {s : ByteArray} (hs : s.size = 252) {i : Int} (h1 : ¬ getV s 0 6 < 1) (h2 : getV s 6 2 = i) (h3 : ¬ 1 < ((s[8]'(by omega)).toNat : Int)) (h4 : ¬ 234 < ((s[9]'(by omega)).toNat : Int)) (h5 : s.extract 0 8 = s.extract 244 252) :
    leafOf s i = some ⟨getV s 0 6, decide (((s[8]'(by omega)).toNat : Int) = 1), s.extract 10 (10 + (s[9]'(by omega)).toNat)⟩ := by
  have e8 : getV s 8 1 = _ := getV_at (s := s) (i := 8) (by omega)
  have e9 : getV s 9 1 = _ := getV_at (s := s) (i := 9) (by omega)
  have hn := (names_same hs).1 h5
  unfold leafOf
  rw [if_pos ⟨hn.1, hn.2, by omega, h2, by rw [e8]; omega, by rw [e9]; omega⟩, e8, e9]
  rfl
end Bw
namespace Go.Proofs.Ytokpkkjgagbpfaa
open Go.RowKit Bw
set_option linter.unusedVariables false
set_option maxRecDepth 100000
/-- A leaf as the document's value. -/
def leaf6V (i : Nat) : Option LeafW → Value
  | none => .agg #[.int .i64 0, .int .i64 0, .bool false, .string ⟨#[]⟩]
  | some l => .agg #[.int .i64 l.age, .int .i64 (i : Int), .bool l.begins, .string l.bytes]
variable {W w : World} {X : Res} {T : List Res} {g : Nat} {vL vW : Value} {d : DiskD}
theorem at_up (s : ByteArray) (hs : s.size ≤ 1099511627776) (i k : Int) (hk : k ≤ 6) (V : Int) (hV : getV s i k = V) (w : World) : Calls Try.prog 41 #[.string s, .int .i64 i, .int .i64 k] w fun e w' => e = .returned (.int .i64 V) ∧ Up w w' := by
  subst hV
  exact (ref6_at s hs i k hk w).mono fun e w' ⟨h1, h2⟩ => ⟨h1, h2 ▸ Up.refl w⟩
set_option maxHeartbeats 2000000 in
theorem ref6_Read (h : Hold W w (refs X g vL vW d T)) (hok : d.Ok) (hl : d.W.length ≤ 1000) (half i : Nat) (hh : half ≤ 1) (hi : i < d.halfN) :
    Calls Try.prog 67 #[.pointer (some ⟨g, 0, none⟩), .int .i64 (half : Int), .int .i64 (i : Int)] w fun e w' => e = .returned (.tuple #[leaf6V i (d.leafW half i), .bool (d.leafW half i).isSome]) ∧ Up w w' := by
  have hn2 := hok.n2
  have hn1 := hok.n1
  obtain ⟨x0, x1, -, -⟩ := refs_row h
  obtain ⟨b, cap, rfl, -⟩ := refs_L h (by omega)
  obtain ⟨n, hn⟩ : ∃ n, d.n = n := ⟨_, rfl⟩
  obtain ⟨H, hH⟩ : ∃ H, d.halfN = H := ⟨_, rfl⟩
  have hnH : (n : Int) / 2 = (H : Int) := by unfold DiskD.halfN at hH; omega
  obtain ⟨P, hP⟩ : ∃ P : Nat, half * H = P := ⟨_, rfl⟩
  have hmul : (half : Int) * (H : Int) = (P : Int) := by rw [← hP, Int.natCast_mul]
  have hP2 : P ≤ 512 := by
    unfold DiskD.halfN at hH
    rcases Nat.le_one_iff_eq_zero_or_eq_one.1 hh with h | h <;> subst h <;> omega
  have hH512 : H ≤ 512 := by unfold DiskD.halfN at hH; omega
  have hm1 : wrap64 ((half : Int) * (H : Int)) = (P : Int) := by rw [hmul]; exact add_small0 P hP2
  have hm2 : wrap64 ((P : Int) + (i : Int)) = (P : Int) + (i : Int) := (add_small_ P i (P + i) hP2 (by omega) rfl).trans (Int.natCast_add P i)
  have CR := Lib.hid (fun (w' : World) (hu : Up w w') => ref4_Read (h.next hu) hok hl ((P : Int) + (i : Int)))
  have hR2 := fun h => readS_252 d ((P : Int) + (i : Int)) h
  have hlf : d.leafW half i = if d.readE ((P : Int) + (i : Int)) = 0 then leafOf (d.readS ((P : Int) + (i : Int))) i else none := by
    unfold DiskD.leafW; rw [hH, hmul]
  have HL := Lib.hid hlf
  clear hlf
  generalize d.leafW half i = RES at *
  generalize d.readS ((P : Int) + (i : Int)) = S at *
  generalize d.readE ((P : Int) + (i : Int)) = E at *
  rw [hn] at x0
  rw [hH] at hi
  clear hH hP h hok hl hn
  have x0' := x0
  have hx := World.block_lt_of_cell? w _ x0
  clear x1
  go_enter Try.func67, Try.ntmps67
  go_upto_region 1 with fail
  have hD := (Hold.start w).madeRow (.int .i64 0) [.int .i64 0, .bool false, .string ⟨#[]⟩] 108
  simp only [List.nil_append] at hD
  replace x0 := (Below.cell (p := ⟨g, 0, none⟩) hD.up hx).trans x0
  generalize w.heap.size = g0 at *
  generalize w.alloc _ = w0 at *
  go_upto_region 2 with ((with_reducible refine (CR.out _ hD.up).mono ?_); rintro e wm ⟨rfl, hb⟩; replace hD := hD.next hb; clear hb)
  clear x0 hmul hm1 hm2 hnH hP2 CR x0'
  by_cases hE : E = 0
  · subst hE
    have hz := hR2 rfl
    clear hR2
    have CA := Lib.hid (fun w => at_up S (by omega) 0 6 (by decide) _ rfl w)
    have CN := Lib.hid (fun w => at_up S (by omega) 6 2 (by decide) _ rfl w)
    have hL := HL.out
    rw [if_pos rfl] at hL
    clear HL
    have YES := fun h1 h2 h3 h4 h5 => leafOf_yes hz (i := (i : Int)) h1 h2 h3 h4 h5
    have NO := fun h => leafOf_no hz (i := (i : Int)) h
    rw [← hL] at YES NO
    clear hL
    replace YES := Lib.hid YES
    replace NO := Lib.hid NO
    obtain ⟨c8, hc8⟩ : ∃ c, S[8]'(by omega) = c := ⟨_, rfl⟩
    obtain ⟨c9, hc9⟩ : ∃ c, S[9]'(by omega) = c := ⟨_, rfl⟩
    obtain ⟨C8, hC8⟩ : ∃ c : Nat, c8.toNat = c := ⟨_, rfl⟩
    obtain ⟨C9, hC9⟩ : ∃ c : Nat, c9.toNat = c := ⟨_, rfl⟩
    rw [hc8, hc9, hC8, hC9] at YES NO
    obtain ⟨a0, a1⟩ := getV_range S 0 6 (by decide)
    obtain ⟨n0, n1⟩ := getV_range S 6 2 (by decide)
    generalize getV S 0 6 = A at *
    generalize getV S 6 2 = B at *
    go_upto_region 4 with fail
    have k8 : (0 : Int) ≤ (C8 : Int) := by omega
    have k9 : (0 : Int) ≤ (C9 : Int) := by omega
    have m8 : (C8 : Int) < 256 := by have := c8.toNat_lt; omega
    have m9 : (C9 : Int) < 256 := by have := c9.toNat_lt; omega
    refine wp_region_two Up (Keeps (fun _ => True)) (keeps_ok (fun _ h => h)) (by kernel_rfl) (by kernel_rfl) (by kernel_rfl) ?_
    replace hD := hD.next (Up.drew (Up.refl wm))
    generalize wm.drew = wa at *
    refine wpAnyTS_quiet 0 8 2 72 (by rfl) (by kernel_rfl) (fun _ _ _ _ _ h => h) (by kernel_rfl) (by kernel_rfl) ?_
    apply Exists.intro
    refine ⟨fun w2' hw2 => ?_, ?_⟩
    · have hne := laterR_ne (R := Up) rok_upQ w2'
      simp only [List.drop_zero, List.take_succ_cons, List.take_zero]
      repeat (go_big_quiet_step (first | (go_at_call 41; first | (with_reducible exact Calls.laterUp (CA.out _)) | (with_reducible exact Calls.laterUp (CN.out _)))))
      exact wpQuiet_nil rfl
    refine wpAnyTS_some 8 [] 1 (by rfl) (by kernel_rfl) (by kernel_rfl) ?_
    intro w2 h2
    refine ⟨?_, trivial⟩
    replace hD := hD.next h2
    clear h2
    simp only [List.drop_succ_cons, List.drop_zero, List.take_succ_cons, List.take_zero]
    go_wp2_with fail
    refine ⟨.inr (fun _ => trivial), ?_⟩
    replace hD := hD.madeRow (.int .i64 0) [.int .i64 0, .bool false, .string ⟨#[]⟩] 108
    simp only [List.singleton_append] at hD
    generalize w2.heap.size = g1 at *
    generalize w2.alloc _ = w3 at *
    refine wpAnyTS_some 9 [] 0 (by rfl) (by kernel_rfl) (by kernel_rfl) ?_
    intro w4 h4
    refine ⟨?_, trivial⟩
    replace hD := hD.next h4
    clear h4
    simp only [List.drop_succ_cons, List.drop_zero, List.take_succ_cons, List.take_zero]
    obtain ⟨⟨p0, p1, p2, p3⟩, y0, y1, y2, y3⟩ := RowAt.c4 (hD.get 1 rfl)
    go_wp2_with fail
    refine ⟨.inr (fun _ => trivial), ?_⟩
    clear p0 p1 p2 p3 y0 y1 y2 y3
    replace hD := (((hD.putRow 1 (g := g1) rfl 0 (.int .i64 A) (.int .i64 A) [.int .i64 0, .bool false, .string ⟨#[]⟩] (by simp) rfl).putRow 1 (g := g1) rfl 1 (.int .i64 B) (.int .i64 A) [.int .i64 B, .bool false, .string ⟨#[]⟩] (by simp) rfl).putRow 1 (g := g1) rfl 2 (.bool ((C8 : Int) == 1)) (.int .i64 A) [.int .i64 B, .bool ((C8 : Int) == 1), .string ⟨#[]⟩] (by simp) rfl).putRow 1 (g := g1) rfl 3 (.string ⟨#[]⟩) (.int .i64 A) [.int .i64 B, .bool ((C8 : Int) == 1), .string ⟨#[]⟩] (by simp) rfl
    generalize (((World.setCell w4 ⟨g1, 0, none⟩ (.int .i64 A)).setCell ⟨g1, 1, none⟩ (.int .i64 B)).setCell ⟨g1, 2, none⟩ (.bool ((C8 : Int) == 1))).setCell ⟨g1, 3, none⟩ (.string ⟨#[]⟩) = w5 at *
    refine wpAnyTS_done (by kernel_rfl) ?_
    intro w6 h6
    replace hD := hD.next h6
    clear h6 CA CN a0 a1 n0 n1 hx hn1 hn2 hi hH512 hh
    go_upto_region 5 with fail
    go_cut [62] (fun v62 wx => ∃ bb : Bool, v62 = .bool bb ∧ (bb = true → RES = none) ∧ (bb = false → RES = some ⟨A, decide ((C8 : Int) = 1), S.extract 10 (10 + C9)⟩ ∧ C9 ≤ 234 ∧ B = (i : Int)) ∧ Hold w wx [rowR g0 (.int .i64 0) [.int .i64 0, .bool false, .string ⟨#[]⟩], rowR g1 (.int .i64 A) [.int .i64 B, .bool ((C8 : Int) == 1), .string ⟨#[]⟩]])
    case first =>
      by_cases q1 : A < 1
      · have hR := NO.out (.inl q1)
        obtain ⟨⟨p0, p1, p2, p3⟩, y0, y1, y2, y3⟩ := RowAt.c4 (hD.get 1 rfl)
        refine wp_region_later (by kernel_rfl) (by kernel_rfl) ?_
        have l0 := Later.cell_of p0
        have l1 := Later.cell_of p1
        have hne := later_ne w6
        have hDD := Lib.hid hD
        clear p0 p1 p2 p3 y0 y1 y2 y3 hD YES NO
        repeat (go_big_quiet_step (fail))
        refine wpQuiet_nil ?_
        rintro w7 ⟨u7, rfl⟩
        go_wp2_with fail
        go_meet
        exact ⟨_, rfl, fun _ => hR, fun h => (by cases h), hDD.out.next u7.up⟩
      by_cases q2 : ¬ B = (i : Int)
      · have q2' : (B != (i : Int)) = true := by simpa using q2
        have hR := NO.out (.inr (.inl q2))
        obtain ⟨⟨p0, p1, p2, p3⟩, y0, y1, y2, y3⟩ := RowAt.c4 (hD.get 1 rfl)
        refine wp_region_later (by kernel_rfl) (by kernel_rfl) ?_
        have l0 := Later.cell_of p0
        have l1 := Later.cell_of p1
        have hne := later_ne w6
        have hDD := Lib.hid hD
        clear p0 p1 p2 p3 y0 y1 y2 y3 hD YES NO
        repeat (go_big_quiet_step (fail))
        refine wpQuiet_nil ?_
        rintro w7 ⟨u7, rfl⟩
        go_wp2_with fail
        go_meet
        exact ⟨_, rfl, fun _ => hR, fun h => (by cases h), hDD.out.next u7.up⟩
      replace q2 := Decidable.not_not.1 q2
      have q2' : (B != (i : Int)) = false := by simpa using q2
      by_cases q3 : (C8 : Int) > 1
      · have hR := NO.out (.inr (.inr (.inl q3)))
        obtain ⟨⟨p0, p1, p2, p3⟩, y0, y1, y2, y3⟩ := RowAt.c4 (hD.get 1 rfl)
        refine wp_region_later (by kernel_rfl) (by kernel_rfl) ?_
        have l0 := Later.cell_of p0
        have l1 := Later.cell_of p1
        have hne := later_ne w6
        have hDD := Lib.hid hD
        clear p0 p1 p2 p3 y0 y1 y2 y3 hD YES NO
        repeat (go_big_quiet_step (fail))
        refine wpQuiet_nil ?_
        rintro w7 ⟨u7, rfl⟩
        go_wp2_with fail
        go_meet
        exact ⟨_, rfl, fun _ => hR, fun h => (by cases h), hDD.out.next u7.up⟩
      by_cases q4 : (C9 : Int) > 234
      · have hR := NO.out (.inr (.inr (.inr (.inl q4))))
        obtain ⟨⟨p0, p1, p2, p3⟩, y0, y1, y2, y3⟩ := RowAt.c4 (hD.get 1 rfl)
        refine wp_region_later (by kernel_rfl) (by kernel_rfl) ?_
        have l0 := Later.cell_of p0
        have l1 := Later.cell_of p1
        have hne := later_ne w6
        have hDD := Lib.hid hD
        clear p0 p1 p2 p3 y0 y1 y2 y3 hD YES NO
        repeat (go_big_quiet_step (fail))
        refine wpQuiet_nil ?_
        rintro w7 ⟨u7, rfl⟩
        go_wp2_with fail
        go_meet
        exact ⟨_, rfl, fun _ => hR, fun h => (by cases h), hDD.out.next u7.up⟩
      by_cases q5 : ¬ S.extract 0 8 = S.extract 244 252
      · have q5' : ((S.extract 0 8).toList == (S.extract 244 252).toList) = false := by
          rw [str_eqS]
          simpa using q5
        have hR := NO.out (.inr (.inr (.inr (.inr q5))))
        obtain ⟨⟨p0, p1, p2, p3⟩, y0, y1, y2, y3⟩ := RowAt.c4 (hD.get 1 rfl)
        refine wp_region_later (by kernel_rfl) (by kernel_rfl) ?_
        have l0 := Later.cell_of p0
        have l1 := Later.cell_of p1
        have hne := later_ne w6
        have hDD := Lib.hid hD
        clear p0 p1 p2 p3 y0 y1 y2 y3 hD YES NO
        repeat (go_big_quiet_step (fail))
        refine wpQuiet_nil ?_
        rintro w7 ⟨u7, rfl⟩
        go_wp2_with fail
        go_meet
        exact ⟨_, rfl, fun _ => hR, fun h => (by cases h), hDD.out.next u7.up⟩
      replace q5 := Decidable.not_not.1 q5
      have q5' : ((S.extract 0 8).toList == (S.extract 244 252).toList) = true := by
        rw [str_eqS, q5]; simp
      have hR := YES.out (by omega) q2 (by omega) (by omega) q5
      have hC9 : C9 ≤ 234 := by omega
      obtain ⟨⟨p0, p1, p2, p3⟩, y0, y1, y2, y3⟩ := RowAt.c4 (hD.get 1 rfl)
      refine wp_region_later (by kernel_rfl) (by kernel_rfl) ?_
      have l0 := Later.cell_of p0
      have l1 := Later.cell_of p1
      have hne := later_ne w6
      have hDD := Lib.hid hD
      clear p0 p1 p2 p3 y0 y1 y2 y3 hD YES NO
      repeat (go_big_quiet_step (fail))
      refine wpQuiet_nil ?_
      rintro w7 ⟨u7, rfl⟩
      go_wp2_with fail
      go_meet
      exact ⟨_, rfl, (fun h => (by cases h)), (fun _ => ⟨hR, hC9, q2⟩), hDD.out.next u7.up⟩
    case rest =>
      obtain ⟨bb, rfl, ht, hf, hD⟩ := hcut
      clear NO YES
      cases bb
      · obtain ⟨hR, hC9, hBi⟩ := hf rfl
        replace hBi := Lib.hid hBi
        clear ht hf
        subst hR
        have s1 : ((10 : Int) + (C9 : Int)).toNat = 10 + C9 := by omega
        have s2 : (10 : Int) + (C9 : Int) ≤ (S.size : Int) := by omega
        have s3 : (0 : Int) ≤ 10 + (C9 : Int) := by omega
        have s4 : (10 : Int) ≤ 10 + (C9 : Int) := by omega
        have s5 : wrap64 (10 + (C9 : Int)) = 10 + (C9 : Int) := IntWalk.wrap64_in _ (by omega)
        go_upto_region 7 with fail
        obtain ⟨⟨p0, p1, p2, p3⟩, y0, y1, y2, y3⟩ := RowAt.c4 (hD.get 1 rfl)
        go_upto_region 8 with fail
        clear p0 p1 p2 p3 y0 y1 y2 y3
        replace hD := hD.putRow 1 (g := g1) rfl 3 (.string (S.extract 10 (10 + C9))) (.int .i64 A) [.int .i64 B, .bool ((C8 : Int) == 1), .string (S.extract 10 (10 + C9))] (by simp) rfl
        generalize World.setCell wc _ _ = w8 at *
        obtain ⟨⟨p0, p1, p2, p3⟩, y0, y1, y2, y3⟩ := RowAt.c4 (hD.get 1 rfl)
        obtain ⟨⟨z0, z1, z2, z3⟩, x0, x1, x2, x3⟩ := RowAt.c4 (hD.get 0 rfl)
        go_wp2_with fail
        clear p0 p1 p2 p3 y0 y1 y2 y3 z0 z1 z2 z3 x0 x1 x2 x3
        replace hD := (((hD.putRow 0 (g := g0) rfl 0 (.int .i64 A) (.int .i64 A) [.int .i64 0, .bool false, .string ⟨#[]⟩] (by simp) rfl).putRow 0 (g := g0) rfl 1 (.int .i64 B) (.int .i64 A) [.int .i64 B, .bool false, .string ⟨#[]⟩] (by simp) rfl).putRow 0 (g := g0) rfl 2 (.bool ((C8 : Int) == 1)) (.int .i64 A) [.int .i64 B, .bool ((C8 : Int) == 1), .string ⟨#[]⟩] (by simp) rfl).putRow 0 (g := g0) rfl 3 (.string (S.extract 10 (10 + C9))) (.int .i64 A) [.int .i64 B, .bool ((C8 : Int) == 1), .string (S.extract 10 (10 + C9))] (by simp) rfl
        generalize (((World.setCell w8 ⟨g0, 0, none⟩ (.int .i64 A)).setCell ⟨g0, 1, none⟩ (.int .i64 B)).setCell ⟨g0, 2, none⟩ (.bool ((C8 : Int) == 1))).setCell ⟨g0, 3, none⟩ (.string (S.extract 10 (10 + C9))) = w9 at *
        obtain ⟨⟨p0, p1, p2, p3⟩, -⟩ := RowAt.c4 (hD.get 0 rfl)
        refine bodyPost_ret (v := .tuple #[.agg #[.int .i64 A, .int .i64 B, .bool ((C8 : Int) == 1), .string (S.extract 10 (10 + C9))], .bool true]) (by simp [results, Try.results67, go_sem, p0, p1, p2, p3]) rfl ⟨?_, hD.up⟩
        rw [hBi.out]
        rfl
      · have hR := ht rfl
        clear ht hf
        subst hR
        obtain ⟨⟨p0, p1, p2, p3⟩, y0, y1, y2, y3⟩ := RowAt.c4 (hD.get 0 rfl)
        go_wp2_with fail
        clear p0 p1 p2 p3 y0 y1 y2 y3
        replace hD := (((hD.putRow 0 (g := g0) rfl 0 (.int .i64 0) (.int .i64 0) [.int .i64 0, .bool false, .string ⟨#[]⟩] (by simp) rfl).putRow 0 (g := g0) rfl 1 (.int .i64 0) (.int .i64 0) [.int .i64 0, .bool false, .string ⟨#[]⟩] (by simp) rfl).putRow 0 (g := g0) rfl 2 (.bool false) (.int .i64 0) [.int .i64 0, .bool false, .string ⟨#[]⟩] (by simp) rfl).putRow 0 (g := g0) rfl 3 (.string ⟨#[]⟩) (.int .i64 0) [.int .i64 0, .bool false, .string ⟨#[]⟩] (by simp) rfl
        generalize (((World.setCell wc ⟨g0, 0, none⟩ (.int .i64 0)).setCell ⟨g0, 1, none⟩ (.int .i64 0)).setCell ⟨g0, 2, none⟩ (.bool false)).setCell ⟨g0, 3, none⟩ (.string ⟨#[]⟩) = w9 at *
        obtain ⟨⟨p0, p1, p2, p3⟩, -⟩ := RowAt.c4 (hD.get 0 rfl)
        refine bodyPost_ret (v := .tuple #[.agg #[.int .i64 0, .int .i64 0, .bool false, .string ⟨#[]⟩], .bool false]) (by simp [results, Try.results67, go_sem, p0, p1, p2, p3]) rfl ⟨rfl, hD.up⟩
  · have hE2 : (E != 0) = true := by simpa using hE
    have hL := HL.out
    rw [if_neg hE] at hL
    subst hL
    clear hR2
    obtain ⟨⟨p0, p1, p2, p3⟩, y0, y1, y2, y3⟩ := RowAt.c4 (hD.get 0 rfl)
    go_wp2_with fail
    clear p0 p1 p2 p3 y0 y1 y2 y3
    replace hD := (((hD.putRow 0 (g := g0) rfl 0 (.int .i64 0) (.int .i64 0) [.int .i64 0, .bool false, .string ⟨#[]⟩] (by simp) rfl).putRow 0 (g := g0) rfl 1 (.int .i64 0) (.int .i64 0) [.int .i64 0, .bool false, .string ⟨#[]⟩] (by simp) rfl).putRow 0 (g := g0) rfl 2 (.bool false) (.int .i64 0) [.int .i64 0, .bool false, .string ⟨#[]⟩] (by simp) rfl).putRow 0 (g := g0) rfl 3 (.string ⟨#[]⟩) (.int .i64 0) [.int .i64 0, .bool false, .string ⟨#[]⟩] (by simp) rfl
    generalize (((World.setCell wm ⟨g0, 0, none⟩ (.int .i64 0)).setCell ⟨g0, 1, none⟩ (.int .i64 0)).setCell ⟨g0, 2, none⟩ (.bool false)).setCell ⟨g0, 3, none⟩ (.string ⟨#[]⟩) = w9 at *
    obtain ⟨⟨p0, p1, p2, p3⟩, -⟩ := RowAt.c4 (hD.get 0 rfl)
    refine bodyPost_ret (v := .tuple #[.agg #[.int .i64 0, .int .i64 0, .bool false, .string ⟨#[]⟩], .bool false]) (by simp [results, Try.results67, go_sem, p0, p1, p2, p3]) rfl ⟨rfl, hD.up⟩
end Go.Proofs.Ytokpkkjgagbpfaa
namespace Go.Proofs.Ytokpkkjgagbpfaa
open Go.RowKit Bw
set_option linter.unusedVariables false
set_option maxRecDepth 100000
theorem own_cells {W w : World} {l : List Res} {k b cap : Nat} {rs : List ByteArray} (h : Hold W w l) (hk : l[k]? = some (recsR (some ⟨b, 0, none⟩) cap rs)) : ∀ (ad : Addr) (i : Nat) (u : Value), (some ⟨b, 0, none⟩ : Option Addr) = some ad → (strC rs)[i]? = some u → w.cell? (ad.add i) = some u := by
  intro ad i u ha hu
  injection ha with ha
  subst ha
  have hX : w.ownsRow 0 9 1 (.slice (some ⟨b, 0, none⟩) rs.length cap) rs.length (strC rs) := h.get k hk
  have hi : i < (strC rs).length := (List.getElem?_eq_some_iff.1 hu).1
  rw [strC_length] at hi
  have hadd : (⟨b, 0, none⟩ : Addr).add i = ⟨b, i, none⟩ := by unfold Addr.add; split <;> simp_all
  rw [hadd, World.ownsRow.cellAt hX i (by omega), hu]
/-- What the document's Scan hands back. -/
def ScanPost6 (w : World) (st : ScanW) (e : Ending) (w' : World) : Prop := ∃ (q : Option Addr) (c : Nat), e = .returned (.tuple #[.int .i64 st.age, .slice q st.recs.length c, .int .i64 (st.pages : Int)]) ∧ Hold w w' [recsR q c st.recs]
variable {W w : World} {X : Res} {T : List Res} {g : Nat} {vL vW : Value} {d : DiskD}
set_option maxHeartbeats 2000000 in
theorem ref6_Scan (h : Hold W w (refs X g vL vW d T)) (hok : d.Ok) (hl : d.W.length ≤ 1000) (half : Nat) (hh : half ≤ 1) :
    Calls Try.prog 40 #[.pointer (some ⟨g, 0, none⟩), .int .i64 (half : Int)] w (ScanPost6 w (d.scan half)) := by
  have hn2 := hok.n2
  have hn1 := hok.n1
  obtain ⟨inf, hi0', hz0, hz1, hz2⟩ := infoStr
  obtain ⟨b, cap, hvL, -⟩ := refs_L h (by omega)
  have CR := Lib.hid (fun w1 (hh' : Hold W w1 (refs X g vL vW d T)) i hi => ref6_Read hh' hok hl half i hh hi)
  obtain ⟨D, hDn⟩ : ∃ D : Nat, d.n = D := ⟨_, rfl⟩
  obtain ⟨H, hH⟩ : ∃ H : Nat, d.halfN = H := ⟨_, rfl⟩
  have hQ2 : (D : Int) / 2 = (H : Int) := by unfold DiskD.halfN at hH; omega
  have hH512 : H ≤ 512 := by unfold DiskD.halfN at hH; omega
  rw [hDn] at hvL
  have hx0 : ∀ w1, Hold W w1 (refs X g vL vW d T) → w1.cell? ⟨g, 0, none⟩ = some (.slice (some ⟨b, 0, none⟩) D cap) := fun w1 hh' => by rw [← hvL]; exact (refs_row hh').1
  have X0 := Lib.hid hx0
  obtain ⟨FIN, hF⟩ : ∃ FIN, d.scan half = FIN := ⟨_, rfl⟩
  have hF2 : scanN (d.leafW half) H 0 scan0 = FIN := by rw [← hF, ← hH]; rfl
  have hsz := fun i lf (h : d.leafW half i = some lf) => leafW_size h
  rw [hF]
  have HF := Lib.hid hF2
  have HSZ := Lib.hid hsz
  have HH := Lib.hid hH
  have H0 := Lib.hid h
  have hD := (Hold.start w).madeZ 9 1
  clear hF hF2 hsz hH hn1 hn2 h hx0
  generalize d.leafW half = rd at *
  go_enter Try.func40, Try.ntmps40
  go_wp2_with fail
  generalize w.heap.size = g0 at *
  generalize w.alloc _ = w0 at *
  go_loopw [7, 8, 9, 10, 11] (fun v7 v8 v9 v10 v11 wr => ∃ (n : Nat) (st : ScanW) (q : Option Addr) (c : Nat), v11 = .int .i64 (n : Int) ∧ v8 = .string st.left ∧ v9 = .int .i64 st.last ∧ v10 = .int .i64 st.age ∧ v7 = .slice q st.recs.length c ∧ n ≤ H ∧ st.pages = n ∧ Hold w wr [recsR q c st.recs] ∧ scanN rd (H - n) n st = FIN ∧ st.left.size + 3 * st.recs.length ≤ 234 * n) (fun v7 v8 v9 v10 v11 _ => H - (intOf v11).toNat)
  case atStart => exact ⟨0, scan0, _, _, rfl, rfl, rfl, rfl, rfl, by omega, rfl, hD, HF.out, by decide⟩
  case round =>
  clear hD
  obtain ⟨n, st, q, c, rfl, rfl, rfl, rfl, rfl, hn, hp, hD, hs, hz⟩ := hrel
  have x0 := X0.out _ (H0.out.next hD.up)
  have HP := Lib.hid hp
  by_cases hlt : n < H
  · have hlt' : (n : Int) < (H : Int) := by omega
    have CRn := Lib.hid (CR.out wr (H0.out.next hD.up) n (by rw [HH.out]; exact hlt))
    cases hrd : rd n with
    | none =>
      rw [hrd, leaf6V, Option.isSome_none] at CRn
      have hfin : st = FIN := by rw [← hs, show H - n = (H - n - 1) + 1 by omega, scanN, hrd]
      clear hs CR
      subst hfin
      go_upto_region 6 with ((with_reducible refine CRn.out.mono ?_); rintro e wm ⟨rfl, hb⟩; replace hD := hD.next hb; clear hb)
      replace hD := hD.next ((Below.refl _ wm).alloc (Nat.le_refl _) (.cells #[.int .i64 0, .int .i64 0, .bool false, .string ⟨#[]⟩] 108))
      clear x0
      generalize wm.alloc _ = w6 at *
      go_wp2_with fail
      refine bodyPost_ret (v := .tuple #[.int .i64 st.age, .slice q st.recs.length c, .int .i64 (n : Int)]) (by simp [results, Try.results40, go_sem]) rfl ⟨q, c, ?_, hD⟩
      rw [HP.out]
    | some lf =>
      rw [hrd, leaf6V, Option.isSome_some] at CRn
      go_upto_region 6 with ((with_reducible refine CRn.out.mono ?_); rintro e wm ⟨rfl, hb⟩; replace hD := hD.next hb; clear hb)
      replace hD := hD.madeRow (.int .i64 lf.age) [.int .i64 (n : Int), .bool lf.begins, .string lf.bytes] 108
      simp only [List.nil_append, List.cons_append] at hD
      have hLs := HSZ.out n lf hrd
      clear x0 CRn
      generalize hgm : wm.heap.size = gm at *
      generalize wm.alloc _ = w6 at *
      obtain ⟨la, lb, lby⟩ := lf
      by_cases hs1 : la < st.last
      · have hfin : st = FIN := by rw [← hs, show H - n = (H - n - 1) + 1 by omega, scanN, hrd]; simp [scanStop, hs1]
        clear hs CR hrd HF
        subst hfin
        obtain ⟨⟨x0, x1, x2, x3⟩, x4, x5, x6, x7⟩ := RowAt.c4 (hD.get 1 rfl)
        replace hD := hD.sub (l' := [recsR q c st.recs]) (List.sublist_append_left _ [_])
        go_wp2_with fail
        refine bodyPost_ret (v := .tuple #[.int .i64 st.age, .slice q st.recs.length c, .int .i64 (n : Int)]) (by simp [results, Try.results40, go_sem]) rfl ⟨q, c, ?_, hD⟩
        rw [HP.out]
      · have hs1' : st.last ≤ la := by omega
        by_cases hs2 : st.last < la ∧ lb = false
        · obtain ⟨hs2, rfl⟩ := hs2
          have hfin : st = FIN := by rw [← hs, show H - n = (H - n - 1) + 1 by omega, scanN, hrd]; simp [scanStop, hs2]
          clear hs CR hrd HF
          subst hfin
          obtain ⟨⟨x0, x1, x2, x3⟩, x4, x5, x6, x7⟩ := RowAt.c4 (hD.get 1 rfl)
          replace hD := hD.sub (l' := [recsR q c st.recs]) (List.sublist_append_left _ [_])
          go_wp2_with fail
          refine bodyPost_ret (v := .tuple #[.int .i64 st.age, .slice q st.recs.length c, .int .i64 (n : Int)]) (by simp [results, Try.results40, go_sem]) rfl ⟨q, c, ?_, hD⟩
          rw [HP.out]
        · have hnx : scanN rd (H - (n + 1)) (n + 1) (scanStep n ⟨la, lb, lby⟩ st) = FIN := by
            rw [← hs, show H - n = (H - (n + 1)) + 1 by omega, scanN, hrd]
            have : scanStop ⟨la, lb, lby⟩ st = false := by
              unfold scanStop
              cases lb with
              | false => simp only [Bool.or_eq_false_iff, decide_eq_false_iff_not, Bool.and_eq_false_iff]; exact ⟨hs1, .inl fun h => hs2 ⟨h, rfl⟩⟩
              | true => simp only [Bool.or_eq_false_iff, decide_eq_false_iff_not, Bool.and_eq_false_iff]; exact ⟨hs1, .inr rfl⟩
            simp [this]
          have HN := Lib.hid hnx
          clear hnx hs CR hrd HF
          obtain ⟨⟨x0, x1, x2, x3⟩, x4, x5, x6, x7⟩ := RowAt.c4 (hD.get 1 rfl)
          by_cases hl : st.last < la
          · have hb : lb = true := by
              cases lb with
              | false => exact absurd ⟨hl, rfl⟩ hs2
              | true => rfl
            subst hb
            clear hs2
            have hw0 := whole_left _ ((⟨#[]⟩ : ByteArray) ++ lby) (Nat.le_refl _)
            rw [ByteArray.size_append] at hw0
            have hLz : ByteArray.size (⟨#[]⟩ : ByteArray) ≤ st.left.size := by first | exact Nat.le_refl _ | exact Nat.zero_le _
            have hLs' : lby.size ≤ 234 := hLs
            have CW := Lib.hid (ref6_records ((⟨#[]⟩ : ByteArray) ++ lby) (by rw [ByteArray.size_append]; omega))
            have HB := Lib.hid (show st.recs.length + (wholeW ((⟨#[]⟩ : ByteArray) ++ lby)).1.length ≤ 1000000 by omega)
            have HW0 := Lib.hid hw0
            have HLZ := Lib.hid hLz
            clear hw0 hLz
            by_cases hn0 : n = 0
            · subst hn0
              go_upto_region 13 with fail
              go_upto_region 14 with ((with_reducible refine (CW.out _).mono ?_); rintro e wn ⟨b1, c1, rfl, hD1⟩)
              replace hD := hD.join hD1
              clear CW hD1 x0 x1 x2 x3 x4 x5 x6 x7
              simp only [List.cons_append, List.nil_append] at hD
              have hc7 := own_cells hD (k := 2) rfl
              generalize hMR : (wholeW ((⟨#[]⟩ : ByteArray) ++ lby)).1 = MR at *
              replace hMR := Lib.hid hMR
              go_upto_region 15 with ((with_reducible refine wpList_at 76 ?_); refine wpList_appendIn rfl _ _ 49 rfl 9 inf (.string ⟨#[]⟩) 1 16 (by kernel_rfl) hi0' hz0 hz1 hz2 rfl (by decide) hD 0 st.recs.length _ (strC st.recs) rfl rfl (some ⟨b1, 0, none⟩) MR.length c1 (strC MR) rfl (by rw [strC_length, Nat.mul_one]) (fun h => by cases h) hc7 (strC_one _) (by have := HB.out; unfold maxLen; omega) (by have := HB.out; omega) ?_; intro q9 c9 w9 h9 h10 hw)
              replace hw : Hold w w9 ([recsR q c st.recs, rowR gm (.int .i64 la) [.int .i64 (0 : Int), .bool true, .string lby], recsR (some ⟨b1, 0, none⟩) c1 MR].set 0 (ownZ 9 1 (.slice q9 (st.recs.length + MR.length) c9) (st.recs.length + MR.length) (strC st.recs ++ strC MR))) := hw
              simp only [List.set_cons_zero] at hw
              rw [← strC_append] at hw
              have hE := hw.sub (l' := [ownZ 9 1 (.slice q9 (st.recs.length + MR.length) c9) (st.recs.length + MR.length) (strC (st.recs ++ MR))]) (List.sublist_append_left _ [_, _])
              clear hw hD hc7 h9 h10
              go_wp2_with fail
              refine ⟨⟨0 + 1, scanStep 0 ⟨la, true, lby⟩ st, q9, c9, rfl, ?_, rfl, ?_, ?_, by omega, rfl, ?_, HN.out, ?_⟩, ?_⟩
              · show Value.string _ = Value.string (wholeW ((if st.last < la then ByteArray.empty else st.left) ++ lby)).2
                rw [if_pos hl]; try rfl
              · show Value.int .i64 _ = Value.int .i64 (if 0 = 0 then la else st.age)
                rw [if_pos rfl]
              · show Value.slice q9 _ c9 = Value.slice q9 (st.recs ++ (wholeW ((if st.last < la then ByteArray.empty else st.left) ++ lby)).1).length c9
                rw [if_pos hl, List.length_append]
                change _ = Value.slice q9 (st.recs.length + (wholeW ((⟨#[]⟩ : ByteArray) ++ lby)).1.length) c9
                rw [hMR.out]
              · show Hold w _ [recsR q9 c9 (st.recs ++ (wholeW ((if st.last < la then ByteArray.empty else st.left) ++ lby)).1)]
                rw [if_pos hl]
                change Hold w _ [recsR q9 c9 (st.recs ++ (wholeW ((⟨#[]⟩ : ByteArray) ++ lby)).1)]
                rw [hMR.out]
                unfold recsR
                rw [List.length_append]
                exact hE
              · have hw0 := HW0.out
                have hLz := HLZ.out
                show (wholeW ((if st.last < la then ByteArray.empty else st.left) ++ lby)).2.size + 3 * (st.recs ++ (wholeW ((if st.last < la then ByteArray.empty else st.left) ++ lby)).1).length ≤ _
                rw [if_pos hl, List.length_append]
                change (wholeW ((⟨#[]⟩ : ByteArray) ++ lby)).2.size + 3 * (st.recs.length + (wholeW ((⟨#[]⟩ : ByteArray) ++ lby)).1.length) ≤ _
                rw [hMR.out]
                omega
              · simp only [intOf]; omega
            · have hn1 : ((n : Int) == 0) = false := by simpa using hn0
              go_upto_region 13 with fail
              go_upto_region 14 with ((with_reducible refine (CW.out _).mono ?_); rintro e wn ⟨b1, c1, rfl, hD1⟩)
              replace hD := hD.join hD1
              clear CW hD1 x0 x1 x2 x3 x4 x5 x6 x7
              simp only [List.cons_append, List.nil_append] at hD
              have hc7 := own_cells hD (k := 2) rfl
              generalize hMR : (wholeW ((⟨#[]⟩ : ByteArray) ++ lby)).1 = MR at *
              replace hMR := Lib.hid hMR
              go_upto_region 15 with ((with_reducible refine wpList_at 76 ?_); refine wpList_appendIn rfl _ _ 49 rfl 9 inf (.string ⟨#[]⟩) 1 16 (by kernel_rfl) hi0' hz0 hz1 hz2 rfl (by decide) hD 0 st.recs.length _ (strC st.recs) rfl rfl (some ⟨b1, 0, none⟩) MR.length c1 (strC MR) rfl (by rw [strC_length, Nat.mul_one]) (fun h => by cases h) hc7 (strC_one _) (by have := HB.out; unfold maxLen; omega) (by have := HB.out; omega) ?_; intro q9 c9 w9 h9 h10 hw)
              replace hw : Hold w w9 ([recsR q c st.recs, rowR gm (.int .i64 la) [.int .i64 (n : Int), .bool true, .string lby], recsR (some ⟨b1, 0, none⟩) c1 MR].set 0 (ownZ 9 1 (.slice q9 (st.recs.length + MR.length) c9) (st.recs.length + MR.length) (strC st.recs ++ strC MR))) := hw
              simp only [List.set_cons_zero] at hw
              rw [← strC_append] at hw
              have hE := hw.sub (l' := [ownZ 9 1 (.slice q9 (st.recs.length + MR.length) c9) (st.recs.length + MR.length) (strC (st.recs ++ MR))]) (List.sublist_append_left _ [_, _])
              clear hw hD hc7 h9 h10
              go_wp2_with fail
              refine ⟨⟨n + 1, scanStep n ⟨la, true, lby⟩ st, q9, c9, rfl, ?_, rfl, ?_, ?_, by omega, rfl, ?_, HN.out, ?_⟩, ?_⟩
              · show Value.string _ = Value.string (wholeW ((if st.last < la then ByteArray.empty else st.left) ++ lby)).2
                rw [if_pos hl]; try rfl
              · show Value.int .i64 _ = Value.int .i64 (if n = 0 then la else st.age)
                rw [if_neg hn0]
              · show Value.slice q9 _ c9 = Value.slice q9 (st.recs ++ (wholeW ((if st.last < la then ByteArray.empty else st.left) ++ lby)).1).length c9
                rw [if_pos hl, List.length_append]
                change _ = Value.slice q9 (st.recs.length + (wholeW ((⟨#[]⟩ : ByteArray) ++ lby)).1.length) c9
                rw [hMR.out]
              · show Hold w _ [recsR q9 c9 (st.recs ++ (wholeW ((if st.last < la then ByteArray.empty else st.left) ++ lby)).1)]
                rw [if_pos hl]
                change Hold w _ [recsR q9 c9 (st.recs ++ (wholeW ((⟨#[]⟩ : ByteArray) ++ lby)).1)]
                rw [hMR.out]
                unfold recsR
                rw [List.length_append]
                exact hE
              · have hw0 := HW0.out
                have hLz := HLZ.out
                show (wholeW ((if st.last < la then ByteArray.empty else st.left) ++ lby)).2.size + 3 * (st.recs ++ (wholeW ((if st.last < la then ByteArray.empty else st.left) ++ lby)).1).length ≤ _
                rw [if_pos hl, List.length_append]
                change (wholeW ((⟨#[]⟩ : ByteArray) ++ lby)).2.size + 3 * (st.recs.length + (wholeW ((⟨#[]⟩ : ByteArray) ++ lby)).1.length) ≤ _
                rw [hMR.out]
                omega
              · simp only [intOf]; omega
          · clear hs2
            have hw0 := whole_left _ (st.left ++ lby) (Nat.le_refl _)
            rw [ByteArray.size_append] at hw0
            have hLz : ByteArray.size st.left ≤ st.left.size := by first | exact Nat.le_refl _ | exact Nat.zero_le _
            have hLs' : lby.size ≤ 234 := hLs
            have CW := Lib.hid (ref6_records (st.left ++ lby) (by rw [ByteArray.size_append]; omega))
            have HB := Lib.hid (show st.recs.length + (wholeW (st.left ++ lby)).1.length ≤ 1000000 by omega)
            have HW0 := Lib.hid hw0
            have HLZ := Lib.hid hLz
            clear hw0 hLz
            by_cases hn0 : n = 0
            · subst hn0
              go_upto_region 13 with fail
              go_upto_region 14 with ((with_reducible refine (CW.out _).mono ?_); rintro e wn ⟨b1, c1, rfl, hD1⟩)
              replace hD := hD.join hD1
              clear CW hD1 x0 x1 x2 x3 x4 x5 x6 x7
              simp only [List.cons_append, List.nil_append] at hD
              have hc7 := own_cells hD (k := 2) rfl
              generalize hMR : (wholeW (st.left ++ lby)).1 = MR at *
              replace hMR := Lib.hid hMR
              go_upto_region 15 with ((with_reducible refine wpList_at 76 ?_); refine wpList_appendIn rfl _ _ 49 rfl 9 inf (.string ⟨#[]⟩) 1 16 (by kernel_rfl) hi0' hz0 hz1 hz2 rfl (by decide) hD 0 st.recs.length _ (strC st.recs) rfl rfl (some ⟨b1, 0, none⟩) MR.length c1 (strC MR) rfl (by rw [strC_length, Nat.mul_one]) (fun h => by cases h) hc7 (strC_one _) (by have := HB.out; unfold maxLen; omega) (by have := HB.out; omega) ?_; intro q9 c9 w9 h9 h10 hw)
              replace hw : Hold w w9 ([recsR q c st.recs, rowR gm (.int .i64 la) [.int .i64 (0 : Int), .bool lb, .string lby], recsR (some ⟨b1, 0, none⟩) c1 MR].set 0 (ownZ 9 1 (.slice q9 (st.recs.length + MR.length) c9) (st.recs.length + MR.length) (strC st.recs ++ strC MR))) := hw
              simp only [List.set_cons_zero] at hw
              rw [← strC_append] at hw
              have hE := hw.sub (l' := [ownZ 9 1 (.slice q9 (st.recs.length + MR.length) c9) (st.recs.length + MR.length) (strC (st.recs ++ MR))]) (List.sublist_append_left _ [_, _])
              clear hw hD hc7 h9 h10
              go_wp2_with fail
              refine ⟨⟨0 + 1, scanStep 0 ⟨la, lb, lby⟩ st, q9, c9, rfl, ?_, rfl, ?_, ?_, by omega, rfl, ?_, HN.out, ?_⟩, ?_⟩
              · show Value.string _ = Value.string (wholeW ((if st.last < la then ByteArray.empty else st.left) ++ lby)).2
                rw [if_neg (Int.not_lt.2 hl)]; try rfl
              · show Value.int .i64 _ = Value.int .i64 (if 0 = 0 then la else st.age)
                rw [if_pos rfl]
              · show Value.slice q9 _ c9 = Value.slice q9 (st.recs ++ (wholeW ((if st.last < la then ByteArray.empty else st.left) ++ lby)).1).length c9
                rw [if_neg (Int.not_lt.2 hl), List.length_append]
                change _ = Value.slice q9 (st.recs.length + (wholeW (st.left ++ lby)).1.length) c9
                rw [hMR.out]
              · show Hold w _ [recsR q9 c9 (st.recs ++ (wholeW ((if st.last < la then ByteArray.empty else st.left) ++ lby)).1)]
                rw [if_neg (Int.not_lt.2 hl)]
                change Hold w _ [recsR q9 c9 (st.recs ++ (wholeW (st.left ++ lby)).1)]
                rw [hMR.out]
                unfold recsR
                rw [List.length_append]
                exact hE
              · have hw0 := HW0.out
                have hLz := HLZ.out
                show (wholeW ((if st.last < la then ByteArray.empty else st.left) ++ lby)).2.size + 3 * (st.recs ++ (wholeW ((if st.last < la then ByteArray.empty else st.left) ++ lby)).1).length ≤ _
                rw [if_neg (Int.not_lt.2 hl), List.length_append]
                change (wholeW (st.left ++ lby)).2.size + 3 * (st.recs.length + (wholeW (st.left ++ lby)).1.length) ≤ _
                rw [hMR.out]
                omega
              · simp only [intOf]; omega
            · have hn1 : ((n : Int) == 0) = false := by simpa using hn0
              go_upto_region 13 with fail
              go_upto_region 14 with ((with_reducible refine (CW.out _).mono ?_); rintro e wn ⟨b1, c1, rfl, hD1⟩)
              replace hD := hD.join hD1
              clear CW hD1 x0 x1 x2 x3 x4 x5 x6 x7
              simp only [List.cons_append, List.nil_append] at hD
              have hc7 := own_cells hD (k := 2) rfl
              generalize hMR : (wholeW (st.left ++ lby)).1 = MR at *
              replace hMR := Lib.hid hMR
              go_upto_region 15 with ((with_reducible refine wpList_at 76 ?_); refine wpList_appendIn rfl _ _ 49 rfl 9 inf (.string ⟨#[]⟩) 1 16 (by kernel_rfl) hi0' hz0 hz1 hz2 rfl (by decide) hD 0 st.recs.length _ (strC st.recs) rfl rfl (some ⟨b1, 0, none⟩) MR.length c1 (strC MR) rfl (by rw [strC_length, Nat.mul_one]) (fun h => by cases h) hc7 (strC_one _) (by have := HB.out; unfold maxLen; omega) (by have := HB.out; omega) ?_; intro q9 c9 w9 h9 h10 hw)
              replace hw : Hold w w9 ([recsR q c st.recs, rowR gm (.int .i64 la) [.int .i64 (n : Int), .bool lb, .string lby], recsR (some ⟨b1, 0, none⟩) c1 MR].set 0 (ownZ 9 1 (.slice q9 (st.recs.length + MR.length) c9) (st.recs.length + MR.length) (strC st.recs ++ strC MR))) := hw
              simp only [List.set_cons_zero] at hw
              rw [← strC_append] at hw
              have hE := hw.sub (l' := [ownZ 9 1 (.slice q9 (st.recs.length + MR.length) c9) (st.recs.length + MR.length) (strC (st.recs ++ MR))]) (List.sublist_append_left _ [_, _])
              clear hw hD hc7 h9 h10
              go_wp2_with fail
              refine ⟨⟨n + 1, scanStep n ⟨la, lb, lby⟩ st, q9, c9, rfl, ?_, rfl, ?_, ?_, by omega, rfl, ?_, HN.out, ?_⟩, ?_⟩
              · show Value.string _ = Value.string (wholeW ((if st.last < la then ByteArray.empty else st.left) ++ lby)).2
                rw [if_neg (Int.not_lt.2 hl)]; try rfl
              · show Value.int .i64 _ = Value.int .i64 (if n = 0 then la else st.age)
                rw [if_neg hn0]
              · show Value.slice q9 _ c9 = Value.slice q9 (st.recs ++ (wholeW ((if st.last < la then ByteArray.empty else st.left) ++ lby)).1).length c9
                rw [if_neg (Int.not_lt.2 hl), List.length_append]
                change _ = Value.slice q9 (st.recs.length + (wholeW (st.left ++ lby)).1.length) c9
                rw [hMR.out]
              · show Hold w _ [recsR q9 c9 (st.recs ++ (wholeW ((if st.last < la then ByteArray.empty else st.left) ++ lby)).1)]
                rw [if_neg (Int.not_lt.2 hl)]
                change Hold w _ [recsR q9 c9 (st.recs ++ (wholeW (st.left ++ lby)).1)]
                rw [hMR.out]
                unfold recsR
                rw [List.length_append]
                exact hE
              · have hw0 := HW0.out
                have hLz := HLZ.out
                show (wholeW ((if st.last < la then ByteArray.empty else st.left) ++ lby)).2.size + 3 * (st.recs ++ (wholeW ((if st.last < la then ByteArray.empty else st.left) ++ lby)).1).length ≤ _
                rw [if_neg (Int.not_lt.2 hl), List.length_append]
                change (wholeW (st.left ++ lby)).2.size + 3 * (st.recs.length + (wholeW (st.left ++ lby)).1.length) ≤ _
                rw [hMR.out]
                omega
              · simp only [intOf]; omega
  · have hlt' : ¬ (n : Int) < (H : Int) := by omega
    have hfin : st = FIN := by rw [← hs, show H - n = 0 by omega]; rfl
    subst hfin
    clear CR hs
    go_upto_region 16 with fail
    refine wp_region_later (by kernel_rfl) (by kernel_rfl) ?_
    have l0 := Later.cell_of x0
    have hne := later_ne wr
    have hDD := Lib.hid hD
    have hnH : n = H := by omega
    clear x0 hD
    repeat (go_big_quiet_step (fail))
    refine wpQuiet_nil ?_
    rintro w7 ⟨u7, rfl⟩
    go_wp2_with fail
    refine bodyPost_ret (v := .tuple #[.int .i64 st.age, .slice q st.recs.length c, .int .i64 (H : Int)]) (by simp [results, Try.results40, go_sem]) rfl ⟨q, c, ?_, hDD.out.next u7.up⟩
    rw [HP.out, hnH]
end Go.Proofs.Ytokpkkjgagbpfaa
namespace Go.Proofs.Ytokpkkjgagbpfaa
open Go.RowKit Bw
set_option linter.unusedVariables false
set_option maxRecDepth 100000
theorem ref6_Bytes {w : World} {q : Option Addr} {c : Nat} (rs : List ByteArray) (h : RecsAt w q rs) (hs : ∀ x ∈ rs, x.size ≤ 100000) (hn : rs.length ≤ 100000) :
    Calls Try.prog 47 #[.slice q rs.length c] w fun e w' => e = .returned (.string (frameW rs)) ∧ Up w w' := by
  obtain ⟨n, hnn⟩ : ∃ n, rs.length = n := ⟨_, rfl⟩
  have HN := Lib.hid hnn
  have HS := Lib.hid hs
  have H := Lib.hid h
  obtain ⟨FIN, hF⟩ : ∃ F, frameW rs = F := ⟨_, rfl⟩
  have HF := Lib.hid hF
  rw [hnn, hF]
  rw [hnn] at hn
  clear hnn hs h hF
  go_enter Try.func47, Try.ntmps47
  go_wp2_with fail
  go_loopw [3, 4] (fun v3 v10 wr => ∃ k : Nat, v3 = .string (frameW (rs.take k)) ∧ v10 = .int .i64 (k : Int) ∧ k ≤ n ∧ Up w wr) (fun _ v _ => n - (intOf v).toNat)
  case atStart => exact ⟨0, rfl, rfl, Nat.zero_le _, Up.refl w⟩
  case round =>
  obtain ⟨k, rfl, rfl, hk, hu⟩ := hrel
  by_cases hkn : k < n
  · have hkn' : (k : Int) < (n : Int) := by omega
    have hlt : k < rs.length := by rw [HN.out]; exact hkn
    obtain ⟨b, o, rfl, hc⟩ := (H.out.up hu) (fun h => by rw [h] at hlt; exact absurd hlt (by simp))
    have hck := hc k hlt
    have hxs := HS.out _ (List.getElem_mem hlt)
    have hsn : frameW (rs.take (k + 1)) = frameW (rs.take k) ++ (str (toLE rs[k].size 3) ++ rs[k]) := by rw [List.take_succ_eq_append_getElem hlt, frameW_snoc]
    have HSN := Lib.hid hsn
    have HX := Lib.hid (show rs[k].size ≤ 100000 from hxs)
    generalize rs[k] = x at *
    have C := Lib.hid (fun w => ref6_num x.size 3 x.size 3 rfl rfl (by decide) (by decide) (Nat.lt_of_le_of_lt HX.out (by decide)) w)
    have hz1 : (frameW (rs.take k)).size ≤ 100003 * k := Nat.le_trans (frameW_size _ fun y hy => HS.out y (List.mem_of_mem_take hy)) (by rw [List.length_take]; omega)
    have h3 : (str (toLE x.size 3)).size = 3 := by rw [size_str, toLE_length]
    clear hsn hc H hlt HX
    go_upto_region 5 with fail
    have hk0 : (0 : Int) ≤ (k : Int) := by omega
    refine wp_region_later (by kernel_rfl) (by kernel_rfl) ?_
    have l0 := Later.cell_of hck
    have hne := later_ne wr
    generalize hfz : frameW (rs.take k) = FR at *
    generalize hLZ : str (toLE x.size 3) = LZ at *
    clear hck
    repeat (go_big_quiet_step (first | (go_at_call 71; (with_reducible exact Calls.later (C.out _)))))
    refine wpQuiet_nil ?_
    rintro w9 ⟨u9, rfl⟩
    replace hu := hu.next u9.up
    clear l0 hne
    generalize u9.world = w9 at *
    go_wp2_with fail
    exact ⟨⟨k + 1, congrArg Value.string (by rw [HSN.out]), rfl, by omega, hu⟩, by simp [intOf]; omega⟩
  · have hk3 : k = n := by omega
    have hkn' : ¬ (k : Int) < (n : Int) := by omega
    have hr : frameW (rs.take k) = FIN := by rw [hk3, ← HN.out, List.take_length]; exact HF.out
    rw [hr]
    clear H
    go_wp2_with fail
    go_ret
    exact ⟨rfl, hu⟩
theorem ref6_Need (s : ByteArray) (hs : s.size ≤ 1099511627776) (w : World) : Calls Try.prog 46 #[.string s] w fun e w' => e = .returned (.int .i64 (needW s.size : Int)) ∧ w = w' := by
  obtain ⟨N, hN⟩ : ∃ N, needW s.size = N := ⟨_, rfl⟩
  rw [hN]
  unfold needW at hN
  have HN := Lib.hid hN
  clear hN
  go_enter Try.func46, Try.ntmps46
  go_wp2_with fail
  go_loopw [3] (fun v wr => ∃ k : Nat, v = .int .i64 (k : Int) ∧ k ≤ N ∧ w = wr) (fun v _ => N - (intOf v).toNat)
  case atStart => exact ⟨0, rfl, Nat.zero_le _, rfl⟩
  case round =>
  obtain ⟨k, rfl, hk, rfl⟩ := hrel
  by_cases hkn : (k : Int) * 234 < (s.size : Int)
  · have h1 := HN.out
    have hw : wrap64 ((k : Int) * 234) = (k : Int) * 234 := IntWalk.wrap64_in _ (by omega)
    have hw1 : wrap64 ((k : Int) + 1) = (k : Int) + 1 := IntWalk.wrap64_in _ (by omega)
    clear h1
    go_wp2_with fail
    have h1 := HN.out
    exact ⟨⟨k + 1, rfl, by omega, trivial⟩, by simp [intOf]; omega⟩
  · have h1 := HN.out
    have hw : wrap64 ((k : Int) * 234) = (k : Int) * 234 := IntWalk.wrap64_in _ (by omega)
    have he : k = N := by omega
    clear h1 HN
    subst he
    go_wp2_with fail
    go_ret
    exact ⟨rfl, rfl⟩
variable {W w : World} {X : Res} {rest : List Res} {g gr cl : Nat} {vL vW : Value} {d : DiskD} {L : LogD} {ql : Option Addr}
/-- A thing, the document's disk, the document's log on it, its records, and whatever else there is. -/
abbrev rtrio (X : Res) (g : Nat) (vL vW : Value) (d : DiskD) (gr : Nat) (L : LogD) (ql : Option Addr) (cl : Nat) (rest : List Res) : List Res :=
  refs X g vL vW d (logRow gr (.pointer (some ⟨g, 0, none⟩)) L ql cl :: recsR ql cl L.recs :: rest)
/-- The slice of pages of the document's disk. -/
theorem refs_n (h : Hold W w (refs X g vL vW d rest)) (hok : d.Ok) : ∃ b cap, vL = .slice (some ⟨b, 0, none⟩) d.n cap ∧ ∀ w', Hold W w' (refs X g vL vW d rest) → w'.cell? ⟨g, 0, none⟩ = some (.slice (some ⟨b, 0, none⟩) d.n cap) := by
  obtain ⟨b, cap, hv, -⟩ := refs_L h (by have := hok.n1; omega)
  exact ⟨b, cap, hv, fun w' h' => by rw [← hv]; exact (refs_row h').1⟩
theorem ref6_Room (h : Hold W w (rtrio X g vL vW d gr L ql cl rest)) (hok : d.Ok) (hp : L.pages ≤ 1000000) :
    Calls Try.prog 48 #[.pointer (some ⟨gr, 0, none⟩)] w fun e w' => e = .returned (.int .i64 (L.room d)) ∧ Up w w' := by
  obtain ⟨a0, a1, a2, a3, a4, a5, a6, a7, e0, e1, e2, e3, e4, e5, e6, e7⟩ := RowAt.c8 (h.get 4 rfl)
  obtain ⟨b, cap, -, hx⟩ := refs_n h hok
  have x0 := hx w h
  have hn2 := hok.n2
  unfold LogD.room
  obtain ⟨D, hDn⟩ : ∃ D : Nat, d.n = D := ⟨_, rfl⟩
  obtain ⟨H, hH⟩ : ∃ H : Nat, d.halfN = H := ⟨_, rfl⟩
  have hQ2 : (D : Int) / 2 = (H : Int) := by unfold DiskD.halfN at hH; omega
  have hH512 : H ≤ 512 := by unfold DiskD.halfN at hH; omega
  rw [hH]
  rw [hDn] at x0
  clear hH h hok hx hDn hn2
  go_enter Try.func48, Try.ntmps48
  go_upto_region 1 with fail
  refine wp_region_later (by kernel_rfl) (by kernel_rfl) ?_
  have l0 := Later.cell_of a0
  have l3 := Later.cell_of a3
  have l4 := Later.cell_of x0
  have hne := later_ne w
  clear a0 a1 a2 a3 a4 a5 a6 a7 e0 e1 e2 e3 e4 e5 e6 e7 x0
  repeat (go_big_quiet_step (fail))
  refine wpQuiet_nil ?_
  rintro w9 ⟨u9, rfl⟩
  have hu := u9.up
  clear l0 l3 l4 hne
  generalize u9.world = w9 at *
  go_wp2_with fail
  go_ret
  exact ⟨rfl, hu⟩
end Go.Proofs.Ytokpkkjgagbpfaa
