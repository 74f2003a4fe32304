/- Layer 6: numbers, names and leaves as bytes. -/
import Derived.Test.YtokpkkjgagbpfaaFieldWalkA
import Derived.Test.YtokpkkjgagbpfaaUpA
import Derived.Test.YtokpkkjgagbpfaaWlThm1
namespace Bw
set_option linter.unusedVariables false
theorem getV_range (s : ByteArray) (i k : Int) (hk : k ≤ 6) : 0 ≤ getV s i k ∧ getV s i k < 281474976710656 := by
  unfold getV
  split
  · have h := le_lt (((lst s).drop i.toNat).take k.toNat)
    have h2 : (((lst s).drop i.toNat).take k.toNat).length ≤ 6 := by rw [List.length_take]; omega
    have h3 : 256 ^ (((lst s).drop i.toNat).take k.toNat).length ≤ 256 ^ 6 := Nat.pow_le_pow_right (by decide) h2
    have : (256 : Nat) ^ 6 = 281474976710656 := by decide
    omega
  · omega
theorem RowAt.c4 {w : Go.World} {g : Nat} {a b c d : Go.Value} (h : RowAt w g [a, b, c, d]) :
    (w.cell? ⟨g, 0, none⟩ = some a ∧ w.cell? ⟨g, 1, none⟩ = some b ∧ w.cell? ⟨g, 2, none⟩ = some c ∧ w.cell? ⟨g, 3, none⟩ = some d) ∧ (w.frozen? ⟨g, 0, none⟩ = false ∧ w.frozen? ⟨g, 1, none⟩ = false ∧ w.frozen? ⟨g, 2, none⟩ = false ∧ w.frozen? ⟨g, 3, none⟩ = false) :=
  ⟨⟨h.cell 0 (by simp), h.cell 1 (by simp), h.cell 2 (by simp), h.cell 3 (by simp)⟩, h.free 0 (by simp), h.free 1 (by simp), h.free 2 (by simp), h.free 3 (by simp)⟩
/-- Bytes laid over others. -/
def ups (l : List UInt8) (i : Nat) (t : List UInt8) : List UInt8 := l.take i ++ t ++ l.drop (i + t.length)
theorem ups_mid {a b c t : List UInt8} {i : Nat} (hi : a.length = i) (hb : b.length = t.length) : ups (a ++ (b ++ c)) i t = a ++ (t ++ c) := by
  subst hi
  unfold ups
  rw [List.take_left', List.append_assoc, ← hb]
  · congr 2
    rw [← List.append_assoc]
    have : a.length + b.length = (a ++ b).length := by simp
    rw [this, List.drop_left']
    rfl
  · rfl
theorem ups_len {l t : List UInt8} {i : Nat} (h : i + t.length ≤ l.length) : (ups l i t).length = l.length := by
  unfold ups
  simp only [List.length_append, List.length_take, List.length_drop]
  omega
theorem zeros_split (a b : Nat) : zeros (a + b) = zeros a ++ zeros b := by simp [zeros, List.replicate_append_replicate]
theorem zeros_len (n : Nat) : (zeros n).length = n := by simp [zeros]
def nameU (l : List UInt8) (i age num : Nat) : List UInt8 := ups (ups l i (toLE age 6)) (i + 6) (toLE num 2)
theorem leafL_ups (age num : Nat) (b : Bool) (s : List UInt8) (h : s.length ≤ 234) :
    nameU (ups (ups (nameU (zeros 252) 0 age num) 8 (toLE (if b then 1 else 0) 1)) 9 (UInt8.ofNat s.length :: s)) 244 age num = leafL age num b s := by
  have h6 : (toLE age 6).length = 6 := toLE_length _ _
  have h2 : (toLE num 2).length = 2 := toLE_length _ _
  have hb : toLE (if b then 1 else 0) 1 = (if b then [1] else [0] : List UInt8) := by cases b <;> rfl
  have hbl : (if b then [1] else [0] : List UInt8).length = 1 := by cases b <;> rfl
  have e1 : ups (zeros 252) 0 (toLE age 6) = toLE age 6 ++ zeros 246 := by
    rw [show 252 = 6 + 246 from rfl, zeros_split]
    have h := ups_mid (a := []) (b := zeros 6) (c := zeros 246) (t := toLE age 6) (i := 0) rfl (by rw [zeros_len, h6])
    exact h
  have e2 : nameU (zeros 252) 0 age num = toLE age 6 ++ (toLE num 2 ++ zeros 244) := by
    unfold nameU
    rw [e1, show 246 = 2 + 244 from rfl, zeros_split]
    have h := ups_mid (a := toLE age 6) (b := zeros 2) (c := zeros 244) (t := toLE num 2) (i := 6) h6 (by rw [zeros_len, h2])
    exact h
  have e3 : ups (nameU (zeros 252) 0 age num) 8 (toLE (if b then 1 else 0) 1) = toLE age 6 ++ (toLE num 2 ++ ((if b then [1] else [0]) ++ zeros 243)) := by
    rw [e2, hb, show 244 = 1 + 243 from rfl, zeros_split, ← List.append_assoc, ups_mid (by rw [List.length_append, h6, h2]) (by rw [zeros_len, hbl]), List.append_assoc]
  have e4 : ups (toLE age 6 ++ (toLE num 2 ++ ((if b then [1] else [0]) ++ zeros 243))) 9 (UInt8.ofNat s.length :: s) = toLE age 6 ++ (toLE num 2 ++ ((if b then [1] else [0]) ++ (UInt8.ofNat s.length :: (s ++ zeros (242 - s.length))))) := by
    rw [show 243 = (s.length + 1) + (242 - s.length) by omega, zeros_split, ← List.append_assoc, ← List.append_assoc,
      ups_mid (by rw [List.length_append, List.length_append, h6, h2, hbl]) (by rw [zeros_len, List.length_cons]), List.append_assoc, List.append_assoc]
    rfl
  rw [e3, e4]
  have e5 : toLE age 6 ++ (toLE num 2 ++ ((if b then [1] else [0]) ++ (UInt8.ofNat s.length :: (s ++ zeros (242 - s.length))))) = (toLE age 6 ++ (toLE num 2 ++ ((if b then [1] else [0]) ++ (UInt8.ofNat s.length :: (s ++ zeros (234 - s.length)))))) ++ (zeros 6 ++ zeros 2) := by
    rw [show 242 - s.length = (234 - s.length) + (6 + 2) by omega, zeros_split, zeros_split]
    simp only [List.append_assoc, List.cons_append]
  have hl : (toLE age 6 ++ (toLE num 2 ++ ((if b then [1] else [0]) ++ (UInt8.ofNat s.length :: (s ++ zeros (234 - s.length)))))).length = 244 := by
    simp only [List.length_append, List.length_cons, h6, h2, hbl, zeros_len]; omega
  rw [e5]
  generalize hX : toLE age 6 ++ (toLE num 2 ++ ((if b then [1] else [0]) ++ (UInt8.ofNat s.length :: (s ++ zeros (234 - s.length))))) = X at hl
  unfold nameU
  rw [ups_mid hl (by rw [zeros_len, h6]), ← List.append_assoc]
  have e6 : (X ++ toLE age 6) ++ zeros 2 = (X ++ toLE age 6) ++ (zeros 2 ++ []) := by simp
  rw [e6, ups_mid (by rw [List.length_append, hl, h6]) (by rw [zeros_len, h2]), ← hX]
  unfold leafL
  simp only [List.append_assoc, List.cons_append, List.append_nil]
theorem nameU_len {l : List UInt8} {i age num : Nat} (h : i + 8 ≤ l.length) : (nameU l i age num).length = l.length := by
  unfold nameU
  rw [ups_len, ups_len]
  · rw [toLE_length]; omega
  · rw [ups_len, toLE_length]
    · omega
    · rw [toLE_length]; omega
end Bw
namespace Go.Proofs.Ytokpkkjgagbpfaa
open Go.RowKit Bw
set_option linter.unusedVariables false
theorem wal_num (s : ByteArray) (hs : s.size ≤ 1099511627776) (i k : Int) (hk : k ≤ 6) (w : World) : Calls Try.prog 39 #[.string s, .int .i64 i, .int .i64 k] w fun e w' => e = .returned (.int .i64 (getV s i k)) ∧ w = w' := by
  have C := Lib.hid (fun w => field_Get s i k w hs)
  obtain ⟨v0, v1⟩ := getV_range s i k hk
  generalize getV s i k = V at *
  generalize roomE s i k = E at *
  go_enter Try.func39, Try.ntmps39
  go_wp2_with ((with_reducible refine (C.out _).mono ?_); rintro e wn ⟨rfl, rfl⟩)
  go_ret
  exact ⟨rfl, rfl⟩
theorem put_fits (s : ByteArray) (i k n : Nat) (I K : Int) (hI : I = i) (hK : K = k) (hs : s.size ≤ 1099511627776) (h1 : 1 ≤ k) (hk : k ≤ 6) (hi : i + k ≤ s.size) (hn : n < 256 ^ k) (w : World) :
    Calls Try.prog 70 #[.string s, .int .i64 I, .int .i64 K, .int .u64 n] w fun e w' => e = .returned (.tuple #[.string (str (ups (lst s) i (toLE n k))), .int .i64 0]) ∧ Below w.heap.size w w' := by
  subst hI hK
  have h6 : 256 ^ k ≤ 256 ^ 6 := Nat.pow_le_pow_right (by decide) hk
  have h7 : (256 : Nat) ^ 6 = 281474976710656 := by decide
  have := field_Put_ok s i k n w hs h1 (by omega) hi (by omega) hn
  unfold ups
  rw [toLE_length]
  exact this
set_option maxRecDepth 100000 in
set_option maxHeartbeats 400000 in
theorem name_put (age num : Nat) (ha : age < 281474976710656) (hn : num < 65536) (s : ByteArray) (hs : s.size ≤ 1000) (i : Nat) (I : Int) (hI : I = i) (hi : i + 8 ≤ s.size) (w : World) :
    Calls Try.prog 86 #[.agg #[.int .i64 age, .int .i64 num], .string s, .int .i64 I] w fun e w' => e = .returned (.string (str (nameU (lst s) i age num))) ∧ Below w.heap.size w w' := by
  subst hI
  have h6 : (256 : Nat) ^ 6 = 281474976710656 := by decide
  have h2 : (256 : Nat) ^ 2 = 65536 := by decide
  have C1 := Lib.hid (fun w => put_fits s i 6 age i 6 rfl rfl (by omega) (by decide) (by decide) (by omega) (by omega) w)
  have hz : (str (ups (lst s) i (toLE age 6))).size = s.size := by rw [size_str, ups_len (by rw [toLE_length, lst_length]; omega), lst_length]
  have c2 := fun w => put_fits (str (ups (lst s) i (toLE age 6))) (i + 6) 2 num (i + 6 : Nat) 2 rfl rfl (by omega) (by decide) (by decide) (by omega) (by omega) w
  rw [lst_str] at c2
  have hu := (Up.refl w).alloc (.cells #[.int .i64 age, .int .i64 num] 98)
  have rp := RowAt.made w 98 [.int .i64 age, .int .i64 num]
  obtain ⟨p, hp⟩ : ∃ p, i + 6 = p := ⟨_, rfl⟩
  have hik : IntKind.i64.wrap ((i : Int) + 6) = (p : Int) := by rw [IntKind.wrap_i64]; omega
  have a0 : (0 : Int) ≤ (age : Int) := by omega
  have a1 : (age : Int) < 281474976710656 := by omega
  have a2 : (0 : Int) ≤ (num : Int) := by omega
  have a3 : (num : Int) < 65536 := by omega
  unfold nameU
  rw [hp] at c2 ⊢
  have C2 := Lib.hid c2
  clear c2 hz hp h6 h2
  generalize str (ups (lst s) i (toLE age 6)) = S1 at *
  generalize str (ups (ups (lst s) i (toLE age 6)) p (toLE num 2)) = S2 at *
  obtain ⟨x0, x1, -, -⟩ := rp.c2
  go_enter Try.func86, Try.ntmps86
  go_wp2_with (first
    | ((with_reducible refine (C1.out _).mono ?_); rintro e w1 ⟨rfl, hw⟩; replace rp := rp.up hw; replace hu := hu.next hw; clear hw x0 x1 C1; obtain ⟨x0, x1, -, -⟩ := rp.c2)
    | ((with_reducible refine (C2.out _).mono ?_); rintro e w2 ⟨rfl, hw⟩; replace rp := rp.up hw; replace hu := hu.next hw; clear hw x0 x1; obtain ⟨x0, x1, -, -⟩ := rp.c2))
  go_ret
  exact ⟨rfl, hu⟩
set_option maxRecDepth 100000 in
set_option maxHeartbeats 1000000 in
theorem leaf_text (age num : Nat) (b : Bool) (s : ByteArray) (ha : age < 281474976710656) (hn : num < 65536) (hs : s.size ≤ 234) (w : World) :
    Calls Try.prog 73 #[.agg #[.int .i64 age, .int .i64 num, .bool b, .string s]] w fun e w' => e = .returned (.string (leafS age num b s)) ∧ Below w.heap.size w w' := by
  have hlz : lst (str (zeros 252)) = zeros 252 := lst_str _
  have c1 := fun w => name_put age num ha hn (str (zeros 252)) (by rw [size_str, zeros_len]; omega) 0 0 rfl (by rw [size_str, zeros_len]; omega) w
  rw [hlz] at c1
  have z1 : (nameU (zeros 252) 0 age num).length = 252 := by rw [nameU_len (by rw [zeros_len]; omega), zeros_len]
  have c2 := fun (n : Nat) (h : n < 256 ^ 1) w => put_fits (str (nameU (zeros 252) 0 age num)) 8 1 n 8 1 rfl rfl (by rw [size_str, z1]; decide) (by decide) (by decide) (by rw [size_str, z1]; decide) h w
  rw [lst_str] at c2
  have z2 : ∀ n, (ups (nameU (zeros 252) 0 age num) 8 (toLE n 1)).length = 252 := fun n => by rw [ups_len (by rw [z1, toLE_length]; omega), z1]
  have c3 : ∀ (n : Nat) w, Calls Try.prog 87 #[.string (str (ups (nameU (zeros 252) 0 age num) 8 (toLE n 1))), .int .i64 9, .string s] w fun e w' =>
      e = .returned (.tuple #[.string (str (ups (ups (nameU (zeros 252) 0 age num) 8 (toLE n 1)) 9 (UInt8.ofNat (lst s).length :: lst s))), .int .i64 (9 + (s.size : Int) + 1), .int .i64 0]) ∧ Below w.heap.size w w' := fun n w => by
    have := field_PutText_ok (str (ups (nameU (zeros 252) 0 age num) 8 (toLE n 1))) s 9 w (by rw [size_str, z2]; decide) (by omega) (by rw [size_str, z2]; omega)
    have e3 : (lst (str (ups (nameU (zeros 252) 0 age num) 8 (toLE n 1)))).take 9 ++ UInt8.ofNat s.size :: lst s ++ (lst (str (ups (nameU (zeros 252) 0 age num) 8 (toLE n 1)))).drop (9 + s.size + 1) = ups (ups (nameU (zeros 252) 0 age num) 8 (toLE n 1)) 9 (UInt8.ofNat (lst s).length :: lst s) := by
      rw [lst_str, lst_length]
      show _ = List.take 9 _ ++ _ ++ List.drop (9 + (UInt8.ofNat s.size :: lst s).length) _
      rw [List.length_cons, lst_length, Nat.add_assoc]
    rw [e3] at this
    exact this
  have z3 : ∀ n, (ups (ups (nameU (zeros 252) 0 age num) 8 (toLE n 1)) 9 (UInt8.ofNat (lst s).length :: lst s)).length = 252 := fun n => by rw [ups_len (by rw [z2, List.length_cons, lst_length]; omega), z2]
  have c4 : ∀ (n : Nat) w, Calls Try.prog 86 #[.agg #[.int .i64 age, .int .i64 num], .string (str (ups (ups (nameU (zeros 252) 0 age num) 8 (toLE n 1)) 9 (UInt8.ofNat (lst s).length :: lst s))), .int .i64 244] w fun e w' =>
      e = .returned (.string (str (nameU (ups (ups (nameU (zeros 252) 0 age num) 8 (toLE n 1)) 9 (UInt8.ofNat (lst s).length :: lst s)) 244 age num))) ∧ Below w.heap.size w w' := fun n w => by
    have := name_put age num ha hn (str (ups (ups (nameU (zeros 252) 0 age num) 8 (toLE n 1)) 9 (UInt8.ofNat (lst s).length :: lst s))) (by rw [size_str, z3]; decide) 244 244 rfl (by rw [size_str, z3]; omega) w
    rw [lst_str] at this
    exact this
  have hfin := leafL_ups age num b (lst s) (by rw [lst_length]; exact hs)
  obtain ⟨B, hB, hB2⟩ : ∃ B : Nat, (if b then 1 else 0) = B ∧ B < 256 ^ 1 := ⟨_, rfl, by cases b <;> decide⟩
  rw [hB] at hfin
  have D2 := Lib.hid (c2 B hB2)
  have D3 := Lib.hid (c3 B)
  have d4 := c4 B
  rw [hfin] at d4
  have D4 := Lib.hid d4
  have C1 := Lib.hid c1
  have HB := Lib.hid hB
  have hfs : leafS age num b s = str (leafL age num b (lst s)) := rfl
  rw [hfs]
  clear c1 c2 c3 c4 d4 hfin z1 z2 z3 hB hB2 hfs
  generalize str (leafL age num b (lst s)) = RES at *
  generalize str (ups (ups (nameU (zeros 252) 0 age num) 8 (toLE B 1)) 9 (UInt8.ofNat (lst s).length :: lst s)) = S3 at *
  generalize str (ups (nameU (zeros 252) 0 age num) 8 (toLE B 1)) = S2 at *
  generalize str (nameU (zeros 252) 0 age num) = S1 at *
  have hu := (Up.refl w).alloc (.cells #[.int .i64 age, .int .i64 num, .bool b, .string s] 100)
  have rp := RowAt.made w 100 [.int .i64 age, .int .i64 num, .bool b, .string s]
  have n252 : (252 : Nat) ≤ 281474976710656 := by decide
  go_enter Try.func73, Try.ntmps73
  go_upto_region 1 with fail
  generalize w.heap.size = g at *
  generalize w.alloc _ = w0 at *
  obtain ⟨⟨p0, p1, p2, p3⟩, -⟩ := rp.c4
  refine wp_region_ssa (by kernel_rfl) (by kernel_rfl) (by kernel_rfl) ?_
  refine wpAnyS_quiet 0 2 4 30 (by kernel_rfl) (by kernel_rfl) (fun _ _ _ _ _ h => h) (by kernel_rfl) (by kernel_rfl) ?_
  apply Exists.intro
  refine ⟨fun w1 hw1 => ?_, ?_⟩
  · have l0 := Later.of_base p0 hw1
    have l1 := Later.of_base p1 hw1
    have hne := later_ne w1
    simp only [List.drop_zero, List.take_succ_cons, List.take_zero]
    repeat (go_big_quiet_step (fail))
    exact wpQuiet_nil rfl
  clear p0 p1 p2 p3
  refine wpAnyS_one 2 3 (by kernel_rfl) (by kernel_rfl) (by kernel_rfl) ?_
  intro w1 hw1
  simp only [List.drop_succ_cons, List.drop_zero, List.take_succ_cons, List.take_zero]
  go_wp2_with ((with_reducible refine wpList_makeBytes rfl _ _ 54 5 rfl Try.underlying54 u8info _ _ _ _ 252 rfl rfl rfl rfl n252 _ _ (Below.refl _ _) (Nat.le_refl _) ?_); intro g9 w9 hb9 hw9 hw9' hg9 hg9')
  refine ⟨hw9', ?_⟩
  replace rp := rp.up (Up.trans hw1 hw9')
  replace hu := Up.trans hu (Up.trans hw1 hw9')
  clear hw1 hw9 hw9' hg9 w1
  refine wpAnyS_one 3 2 (by kernel_rfl) (by kernel_rfl) (by kernel_rfl) ?_
  intro w1 hw1
  simp only [List.drop_succ_cons, List.drop_zero, List.take_succ_cons, List.take_zero]
  have hb1 : BytesAt w1 g9 0 (zeros 252) := hb9.below hw1 hg9'
  go_wp2_with (with_reducible refine wpList_toString rfl _ 54 9 5 rfl Try.underlying54 Try.underlying9 Try.underlying5 (zeros 252) g9 0 252 252 rfl (zeros_len 252).symm hb1 ?_)
  refine ⟨Up.refl _, ?_⟩
  replace rp := rp.up hw1
  replace hu := Up.trans hu hw1
  clear hb1 hb9 hg9' hw1
  refine wpAnyS_one 4 1 (by kernel_rfl) (by kernel_rfl) (by kernel_rfl) ?_
  intro w2 hw2
  simp only [List.drop_succ_cons, List.drop_zero, List.take_succ_cons, List.take_zero]
  go_wp2_with ((with_reducible refine (C1.out _).mono ?_); rintro e w3 ⟨rfl, hb⟩)
  refine ⟨hb, ?_⟩
  replace rp := rp.up (Up.trans hw2 hb)
  replace hu := Up.trans hu (Up.trans hw2 hb)
  clear hw2 hb
  refine wpAnyS_quiet 5 1 0 30 (by kernel_rfl) (by kernel_rfl) (fun _ _ _ _ _ h => h) (by kernel_rfl) (by kernel_rfl) ?_
  apply Exists.intro
  refine ⟨fun w1 hw1 => ?_, ?_⟩
  · have hne := later_ne w1
    simp only [List.drop_succ_cons, List.drop_zero, List.take_succ_cons, List.take_zero]
    repeat (go_big_quiet_step (fail))
    exact wpQuiet_nil rfl
  refine wpAnyS_done (by kernel_rfl) ?_
  intro w4 hw4
  replace rp := rp.up hw4
  replace hu := Up.trans hu hw4
  clear hw4
  obtain ⟨⟨p0, p1, p2, p3⟩, -⟩ := rp.c4
  have hb1 := HB.out
  clear HB
  cases b
  · obtain rfl : 0 = B := hb1
    have E2 := Lib.hid (show ∀ w, Calls Try.prog 70 #[.string S1, .int .i64 8, .int .i64 1, .int .u64 0] w fun e w' => e = .returned (.tuple #[.string S2, .int .i64 0]) ∧ Below w.heap.size w w' from fun w => D2.out w)
    clear D2
    go_wp2_with (first
      | ((with_reducible refine (E2.out _).mono ?_); rintro e w5 ⟨rfl, hw⟩; replace rp := rp.up hw; replace hu := hu.next hw; clear hw p0 p1 p2 p3; obtain ⟨⟨p0, p1, p2, p3⟩, -⟩ := rp.c4)
      | ((with_reducible refine (D3.out _).mono ?_); rintro e w6 ⟨rfl, hw⟩; replace rp := rp.up hw; replace hu := hu.next hw; clear hw p0 p1 p2 p3; obtain ⟨⟨p0, p1, p2, p3⟩, -⟩ := rp.c4)
      | ((with_reducible refine (D4.out _).mono ?_); rintro e w7 ⟨rfl, hw⟩; replace rp := rp.up hw; replace hu := hu.next hw; clear hw p0 p1 p2 p3))
    go_ret
    exact ⟨rfl, hu⟩
  · obtain rfl : 1 = B := hb1
    have E2 := Lib.hid (show ∀ w, Calls Try.prog 70 #[.string S1, .int .i64 8, .int .i64 1, .int .u64 1] w fun e w' => e = .returned (.tuple #[.string S2, .int .i64 0]) ∧ Below w.heap.size w w' from fun w => D2.out w)
    clear D2
    go_wp2_with (first
      | ((with_reducible refine (E2.out _).mono ?_); rintro e w5 ⟨rfl, hw⟩; replace rp := rp.up hw; replace hu := hu.next hw; clear hw p0 p1 p2 p3; obtain ⟨⟨p0, p1, p2, p3⟩, -⟩ := rp.c4)
      | ((with_reducible refine (D3.out _).mono ?_); rintro e w6 ⟨rfl, hw⟩; replace rp := rp.up hw; replace hu := hu.next hw; clear hw p0 p1 p2 p3; obtain ⟨⟨p0, p1, p2, p3⟩, -⟩ := rp.c4)
      | ((with_reducible refine (D4.out _).mono ?_); rintro e w7 ⟨rfl, hw⟩; replace rp := rp.up hw; replace hu := hu.next hw; clear hw p0 p1 p2 p3))
    go_ret
    exact ⟨rfl, hu⟩
end Go.Proofs.Ytokpkkjgagbpfaa
