import Derived.Test.YtibeeomeafakgaaRec5Walk2
namespace Go.Proofs.Ytibeeomeafakgaa
open Go.RowKit Bw
set_option linter.unusedVariables false

theorem ref5_Row_m (l : List PairD) (pa : Option Addr) (ca : Nat) (w : World) (m : Nat) (hm : m = l.length) (hA : PairsAt w pa l) (la : l.length ≤ 1099511627776) (hs : ∀ p ∈ l, p.1.size ≤ 1099511627776) :
    Calls Try.prog 30 #[.slice pa m ca] w fun e w' => e = .returned (.bool (rowB l)) ∧ Below w.heap.size w w' := by
  subst hm; exact ref5_Row l pa ca w hA la hs

set_option maxHeartbeats 2000000 in
set_option maxRecDepth 100000 in
theorem r5right1 (t : Int) (key val : ByteArray) (p u n : Int) (l : List PairD) (pa : Option Addr) (ca : Nat) (w : World) (hA : PairsAt w pa l) (la : l.length ≤ 1099511627776) (hs : ∀ p ∈ l, p.1.size ≤ 1099511627776) :
    Calls Try.prog 12 #[.agg #[.int .i64 1, .int .i64 t, .string key, .string val, .int .i64 p, .int .i64 u, .int .i64 n, .slice pa l.length ca]] w fun e w' => e = .returned (.bool (RecD.rightR ⟨1, t, key, val, p, u, n, l⟩)) ∧ Below w.heap.size w w' := by
  have HF := Lib.hid (refForm1 t key val p u n l)
  generalize RecD.rightR ⟨1, t, key, val, p, u, n, l⟩ = R at *
  have C6 := Lib.hid (fun w1 (m : Nat) (hm : m = l.length) (h : Up w w1) => ref5_Row_m l pa ca w1 m hm (hA.up h) la hs)
  have hu := Up.refl w
  have C7 := Lib.hid ref5_in
  have C8 := Lib.hid (ref5_Key key)
  have C9 := Lib.hid (ref5_Value val)
  clear hA hs
  go_enter Try.func12, Try.ntmps12
  go_upto_region 1 with fail
  have rp := (RowAt.made w 28 [.int .i64 1, .int .i64 t, .string key, .string val, .int .i64 p, .int .i64 u, .int .i64 n, .slice pa l.length ca])
  replace hu := hu.alloc (.cells #[.int .i64 1, .int .i64 t, .string key, .string val, .int .i64 p, .int .i64 u, .int .i64 n, .slice pa l.length ca] 28)
  obtain ⟨p0, p1, p2, p3, p4, p5, p6, p7, -⟩ := rp.c8
  clear rp
  generalize w.alloc (.cells #[.int .i64 1, .int .i64 t, .string key, .string val, .int .i64 p, .int .i64 u, .int .i64 n, .slice pa l.length ca] 28) = w1 at *
  go_wp2_with (first
    | ((with_reducible refine (C8.out _).mono ?_); rintro e wn ⟨rfl, rfl⟩)
    | ((with_reducible refine (C9.out _).mono ?_); rintro e wn ⟨rfl, rfl⟩)
    | ((with_reducible refine (C7.out _ _ _ _).mono ?_); rintro e wn ⟨rfl, rfl⟩)
    | ((with_reducible refine (C6.out _ _ ?_ ?_).mono ?_); (· first | rfl | simp [*]); (· exact hu); rintro e wn ⟨rfl, hwn⟩; replace hu := hu.next hwn; clear hwn))
  all_goals go_ret
  all_goals (refine ⟨?_, hu⟩)
  all_goals
    rw [HF.out]
    try (have q1 := ‹(!inB t 1 1099511627776) = true›; simp only [Bool.not_eq_true'] at q1)
    try (have q1 := ‹(!inB t 1 1099511627776) = false›; simp only [Bool.not_eq_false'] at q1)
    try (have q2 := ‹(!keyB key) = true›; simp only [Bool.not_eq_true'] at q2)
    try (have q2 := ‹(!keyB key) = false›; simp only [Bool.not_eq_false'] at q2)
    try (have q3 := ‹(!valB val) = true›; simp only [Bool.not_eq_true'] at q3)
    try (have q3 := ‹(!valB val) = false›; simp only [Bool.not_eq_false'] at q3)
    try (have q4 := ‹(!key.toList.isEmpty) = true›; simp only [Bool.not_eq_true'] at q4)
    try (have q4 := ‹(!key.toList.isEmpty) = false›; simp only [Bool.not_eq_false', List.isEmpty_iff] at q4)
    clear p0 p1 p2 p3 p4 p5 p6 p7
    simp [*]
set_option maxHeartbeats 2000000 in
set_option maxRecDepth 100000 in
theorem r5right2 (t : Int) (key val : ByteArray) (p u n : Int) (l : List PairD) (pa : Option Addr) (ca : Nat) (w : World) (hA : PairsAt w pa l) (la : l.length ≤ 1099511627776) (hs : ∀ p ∈ l, p.1.size ≤ 1099511627776) :
    Calls Try.prog 12 #[.agg #[.int .i64 2, .int .i64 t, .string key, .string val, .int .i64 p, .int .i64 u, .int .i64 n, .slice pa l.length ca]] w fun e w' => e = .returned (.bool (RecD.rightR ⟨2, t, key, val, p, u, n, l⟩)) ∧ Below w.heap.size w w' := by
  have HF := Lib.hid (refForm2 t key val p u n l)
  generalize RecD.rightR ⟨2, t, key, val, p, u, n, l⟩ = R at *
  have C6 := Lib.hid (fun w1 (m : Nat) (hm : m = l.length) (h : Up w w1) => ref5_Row_m l pa ca w1 m hm (hA.up h) la hs)
  have hu := Up.refl w
  have C7 := Lib.hid ref5_in
  have C8 := Lib.hid (ref5_Key key)
  have C9 := Lib.hid (ref5_Value val)
  clear hA hs
  go_enter Try.func12, Try.ntmps12
  go_upto_region 1 with fail
  have rp := (RowAt.made w 28 [.int .i64 2, .int .i64 t, .string key, .string val, .int .i64 p, .int .i64 u, .int .i64 n, .slice pa l.length ca])
  replace hu := hu.alloc (.cells #[.int .i64 2, .int .i64 t, .string key, .string val, .int .i64 p, .int .i64 u, .int .i64 n, .slice pa l.length ca] 28)
  obtain ⟨p0, p1, p2, p3, p4, p5, p6, p7, -⟩ := rp.c8
  clear rp
  generalize w.alloc (.cells #[.int .i64 2, .int .i64 t, .string key, .string val, .int .i64 p, .int .i64 u, .int .i64 n, .slice pa l.length ca] 28) = w1 at *
  go_wp2_with (first
    | ((with_reducible refine (C8.out _).mono ?_); rintro e wn ⟨rfl, rfl⟩)
    | ((with_reducible refine (C9.out _).mono ?_); rintro e wn ⟨rfl, rfl⟩)
    | ((with_reducible refine (C7.out _ _ _ _).mono ?_); rintro e wn ⟨rfl, rfl⟩)
    | ((with_reducible refine (C6.out _ _ ?_ ?_).mono ?_); (· first | rfl | simp [*]); (· exact hu); rintro e wn ⟨rfl, hwn⟩; replace hu := hu.next hwn; clear hwn))
  all_goals go_ret
  all_goals (refine ⟨?_, hu⟩)
  all_goals
    rw [HF.out]
    try (have q1 := ‹(!inB t 1 1099511627776) = true›; simp only [Bool.not_eq_true'] at q1)
    try (have q1 := ‹(!inB t 1 1099511627776) = false›; simp only [Bool.not_eq_false'] at q1)
    try (have q2 := ‹(!keyB key) = true›; simp only [Bool.not_eq_true'] at q2)
    try (have q2 := ‹(!keyB key) = false›; simp only [Bool.not_eq_false'] at q2)
    try (have q3 := ‹(!valB val) = true›; simp only [Bool.not_eq_true'] at q3)
    try (have q3 := ‹(!valB val) = false›; simp only [Bool.not_eq_false'] at q3)
    try (have q4 := ‹(!key.toList.isEmpty) = true›; simp only [Bool.not_eq_true'] at q4)
    try (have q4 := ‹(!key.toList.isEmpty) = false›; simp only [Bool.not_eq_false', List.isEmpty_iff] at q4)
    clear p0 p1 p2 p3 p4 p5 p6 p7
    simp [*]
set_option maxHeartbeats 2000000 in
set_option maxRecDepth 100000 in
theorem r5right3 (t : Int) (key val : ByteArray) (p u n : Int) (l : List PairD) (pa : Option Addr) (ca : Nat) (w : World) (hA : PairsAt w pa l) (la : l.length ≤ 1099511627776) (hs : ∀ p ∈ l, p.1.size ≤ 1099511627776) :
    Calls Try.prog 12 #[.agg #[.int .i64 3, .int .i64 t, .string key, .string val, .int .i64 p, .int .i64 u, .int .i64 n, .slice pa l.length ca]] w fun e w' => e = .returned (.bool (RecD.rightR ⟨3, t, key, val, p, u, n, l⟩)) ∧ Below w.heap.size w w' := by
  have HF := Lib.hid (refForm3 t key val p u n l)
  generalize RecD.rightR ⟨3, t, key, val, p, u, n, l⟩ = R at *
  have C6 := Lib.hid (fun w1 (m : Nat) (hm : m = l.length) (h : Up w w1) => ref5_Row_m l pa ca w1 m hm (hA.up h) la hs)
  have hu := Up.refl w
  have C7 := Lib.hid ref5_in
  have C8 := Lib.hid (ref5_Key key)
  have C9 := Lib.hid (ref5_Value val)
  clear hA hs
  go_enter Try.func12, Try.ntmps12
  go_upto_region 1 with fail
  have rp := (RowAt.made w 28 [.int .i64 3, .int .i64 t, .string key, .string val, .int .i64 p, .int .i64 u, .int .i64 n, .slice pa l.length ca])
  replace hu := hu.alloc (.cells #[.int .i64 3, .int .i64 t, .string key, .string val, .int .i64 p, .int .i64 u, .int .i64 n, .slice pa l.length ca] 28)
  obtain ⟨p0, p1, p2, p3, p4, p5, p6, p7, -⟩ := rp.c8
  clear rp
  generalize w.alloc (.cells #[.int .i64 3, .int .i64 t, .string key, .string val, .int .i64 p, .int .i64 u, .int .i64 n, .slice pa l.length ca] 28) = w1 at *
  go_wp2_with (first
    | ((with_reducible refine (C8.out _).mono ?_); rintro e wn ⟨rfl, rfl⟩)
    | ((with_reducible refine (C9.out _).mono ?_); rintro e wn ⟨rfl, rfl⟩)
    | ((with_reducible refine (C7.out _ _ _ _).mono ?_); rintro e wn ⟨rfl, rfl⟩)
    | ((with_reducible refine (C6.out _ _ ?_ ?_).mono ?_); (· first | rfl | simp [*]); (· exact hu); rintro e wn ⟨rfl, hwn⟩; replace hu := hu.next hwn; clear hwn))
  all_goals go_ret
  all_goals (refine ⟨?_, hu⟩)
  all_goals
    rw [HF.out]
    try (have q1 := ‹(!inB t 1 1099511627776) = true›; simp only [Bool.not_eq_true'] at q1)
    try (have q1 := ‹(!inB t 1 1099511627776) = false›; simp only [Bool.not_eq_false'] at q1)
    try (have q2 := ‹(!keyB key) = true›; simp only [Bool.not_eq_true'] at q2)
    try (have q2 := ‹(!keyB key) = false›; simp only [Bool.not_eq_false'] at q2)
    try (have q3 := ‹(!valB val) = true›; simp only [Bool.not_eq_true'] at q3)
    try (have q3 := ‹(!valB val) = false›; simp only [Bool.not_eq_false'] at q3)
    try (have q4 := ‹(!key.toList.isEmpty) = true›; simp only [Bool.not_eq_true'] at q4)
    try (have q4 := ‹(!key.toList.isEmpty) = false›; simp only [Bool.not_eq_false', List.isEmpty_iff] at q4)
    clear p0 p1 p2 p3 p4 p5 p6 p7
    simp [*]
set_option maxHeartbeats 2000000 in
set_option maxRecDepth 100000 in
theorem r5right4 (t : Int) (key val : ByteArray) (p u n : Int) (l : List PairD) (pa : Option Addr) (ca : Nat) (w : World) (hA : PairsAt w pa l) (la : l.length ≤ 1099511627776) (hs : ∀ p ∈ l, p.1.size ≤ 1099511627776) :
    Calls Try.prog 12 #[.agg #[.int .i64 4, .int .i64 t, .string key, .string val, .int .i64 p, .int .i64 u, .int .i64 n, .slice pa l.length ca]] w fun e w' => e = .returned (.bool (RecD.rightR ⟨4, t, key, val, p, u, n, l⟩)) ∧ Below w.heap.size w w' := by
  have HF := Lib.hid (refForm4 t key val p u n l)
  generalize RecD.rightR ⟨4, t, key, val, p, u, n, l⟩ = R at *
  have C6 := Lib.hid (fun w1 (m : Nat) (hm : m = l.length) (h : Up w w1) => ref5_Row_m l pa ca w1 m hm (hA.up h) la hs)
  have hu := Up.refl w
  have C7 := Lib.hid ref5_in
  have C8 := Lib.hid (ref5_Key key)
  have C9 := Lib.hid (ref5_Value val)
  clear hA hs
  go_enter Try.func12, Try.ntmps12
  go_upto_region 1 with fail
  have rp := (RowAt.made w 28 [.int .i64 4, .int .i64 t, .string key, .string val, .int .i64 p, .int .i64 u, .int .i64 n, .slice pa l.length ca])
  replace hu := hu.alloc (.cells #[.int .i64 4, .int .i64 t, .string key, .string val, .int .i64 p, .int .i64 u, .int .i64 n, .slice pa l.length ca] 28)
  obtain ⟨p0, p1, p2, p3, p4, p5, p6, p7, -⟩ := rp.c8
  clear rp
  generalize w.alloc (.cells #[.int .i64 4, .int .i64 t, .string key, .string val, .int .i64 p, .int .i64 u, .int .i64 n, .slice pa l.length ca] 28) = w1 at *
  go_wp2_with (first
    | ((with_reducible refine (C8.out _).mono ?_); rintro e wn ⟨rfl, rfl⟩)
    | ((with_reducible refine (C9.out _).mono ?_); rintro e wn ⟨rfl, rfl⟩)
    | ((with_reducible refine (C7.out _ _ _ _).mono ?_); rintro e wn ⟨rfl, rfl⟩)
    | ((with_reducible refine (C6.out _ _ ?_ ?_).mono ?_); (· first | rfl | simp [*]); (· exact hu); rintro e wn ⟨rfl, hwn⟩; replace hu := hu.next hwn; clear hwn))
  all_goals go_ret
  all_goals (refine ⟨?_, hu⟩)
  all_goals
    rw [HF.out]
    try (have q1 := ‹(!inB t 1 1099511627776) = true›; simp only [Bool.not_eq_true'] at q1)
    try (have q1 := ‹(!inB t 1 1099511627776) = false›; simp only [Bool.not_eq_false'] at q1)
    try (have q2 := ‹(!keyB key) = true›; simp only [Bool.not_eq_true'] at q2)
    try (have q2 := ‹(!keyB key) = false›; simp only [Bool.not_eq_false'] at q2)
    try (have q3 := ‹(!valB val) = true›; simp only [Bool.not_eq_true'] at q3)
    try (have q3 := ‹(!valB val) = false›; simp only [Bool.not_eq_false'] at q3)
    try (have q4 := ‹(!key.toList.isEmpty) = true›; simp only [Bool.not_eq_true'] at q4)
    try (have q4 := ‹(!key.toList.isEmpty) = false›; simp only [Bool.not_eq_false', List.isEmpty_iff] at q4)
    clear p0 p1 p2 p3 p4 p5 p6 p7
    simp [*]
set_option maxHeartbeats 2000000 in
set_option maxRecDepth 100000 in
theorem r5right5 (t : Int) (key val : ByteArray) (p u n : Int) (l : List PairD) (pa : Option Addr) (ca : Nat) (w : World) (hA : PairsAt w pa l) (la : l.length ≤ 1099511627776) (hs : ∀ p ∈ l, p.1.size ≤ 1099511627776) :
    Calls Try.prog 12 #[.agg #[.int .i64 5, .int .i64 t, .string key, .string val, .int .i64 p, .int .i64 u, .int .i64 n, .slice pa l.length ca]] w fun e w' => e = .returned (.bool (RecD.rightR ⟨5, t, key, val, p, u, n, l⟩)) ∧ Below w.heap.size w w' := by
  have HF := Lib.hid (refForm5 t key val p u n l)
  generalize RecD.rightR ⟨5, t, key, val, p, u, n, l⟩ = R at *
  have C6 := Lib.hid (fun w1 (m : Nat) (hm : m = l.length) (h : Up w w1) => ref5_Row_m l pa ca w1 m hm (hA.up h) la hs)
  have hu := Up.refl w
  have C7 := Lib.hid ref5_in
  have C8 := Lib.hid (ref5_Key key)
  have C9 := Lib.hid (ref5_Value val)
  clear hA hs
  go_enter Try.func12, Try.ntmps12
  go_upto_region 1 with fail
  have rp := (RowAt.made w 28 [.int .i64 5, .int .i64 t, .string key, .string val, .int .i64 p, .int .i64 u, .int .i64 n, .slice pa l.length ca])
  replace hu := hu.alloc (.cells #[.int .i64 5, .int .i64 t, .string key, .string val, .int .i64 p, .int .i64 u, .int .i64 n, .slice pa l.length ca] 28)
  obtain ⟨p0, p1, p2, p3, p4, p5, p6, p7, -⟩ := rp.c8
  clear rp
  generalize w.alloc (.cells #[.int .i64 5, .int .i64 t, .string key, .string val, .int .i64 p, .int .i64 u, .int .i64 n, .slice pa l.length ca] 28) = w1 at *
  go_wp2_with (first
    | ((with_reducible refine (C8.out _).mono ?_); rintro e wn ⟨rfl, rfl⟩)
    | ((with_reducible refine (C9.out _).mono ?_); rintro e wn ⟨rfl, rfl⟩)
    | ((with_reducible refine (C7.out _ _ _ _).mono ?_); rintro e wn ⟨rfl, rfl⟩)
    | ((with_reducible refine (C6.out _ _ ?_ ?_).mono ?_); (· first | rfl | simp [*]); (· exact hu); rintro e wn ⟨rfl, hwn⟩; replace hu := hu.next hwn; clear hwn))
  all_goals go_ret
  all_goals (refine ⟨?_, hu⟩)
  all_goals
    rw [HF.out]
    try (have q1 := ‹(!inB t 1 1099511627776) = true›; simp only [Bool.not_eq_true'] at q1)
    try (have q1 := ‹(!inB t 1 1099511627776) = false›; simp only [Bool.not_eq_false'] at q1)
    try (have q2 := ‹(!keyB key) = true›; simp only [Bool.not_eq_true'] at q2)
    try (have q2 := ‹(!keyB key) = false›; simp only [Bool.not_eq_false'] at q2)
    try (have q3 := ‹(!valB val) = true›; simp only [Bool.not_eq_true'] at q3)
    try (have q3 := ‹(!valB val) = false›; simp only [Bool.not_eq_false'] at q3)
    try (have q4 := ‹(!key.toList.isEmpty) = true›; simp only [Bool.not_eq_true'] at q4)
    try (have q4 := ‹(!key.toList.isEmpty) = false›; simp only [Bool.not_eq_false', List.isEmpty_iff] at q4)
    clear p0 p1 p2 p3 p4 p5 p6 p7
    simp [*]
set_option maxHeartbeats 2000000 in
set_option maxRecDepth 100000 in
theorem r5right6 (t : Int) (key val : ByteArray) (p u n : Int) (l : List PairD) (pa : Option Addr) (ca : Nat) (w : World) (hA : PairsAt w pa l) (la : l.length ≤ 1099511627776) (hs : ∀ p ∈ l, p.1.size ≤ 1099511627776) :
    Calls Try.prog 12 #[.agg #[.int .i64 6, .int .i64 t, .string key, .string val, .int .i64 p, .int .i64 u, .int .i64 n, .slice pa l.length ca]] w fun e w' => e = .returned (.bool (RecD.rightR ⟨6, t, key, val, p, u, n, l⟩)) ∧ Below w.heap.size w w' := by
  have HF := Lib.hid (refForm6 t key val p u n l)
  generalize RecD.rightR ⟨6, t, key, val, p, u, n, l⟩ = R at *
  have C6 := Lib.hid (fun w1 (m : Nat) (hm : m = l.length) (h : Up w w1) => ref5_Row_m l pa ca w1 m hm (hA.up h) la hs)
  have hu := Up.refl w
  have C7 := Lib.hid ref5_in
  have C8 := Lib.hid (ref5_Key key)
  have C9 := Lib.hid (ref5_Value val)
  clear hA hs
  go_enter Try.func12, Try.ntmps12
  go_upto_region 1 with fail
  have rp := (RowAt.made w 28 [.int .i64 6, .int .i64 t, .string key, .string val, .int .i64 p, .int .i64 u, .int .i64 n, .slice pa l.length ca])
  replace hu := hu.alloc (.cells #[.int .i64 6, .int .i64 t, .string key, .string val, .int .i64 p, .int .i64 u, .int .i64 n, .slice pa l.length ca] 28)
  obtain ⟨p0, p1, p2, p3, p4, p5, p6, p7, -⟩ := rp.c8
  clear rp
  generalize w.alloc (.cells #[.int .i64 6, .int .i64 t, .string key, .string val, .int .i64 p, .int .i64 u, .int .i64 n, .slice pa l.length ca] 28) = w1 at *
  go_wp2_with (first
    | ((with_reducible refine (C8.out _).mono ?_); rintro e wn ⟨rfl, rfl⟩)
    | ((with_reducible refine (C9.out _).mono ?_); rintro e wn ⟨rfl, rfl⟩)
    | ((with_reducible refine (C7.out _ _ _ _).mono ?_); rintro e wn ⟨rfl, rfl⟩)
    | ((with_reducible refine (C6.out _ _ ?_ ?_).mono ?_); (· first | rfl | simp [*]); (· exact hu); rintro e wn ⟨rfl, hwn⟩; replace hu := hu.next hwn; clear hwn))
  all_goals go_ret
  all_goals (refine ⟨?_, hu⟩)
  all_goals
    rw [HF.out]
    try (have q1 := ‹(!inB t 1 1099511627776) = true›; simp only [Bool.not_eq_true'] at q1)
    try (have q1 := ‹(!inB t 1 1099511627776) = false›; simp only [Bool.not_eq_false'] at q1)
    try (have q2 := ‹(!keyB key) = true›; simp only [Bool.not_eq_true'] at q2)
    try (have q2 := ‹(!keyB key) = false›; simp only [Bool.not_eq_false'] at q2)
    try (have q3 := ‹(!valB val) = true›; simp only [Bool.not_eq_true'] at q3)
    try (have q3 := ‹(!valB val) = false›; simp only [Bool.not_eq_false'] at q3)
    try (have q4 := ‹(!key.toList.isEmpty) = true›; simp only [Bool.not_eq_true'] at q4)
    try (have q4 := ‹(!key.toList.isEmpty) = false›; simp only [Bool.not_eq_false', List.isEmpty_iff] at q4)
    clear p0 p1 p2 p3 p4 p5 p6 p7
    simp [*]
set_option maxHeartbeats 2000000 in
set_option maxRecDepth 100000 in
theorem r5right7 (t : Int) (key val : ByteArray) (p u n : Int) (l : List PairD) (pa : Option Addr) (ca : Nat) (w : World) (hA : PairsAt w pa l) (la : l.length ≤ 1099511627776) (hs : ∀ p ∈ l, p.1.size ≤ 1099511627776) :
    Calls Try.prog 12 #[.agg #[.int .i64 7, .int .i64 t, .string key, .string val, .int .i64 p, .int .i64 u, .int .i64 n, .slice pa l.length ca]] w fun e w' => e = .returned (.bool (RecD.rightR ⟨7, t, key, val, p, u, n, l⟩)) ∧ Below w.heap.size w w' := by
  have HF := Lib.hid (refForm7 t key val p u n l)
  generalize RecD.rightR ⟨7, t, key, val, p, u, n, l⟩ = R at *
  have C6 := Lib.hid (fun w1 (m : Nat) (hm : m = l.length) (h : Up w w1) => ref5_Row_m l pa ca w1 m hm (hA.up h) la hs)
  have hu := Up.refl w
  have C7 := Lib.hid ref5_in
  have C8 := Lib.hid (ref5_Key key)
  have C9 := Lib.hid (ref5_Value val)
  clear hA hs
  go_enter Try.func12, Try.ntmps12
  go_upto_region 1 with fail
  have rp := (RowAt.made w 28 [.int .i64 7, .int .i64 t, .string key, .string val, .int .i64 p, .int .i64 u, .int .i64 n, .slice pa l.length ca])
  replace hu := hu.alloc (.cells #[.int .i64 7, .int .i64 t, .string key, .string val, .int .i64 p, .int .i64 u, .int .i64 n, .slice pa l.length ca] 28)
  obtain ⟨p0, p1, p2, p3, p4, p5, p6, p7, -⟩ := rp.c8
  clear rp
  generalize w.alloc (.cells #[.int .i64 7, .int .i64 t, .string key, .string val, .int .i64 p, .int .i64 u, .int .i64 n, .slice pa l.length ca] 28) = w1 at *
  go_wp2_with (first
    | ((with_reducible refine (C8.out _).mono ?_); rintro e wn ⟨rfl, rfl⟩)
    | ((with_reducible refine (C9.out _).mono ?_); rintro e wn ⟨rfl, rfl⟩)
    | ((with_reducible refine (C7.out _ _ _ _).mono ?_); rintro e wn ⟨rfl, rfl⟩)
    | ((with_reducible refine (C6.out _ _ ?_ ?_).mono ?_); (· first | rfl | simp [*]); (· exact hu); rintro e wn ⟨rfl, hwn⟩; replace hu := hu.next hwn; clear hwn))
  all_goals go_ret
  all_goals (refine ⟨?_, hu⟩)
  all_goals
    rw [HF.out]
    try (have q1 := ‹(!inB t 1 1099511627776) = true›; simp only [Bool.not_eq_true'] at q1)
    try (have q1 := ‹(!inB t 1 1099511627776) = false›; simp only [Bool.not_eq_false'] at q1)
    try (have q2 := ‹(!keyB key) = true›; simp only [Bool.not_eq_true'] at q2)
    try (have q2 := ‹(!keyB key) = false›; simp only [Bool.not_eq_false'] at q2)
    try (have q3 := ‹(!valB val) = true›; simp only [Bool.not_eq_true'] at q3)
    try (have q3 := ‹(!valB val) = false›; simp only [Bool.not_eq_false'] at q3)
    try (have q4 := ‹(!key.toList.isEmpty) = true›; simp only [Bool.not_eq_true'] at q4)
    try (have q4 := ‹(!key.toList.isEmpty) = false›; simp only [Bool.not_eq_false', List.isEmpty_iff] at q4)
    clear p0 p1 p2 p3 p4 p5 p6 p7
    simp [*]

set_option maxHeartbeats 1000000 in
theorem r5right_out (k t : Int) (key val : ByteArray) (p u n : Int) (l : List PairD) (pa : Option Addr) (ca : Nat) (w : World) (hk : inB k 1 7 = false) :
    Calls Try.prog 12 #[.agg #[.int .i64 k, .int .i64 t, .string key, .string val, .int .i64 p, .int .i64 u, .int .i64 n, .slice pa l.length ca]] w fun e w' => e = .returned (.bool (RecD.rightR ⟨k, t, key, val, p, u, n, l⟩)) ∧ Below w.heap.size w w' := by
  have HF := Lib.hid (show RecD.rightR ⟨k, t, key, val, p, u, n, l⟩ = false by simp only [RecD.rightR, hk]; rfl)
  have hc : (k < 1 ∧ decide (k < 1) = true) ∨ (decide (k < 1) = false ∧ 7 < k ∧ decide (7 < k) = true) := by simp [inB] at hk ⊢; omega
  generalize RecD.rightR ⟨k, t, key, val, p, u, n, l⟩ = R at *
  have hu := (Up.refl w).alloc (.cells #[.int .i64 k, .int .i64 t, .string key, .string val, .int .i64 p, .int .i64 u, .int .i64 n, .slice pa l.length ca] 28)
  clear hk
  rcases hc with ⟨h1, h2⟩ | ⟨h1, h2, h3⟩
  all_goals
    go_enter Try.func12, Try.ntmps12
    go_wp2_with fail
    go_ret
    exact ⟨by rw [HF.out]; rfl, hu⟩

theorem ref5_Right (r : RecD) (pa : Option Addr) (ca : Nat) (w : World) (hA : PairsAt w pa r.l) (la : r.l.length ≤ 1099511627776) (hs : ∀ p ∈ r.l, p.1.size ≤ 1099511627776) :
    Calls Try.prog 12 #[recV r (.slice pa r.l.length ca)] w fun e w' => e = .returned (.bool r.rightR) ∧ Below w.heap.size w w' := by
  obtain ⟨k, t, key, val, p, u, n, l⟩ := r
  cases hk : inB k 1 7
  · exact r5right_out k t key val p u n l pa ca w hk
  · have hc : k = 1 ∨ k = 2 ∨ k = 3 ∨ k = 4 ∨ k = 5 ∨ k = 6 ∨ k = 7 := by simp [inB] at hk; omega
    rcases hc with rfl | rfl | rfl | rfl | rfl | rfl | rfl
    · exact r5right1 t key val p u n l pa ca w hA la hs
    · exact r5right2 t key val p u n l pa ca w hA la hs
    · exact r5right3 t key val p u n l pa ca w hA la hs
    · exact r5right4 t key val p u n l pa ca w hA la hs
    · exact r5right5 t key val p u n l pa ca w hA la hs
    · exact r5right6 t key val p u n l pa ca w hA la hs
    · exact r5right7 t key val p u n l pa ca w hA la hs
end Go.Proofs.Ytibeeomeafakgaa
