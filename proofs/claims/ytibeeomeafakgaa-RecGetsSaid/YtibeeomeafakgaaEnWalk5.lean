import Derived.Test.YtibeeomeafakgaaEnWalk4
import Derived.Test.YtibeeomeafakgaaRecWalk6
import Derived.Test.YtibeeomeafakgaaRec5Walk4
namespace Go.Proofs.Ytibeeomeafakgaa
open Go.RowKit Bw
set_option linter.unusedVariables false

/-- What read answers, by what the bytes are. -/
def ReadPost (s : ByteArray) (g : Nat) (w : World) (o : Option (RecD × List UInt8)) (e : Ending) (w' : World) : Prop :=
  match o with
  | some (x, t) => ∃ p c j, e = .returned (recV x (.slice p x.l.length c)) ∧ PairsAt w' p x.l ∧ InB w.heap.size w'.heap.size p ∧ RowAt w' g [.string s, .int .i64 ((j : Nat) : Int)] ∧ j ≤ s.size ∧ t = (lst s).drop j ∧ AllBut g w w'
  | none => ∃ n, e = .panicked [{ v := badV n, recovered := false }] ∧ AllBut g w w'

set_option maxHeartbeats 1000000 in
set_option maxRecDepth 100000 in
theorem read1 {s : ByteArray} (hs : s.size ≤ 1099511627776) {g i0 i1 : Nat} {w : World} (hi0 : i0 ≤ s.size) (hi1 : i1 = i0 + 1) (hi1' : i1 ≤ s.size) (h1 : rNum 1 ((lst s).drop i0) = some (1, (lst s).drop i1)) (hr : RowAt w g [.string s, .int .i64 (i0 : Int)]) :
    Calls Try.prog 38 #[.pointer (some ⟨g, 0, none⟩)] w (ReadPost s g w (rRec ((lst s).drop i0))) := by
  have C1 := Lib.hid (numC (g := g) (kk := 1) (k := 1) hs rfl (by omega) (by omega) hi0 (show i1 = i0 + 1 by omega) h1)
  unfold NumC at C1
  have c3 := fun w => rec_within 1 1 7 w
  rw [show inB 1 1 7 = true from rfl] at c3
  have C3 := Lib.hid c3; clear c3
  have C4 := Lib.hid rec_kinds
  have hix : ∀ w, (Instr.index 51 (.agg kindsA) (.int .i64 1)).run Try.prog w = .ok (.agg #[.bool true, .bool false, .bool false, .bool false, .bool false]) w := fun _ => by kernel_rfl
  have o1 := hr.lt
  go_enter Try.func38, Try.ntmps38
  go_upto_region 1 with fail
  have r2 : RowAt (w.alloc (.cells #[.int .i64 0, .int .i64 0, .string ⟨#[]⟩, .string ⟨#[]⟩, .int .i64 0, .int .i64 0, .int .i64 0, .slice none 0 0] 24)) w.heap.size [.int .i64 0, .int .i64 0, .string ⟨#[]⟩, .string ⟨#[]⟩, .int .i64 0, .int .i64 0, .int .i64 0, .slice none 0 0] := RowAt.made w _ _
  replace hr := hr.alloc (.cells #[.int .i64 0, .int .i64 0, .string ⟨#[]⟩, .string ⟨#[]⟩, .int .i64 0, .int .i64 0, .int .i64 0, .slice none 0 0] 24)
  have hw0 := (AllBut.refl g w).alloc (.cells #[.int .i64 0, .int .i64 0, .string ⟨#[]⟩, .string ⟨#[]⟩, .int .i64 0, .int .i64 0, .int .i64 0, .slice none 0 0] 24)
  generalize w.alloc (.cells #[.int .i64 0, .int .i64 0, .string ⟨#[]⟩, .string ⟨#[]⟩, .int .i64 0, .int .i64 0, .int .i64 0, .slice none 0 0] 24) = w2 at *
  go_upto_region 2 with ((with_reducible refine (C1.out _ hr).mono ?_); rintro e w1 ⟨rfl, hr1, ha⟩; clear hr; have hr := hr1; clear hr1; replace r2 := r2.allBut ha (by omega); replace hw0 := hw0.trans ha; clear ha)
  have o2 := r2.lt
  have rx : RowAt (w1.alloc (.cells #[.int .i64 1, .int .i64 0, .string ⟨#[]⟩, .string ⟨#[]⟩, .int .i64 0, .int .i64 0, .int .i64 0, .slice none 0 0] 24)) w1.heap.size [.int .i64 1, .int .i64 0, .string ⟨#[]⟩, .string ⟨#[]⟩, .int .i64 0, .int .i64 0, .int .i64 0, .slice none 0 0] := RowAt.made w1 _ _
  replace r2 := r2.alloc (.cells #[.int .i64 1, .int .i64 0, .string ⟨#[]⟩, .string ⟨#[]⟩, .int .i64 0, .int .i64 0, .int .i64 0, .slice none 0 0] 24)
  replace hr := hr.alloc (.cells #[.int .i64 1, .int .i64 0, .string ⟨#[]⟩, .string ⟨#[]⟩, .int .i64 0, .int .i64 0, .int .i64 0, .slice none 0 0] 24)
  replace hw0 := hw0.alloc (.cells #[.int .i64 1, .int .i64 0, .string ⟨#[]⟩, .string ⟨#[]⟩, .int .i64 0, .int .i64 0, .int .i64 0, .slice none 0 0] 24)
  generalize w1.heap.size = gx at *
  generalize w1.alloc (.cells #[.int .i64 1, .int .i64 0, .string ⟨#[]⟩, .string ⟨#[]⟩, .int .i64 0, .int .i64 0, .int .i64 0, .slice none 0 0] 24) = w3 at *
  obtain ⟨x0, -⟩ := rx.c8
  go_upto_region 4 with ((with_reducible refine (C3.out _).mono ?_); rintro e w1 ⟨rfl, rfl⟩)
  refine wp_region_two Up Up up_up (by kernel_rfl) (by kernel_rfl) (by kernel_rfl) ?_
  refine wpAnyTS_quiet 0 4 2 61 (by rfl) (by kernel_rfl) (fun _ _ _ _ _ h => h) (by kernel_rfl) (by kernel_rfl) ?_
  apply Exists.intro
  refine ⟨fun w1 hw1 => ?_, ?_⟩
  · have l0 := LaterUp.of (show w3.drew.cell? ⟨gx, 0, none⟩ = _ from x0) hw1
    have hne := laterR_ne rok_up w1
    simp only [List.drop_zero, List.take_succ_cons, List.take_zero]
    repeat (go_big_quiet_step ((go_at_call 27; with_reducible exact Calls.laterUp (C4.out _))))
    exact wpQuiet_nil rfl
  refine wpAnyTS_some 4 [] 1 (by rfl) (by kernel_rfl) (by kernel_rfl) ?_
  intro w4 h4
  refine ⟨?_, trivial⟩
  replace h4 := (Up.refl w3).drew.trans h4
  replace hr := hr.up h4; replace r2 := r2.up h4; replace rx := rx.up h4; replace hw0 := hw0.up h4
  clear x0 h4
  simp only [List.drop_succ_cons, List.drop_zero, List.take_succ_cons, List.take_zero]
  go_wp2_with fail
  refine ⟨.inr ((Up.refl w4).alloc _), ?_⟩
  have rh : RowAt (w4.alloc (.cells #[.bool false, .bool false, .bool false, .bool false, .bool false] 50)) w4.heap.size [.bool false, .bool false, .bool false, .bool false, .bool false] := RowAt.made w4 _ _
  have o3 := rx.lt
  replace hr := hr.alloc (.cells #[.bool false, .bool false, .bool false, .bool false, .bool false] 50)
  replace r2 := r2.alloc (.cells #[.bool false, .bool false, .bool false, .bool false, .bool false] 50)
  replace rx := rx.alloc (.cells #[.bool false, .bool false, .bool false, .bool false, .bool false] 50)
  replace hw0 := hw0.alloc (.cells #[.bool false, .bool false, .bool false, .bool false, .bool false] 50)
  generalize w4.heap.size = gh at *
  generalize w4.alloc (.cells #[.bool false, .bool false, .bool false, .bool false, .bool false] 50) = w5 at *
  refine wpAnyTS_some 5 [] 0 (by rfl) (by kernel_rfl) (by kernel_rfl) ?_
  intro w6 h6
  refine ⟨?_, trivial⟩
  replace hr := hr.up h6; replace r2 := r2.up h6; replace rx := rx.up h6; replace hw0 := hw0.up h6; replace rh := rh.up h6
  clear h6
  simp only [List.drop_succ_cons, List.drop_zero, List.take_succ_cons, List.take_zero]
  obtain ⟨y0, y1, y2, y3, y4, q0, q1, q2, q3, q4⟩ := rh.c5
  go_wp2_with fail
  refine ⟨.inl (by kernel_rfl), ?_⟩
  clear y0 y1 y2 y3 y4 q0 q1 q2 q3 q4
  refine wpAnyTS_done (by kernel_rfl) ?_
  intro w7 h7
  replace hr := ((((((hr.other gh 0 (.bool true) (by omega)).other gh 1 (.bool false) (by omega)).other gh 2 (.bool false) (by omega)).other gh 3 (.bool false) (by omega)).other gh 4 (.bool false) (by omega))).up h7
  replace r2 := ((((((r2.other gh 0 (.bool true) (by omega)).other gh 1 (.bool false) (by omega)).other gh 2 (.bool false) (by omega)).other gh 3 (.bool false) (by omega)).other gh 4 (.bool false) (by omega))).up h7
  replace rx := ((((((rx.other gh 0 (.bool true) (by omega)).other gh 1 (.bool false) (by omega)).other gh 2 (.bool false) (by omega)).other gh 3 (.bool false) (by omega)).other gh 4 (.bool false) (by omega))).up h7
  replace rh := ((((((rh.set 0 (.bool true) (by simp)).set 1 (.bool false) (by simp)).set 2 (.bool false) (by simp)).set 3 (.bool false) (by simp)).set 4 (.bool false) (by simp)))
  simp only [List.set_cons_zero, List.set_cons_succ] at rh
  replace rh := rh.up h7
  replace hw0 := ((((((hw0.setNew gh 0 (.bool true) (by omega)).setNew gh 1 (.bool false) (by omega)).setNew gh 2 (.bool false) (by omega)).setNew gh 3 (.bool false) (by omega)).setNew gh 4 (.bool false) (by omega))).up h7
  clear h7 hix C1 C3 C4
  obtain ⟨x0, x1, x2, x3, x4, x5, x6, x7, z0, z1, z2, z3, z4, z5, z6, z7⟩ := rx.c8
  obtain ⟨y0, y1, y2, y3, y4, -⟩ := rh.c5
  go_upto_region 6 with fail
  cases h2 : rNum 6 ((lst s).drop i1) with
  | none =>
    have CN := Lib.hid (numN (g := g) (kk := 6) (k := 6) hs rfl (by omega) (by omega) (show i1 ≤ s.size by omega) h2)
    unfold NumN at CN
    go_wp2_with (((with_reducible refine (CN.out _ hr).mono ?_); rintro e wn ⟨rfl, ha⟩; replace hw0 := hw0.trans ha; clear ha))
    have hnone : rRec ((lst s).drop i0) = none := by simp [rRec, rIf, txnB, passB, hkeyB, hvalB, pairsB, h1, h2]
    exact ⟨rfl, by rw [hnone]; exact ⟨3, rfl, hw0⟩⟩
  | some vt =>
    obtain ⟨t, tt⟩ := vt
    obtain ⟨i2, hji2, hj'i2, rfl⟩ := num_step h2 (show i1 ≤ s.size by omega)
    have C2 := Lib.hid (numC (g := g) (kk := 6) (k := 6) hs rfl (by omega) (by omega) (show i1 ≤ s.size by omega) hji2 h2)
    unfold NumC at C2
    go_upto_region 7 with (((with_reducible refine (C2.out _ hr).mono ?_); rintro e wn ⟨rfl, hr1, ha⟩; clear hr; have hr := hr1; clear hr1; replace rx := rx.allBut ha (by omega); replace r2 := r2.allBut ha (by omega); replace rh := rh.allBut ha (by omega); replace hw0 := hw0.trans ha; clear ha; clear x0 x1 x2 x3 x4 x5 x6 x7 z0 z1 z2 z3 z4 z5 z6 z7 y0 y1 y2 y3 y4; obtain ⟨x0, x1, x2, x3, x4, x5, x6, x7, z0, z1, z2, z3, z4, z5, z6, z7⟩ := rx.c8; obtain ⟨y0, y1, y2, y3, y4, -⟩ := rh.c5))
    clear x0 x1 x2 x3 x4 x5 x6 x7 z0 z1 z2 z3 z4 z5 z6 z7 y0 y1 y2 y3 y4
    replace rx := rx.set 1 (.int .i64 t) (by simp)
    replace rh := rh.other gx 1 (.int .i64 t) (by omega)
    replace r2 := r2.other gx 1 (.int .i64 t) (by omega)
    replace hr := hr.other gx 1 (.int .i64 t) (by omega)
    replace hw0 := hw0.setNew gx 1 (.int .i64 t) (by omega)
    generalize World.setCell _ ⟨gx, 1, none⟩ (.int .i64 t) = wn at *
    simp only [List.set_cons_zero, List.set_cons_succ] at rx
    obtain ⟨x0, x1, x2, x3, x4, x5, x6, x7, z0, z1, z2, z3, z4, z5, z6, z7⟩ := rx.c8
    obtain ⟨y0, y1, y2, y3, y4, -⟩ := rh.c5
    go_upto_region 18 with fail
    obtain ⟨a0, a1, a2, a3, a4, a5, a6, a7, b0, b1, b2, b3, b4, b5, b6, b7⟩ := r2.c8
    go_wp2_with fail
    have hsome : rRec ((lst s).drop i0) = some (⟨1, t, ⟨#[]⟩, ⟨#[]⟩, 0, 0, 0, []⟩, (lst s).drop i2) := by simp [rRec, rIf, txnB, passB, hkeyB, hvalB, pairsB, show (⟨#[]⟩ : ByteArray) = ByteArray.empty from rfl, h1, h2]
    refine bodyPost_ret (v := .agg #[.int .i64 1, .int .i64 t, .string ⟨#[]⟩, .string ⟨#[]⟩, .int .i64 0, .int .i64 0, .int .i64 0, .slice none 0 0]) ?_ rfl ?_
    · simp [results, Try.results38, go_sem, *]
    rw [hsome]
    refine ⟨none, 0, i2, rfl, PairsAt.nil _ _, fun a ha => (by cases ha), ?_, (by omega), rfl, ?_⟩
    · repeat (refine RowAt.other ?_ _ _ _ (by omega))
      exact hr
    · repeat (refine AllBut.setNew ?_ _ _ _ (by omega))
      exact hw0
set_option maxHeartbeats 1000000 in
set_option maxRecDepth 100000 in
theorem read4 {s : ByteArray} (hs : s.size ≤ 1099511627776) {g i0 i1 : Nat} {w : World} (hi0 : i0 ≤ s.size) (hi1 : i1 = i0 + 1) (hi1' : i1 ≤ s.size) (h1 : rNum 1 ((lst s).drop i0) = some (4, (lst s).drop i1)) (hr : RowAt w g [.string s, .int .i64 (i0 : Int)]) :
    Calls Try.prog 38 #[.pointer (some ⟨g, 0, none⟩)] w (ReadPost s g w (rRec ((lst s).drop i0))) := by
  have C1 := Lib.hid (numC (g := g) (kk := 1) (k := 1) hs rfl (by omega) (by omega) hi0 (show i1 = i0 + 1 by omega) h1)
  unfold NumC at C1
  have c3 := fun w => rec_within 4 1 7 w
  rw [show inB 4 1 7 = true from rfl] at c3
  have C3 := Lib.hid c3; clear c3
  have C4 := Lib.hid rec_kinds
  have hix : ∀ w, (Instr.index 51 (.agg kindsA) (.int .i64 4)).run Try.prog w = .ok (.agg #[.bool true, .bool false, .bool false, .bool false, .bool false]) w := fun _ => by kernel_rfl
  have o1 := hr.lt
  go_enter Try.func38, Try.ntmps38
  go_upto_region 1 with fail
  have r2 : RowAt (w.alloc (.cells #[.int .i64 0, .int .i64 0, .string ⟨#[]⟩, .string ⟨#[]⟩, .int .i64 0, .int .i64 0, .int .i64 0, .slice none 0 0] 24)) w.heap.size [.int .i64 0, .int .i64 0, .string ⟨#[]⟩, .string ⟨#[]⟩, .int .i64 0, .int .i64 0, .int .i64 0, .slice none 0 0] := RowAt.made w _ _
  replace hr := hr.alloc (.cells #[.int .i64 0, .int .i64 0, .string ⟨#[]⟩, .string ⟨#[]⟩, .int .i64 0, .int .i64 0, .int .i64 0, .slice none 0 0] 24)
  have hw0 := (AllBut.refl g w).alloc (.cells #[.int .i64 0, .int .i64 0, .string ⟨#[]⟩, .string ⟨#[]⟩, .int .i64 0, .int .i64 0, .int .i64 0, .slice none 0 0] 24)
  generalize w.alloc (.cells #[.int .i64 0, .int .i64 0, .string ⟨#[]⟩, .string ⟨#[]⟩, .int .i64 0, .int .i64 0, .int .i64 0, .slice none 0 0] 24) = w2 at *
  go_upto_region 2 with ((with_reducible refine (C1.out _ hr).mono ?_); rintro e w1 ⟨rfl, hr1, ha⟩; clear hr; have hr := hr1; clear hr1; replace r2 := r2.allBut ha (by omega); replace hw0 := hw0.trans ha; clear ha)
  have o2 := r2.lt
  have rx : RowAt (w1.alloc (.cells #[.int .i64 4, .int .i64 0, .string ⟨#[]⟩, .string ⟨#[]⟩, .int .i64 0, .int .i64 0, .int .i64 0, .slice none 0 0] 24)) w1.heap.size [.int .i64 4, .int .i64 0, .string ⟨#[]⟩, .string ⟨#[]⟩, .int .i64 0, .int .i64 0, .int .i64 0, .slice none 0 0] := RowAt.made w1 _ _
  replace r2 := r2.alloc (.cells #[.int .i64 4, .int .i64 0, .string ⟨#[]⟩, .string ⟨#[]⟩, .int .i64 0, .int .i64 0, .int .i64 0, .slice none 0 0] 24)
  replace hr := hr.alloc (.cells #[.int .i64 4, .int .i64 0, .string ⟨#[]⟩, .string ⟨#[]⟩, .int .i64 0, .int .i64 0, .int .i64 0, .slice none 0 0] 24)
  replace hw0 := hw0.alloc (.cells #[.int .i64 4, .int .i64 0, .string ⟨#[]⟩, .string ⟨#[]⟩, .int .i64 0, .int .i64 0, .int .i64 0, .slice none 0 0] 24)
  generalize w1.heap.size = gx at *
  generalize w1.alloc (.cells #[.int .i64 4, .int .i64 0, .string ⟨#[]⟩, .string ⟨#[]⟩, .int .i64 0, .int .i64 0, .int .i64 0, .slice none 0 0] 24) = w3 at *
  obtain ⟨x0, -⟩ := rx.c8
  go_upto_region 4 with ((with_reducible refine (C3.out _).mono ?_); rintro e w1 ⟨rfl, rfl⟩)
  refine wp_region_two Up Up up_up (by kernel_rfl) (by kernel_rfl) (by kernel_rfl) ?_
  refine wpAnyTS_quiet 0 4 2 61 (by rfl) (by kernel_rfl) (fun _ _ _ _ _ h => h) (by kernel_rfl) (by kernel_rfl) ?_
  apply Exists.intro
  refine ⟨fun w1 hw1 => ?_, ?_⟩
  · have l0 := LaterUp.of (show w3.drew.cell? ⟨gx, 0, none⟩ = _ from x0) hw1
    have hne := laterR_ne rok_up w1
    simp only [List.drop_zero, List.take_succ_cons, List.take_zero]
    repeat (go_big_quiet_step ((go_at_call 27; with_reducible exact Calls.laterUp (C4.out _))))
    exact wpQuiet_nil rfl
  refine wpAnyTS_some 4 [] 1 (by rfl) (by kernel_rfl) (by kernel_rfl) ?_
  intro w4 h4
  refine ⟨?_, trivial⟩
  replace h4 := (Up.refl w3).drew.trans h4
  replace hr := hr.up h4; replace r2 := r2.up h4; replace rx := rx.up h4; replace hw0 := hw0.up h4
  clear x0 h4
  simp only [List.drop_succ_cons, List.drop_zero, List.take_succ_cons, List.take_zero]
  go_wp2_with fail
  refine ⟨.inr ((Up.refl w4).alloc _), ?_⟩
  have rh : RowAt (w4.alloc (.cells #[.bool false, .bool false, .bool false, .bool false, .bool false] 50)) w4.heap.size [.bool false, .bool false, .bool false, .bool false, .bool false] := RowAt.made w4 _ _
  have o3 := rx.lt
  replace hr := hr.alloc (.cells #[.bool false, .bool false, .bool false, .bool false, .bool false] 50)
  replace r2 := r2.alloc (.cells #[.bool false, .bool false, .bool false, .bool false, .bool false] 50)
  replace rx := rx.alloc (.cells #[.bool false, .bool false, .bool false, .bool false, .bool false] 50)
  replace hw0 := hw0.alloc (.cells #[.bool false, .bool false, .bool false, .bool false, .bool false] 50)
  generalize w4.heap.size = gh at *
  generalize w4.alloc (.cells #[.bool false, .bool false, .bool false, .bool false, .bool false] 50) = w5 at *
  refine wpAnyTS_some 5 [] 0 (by rfl) (by kernel_rfl) (by kernel_rfl) ?_
  intro w6 h6
  refine ⟨?_, trivial⟩
  replace hr := hr.up h6; replace r2 := r2.up h6; replace rx := rx.up h6; replace hw0 := hw0.up h6; replace rh := rh.up h6
  clear h6
  simp only [List.drop_succ_cons, List.drop_zero, List.take_succ_cons, List.take_zero]
  obtain ⟨y0, y1, y2, y3, y4, q0, q1, q2, q3, q4⟩ := rh.c5
  go_wp2_with fail
  refine ⟨.inl (by kernel_rfl), ?_⟩
  clear y0 y1 y2 y3 y4 q0 q1 q2 q3 q4
  refine wpAnyTS_done (by kernel_rfl) ?_
  intro w7 h7
  replace hr := ((((((hr.other gh 0 (.bool true) (by omega)).other gh 1 (.bool false) (by omega)).other gh 2 (.bool false) (by omega)).other gh 3 (.bool false) (by omega)).other gh 4 (.bool false) (by omega))).up h7
  replace r2 := ((((((r2.other gh 0 (.bool true) (by omega)).other gh 1 (.bool false) (by omega)).other gh 2 (.bool false) (by omega)).other gh 3 (.bool false) (by omega)).other gh 4 (.bool false) (by omega))).up h7
  replace rx := ((((((rx.other gh 0 (.bool true) (by omega)).other gh 1 (.bool false) (by omega)).other gh 2 (.bool false) (by omega)).other gh 3 (.bool false) (by omega)).other gh 4 (.bool false) (by omega))).up h7
  replace rh := ((((((rh.set 0 (.bool true) (by simp)).set 1 (.bool false) (by simp)).set 2 (.bool false) (by simp)).set 3 (.bool false) (by simp)).set 4 (.bool false) (by simp)))
  simp only [List.set_cons_zero, List.set_cons_succ] at rh
  replace rh := rh.up h7
  replace hw0 := ((((((hw0.setNew gh 0 (.bool true) (by omega)).setNew gh 1 (.bool false) (by omega)).setNew gh 2 (.bool false) (by omega)).setNew gh 3 (.bool false) (by omega)).setNew gh 4 (.bool false) (by omega))).up h7
  clear h7 hix C1 C3 C4
  obtain ⟨x0, x1, x2, x3, x4, x5, x6, x7, z0, z1, z2, z3, z4, z5, z6, z7⟩ := rx.c8
  obtain ⟨y0, y1, y2, y3, y4, -⟩ := rh.c5
  go_upto_region 6 with fail
  cases h2 : rNum 6 ((lst s).drop i1) with
  | none =>
    have CN := Lib.hid (numN (g := g) (kk := 6) (k := 6) hs rfl (by omega) (by omega) (show i1 ≤ s.size by omega) h2)
    unfold NumN at CN
    go_wp2_with (((with_reducible refine (CN.out _ hr).mono ?_); rintro e wn ⟨rfl, ha⟩; replace hw0 := hw0.trans ha; clear ha))
    have hnone : rRec ((lst s).drop i0) = none := by simp [rRec, rIf, txnB, passB, hkeyB, hvalB, pairsB, h1, h2]
    exact ⟨rfl, by rw [hnone]; exact ⟨3, rfl, hw0⟩⟩
  | some vt =>
    obtain ⟨t, tt⟩ := vt
    obtain ⟨i2, hji2, hj'i2, rfl⟩ := num_step h2 (show i1 ≤ s.size by omega)
    have C2 := Lib.hid (numC (g := g) (kk := 6) (k := 6) hs rfl (by omega) (by omega) (show i1 ≤ s.size by omega) hji2 h2)
    unfold NumC at C2
    go_upto_region 7 with (((with_reducible refine (C2.out _ hr).mono ?_); rintro e wn ⟨rfl, hr1, ha⟩; clear hr; have hr := hr1; clear hr1; replace rx := rx.allBut ha (by omega); replace r2 := r2.allBut ha (by omega); replace rh := rh.allBut ha (by omega); replace hw0 := hw0.trans ha; clear ha; clear x0 x1 x2 x3 x4 x5 x6 x7 z0 z1 z2 z3 z4 z5 z6 z7 y0 y1 y2 y3 y4; obtain ⟨x0, x1, x2, x3, x4, x5, x6, x7, z0, z1, z2, z3, z4, z5, z6, z7⟩ := rx.c8; obtain ⟨y0, y1, y2, y3, y4, -⟩ := rh.c5))
    clear x0 x1 x2 x3 x4 x5 x6 x7 z0 z1 z2 z3 z4 z5 z6 z7 y0 y1 y2 y3 y4
    replace rx := rx.set 1 (.int .i64 t) (by simp)
    replace rh := rh.other gx 1 (.int .i64 t) (by omega)
    replace r2 := r2.other gx 1 (.int .i64 t) (by omega)
    replace hr := hr.other gx 1 (.int .i64 t) (by omega)
    replace hw0 := hw0.setNew gx 1 (.int .i64 t) (by omega)
    generalize World.setCell _ ⟨gx, 1, none⟩ (.int .i64 t) = wn at *
    simp only [List.set_cons_zero, List.set_cons_succ] at rx
    obtain ⟨x0, x1, x2, x3, x4, x5, x6, x7, z0, z1, z2, z3, z4, z5, z6, z7⟩ := rx.c8
    obtain ⟨y0, y1, y2, y3, y4, -⟩ := rh.c5
    go_upto_region 18 with fail
    obtain ⟨a0, a1, a2, a3, a4, a5, a6, a7, b0, b1, b2, b3, b4, b5, b6, b7⟩ := r2.c8
    go_wp2_with fail
    have hsome : rRec ((lst s).drop i0) = some (⟨4, t, ⟨#[]⟩, ⟨#[]⟩, 0, 0, 0, []⟩, (lst s).drop i2) := by simp [rRec, rIf, txnB, passB, hkeyB, hvalB, pairsB, show (⟨#[]⟩ : ByteArray) = ByteArray.empty from rfl, h1, h2]
    refine bodyPost_ret (v := .agg #[.int .i64 4, .int .i64 t, .string ⟨#[]⟩, .string ⟨#[]⟩, .int .i64 0, .int .i64 0, .int .i64 0, .slice none 0 0]) ?_ rfl ?_
    · simp [results, Try.results38, go_sem, *]
    rw [hsome]
    refine ⟨none, 0, i2, rfl, PairsAt.nil _ _, fun a ha => (by cases ha), ?_, (by omega), rfl, ?_⟩
    · repeat (refine RowAt.other ?_ _ _ _ (by omega))
      exact hr
    · repeat (refine AllBut.setNew ?_ _ _ _ (by omega))
      exact hw0
set_option maxHeartbeats 1000000 in
set_option maxRecDepth 100000 in
theorem read5 {s : ByteArray} (hs : s.size ≤ 1099511627776) {g i0 i1 : Nat} {w : World} (hi0 : i0 ≤ s.size) (hi1 : i1 = i0 + 1) (hi1' : i1 ≤ s.size) (h1 : rNum 1 ((lst s).drop i0) = some (5, (lst s).drop i1)) (hr : RowAt w g [.string s, .int .i64 (i0 : Int)]) :
    Calls Try.prog 38 #[.pointer (some ⟨g, 0, none⟩)] w (ReadPost s g w (rRec ((lst s).drop i0))) := by
  have C1 := Lib.hid (numC (g := g) (kk := 1) (k := 1) hs rfl (by omega) (by omega) hi0 (show i1 = i0 + 1 by omega) h1)
  unfold NumC at C1
  have c3 := fun w => rec_within 5 1 7 w
  rw [show inB 5 1 7 = true from rfl] at c3
  have C3 := Lib.hid c3; clear c3
  have C4 := Lib.hid rec_kinds
  have hix : ∀ w, (Instr.index 51 (.agg kindsA) (.int .i64 5)).run Try.prog w = .ok (.agg #[.bool true, .bool false, .bool false, .bool false, .bool false]) w := fun _ => by kernel_rfl
  have o1 := hr.lt
  go_enter Try.func38, Try.ntmps38
  go_upto_region 1 with fail
  have r2 : RowAt (w.alloc (.cells #[.int .i64 0, .int .i64 0, .string ⟨#[]⟩, .string ⟨#[]⟩, .int .i64 0, .int .i64 0, .int .i64 0, .slice none 0 0] 24)) w.heap.size [.int .i64 0, .int .i64 0, .string ⟨#[]⟩, .string ⟨#[]⟩, .int .i64 0, .int .i64 0, .int .i64 0, .slice none 0 0] := RowAt.made w _ _
  replace hr := hr.alloc (.cells #[.int .i64 0, .int .i64 0, .string ⟨#[]⟩, .string ⟨#[]⟩, .int .i64 0, .int .i64 0, .int .i64 0, .slice none 0 0] 24)
  have hw0 := (AllBut.refl g w).alloc (.cells #[.int .i64 0, .int .i64 0, .string ⟨#[]⟩, .string ⟨#[]⟩, .int .i64 0, .int .i64 0, .int .i64 0, .slice none 0 0] 24)
  generalize w.alloc (.cells #[.int .i64 0, .int .i64 0, .string ⟨#[]⟩, .string ⟨#[]⟩, .int .i64 0, .int .i64 0, .int .i64 0, .slice none 0 0] 24) = w2 at *
  go_upto_region 2 with ((with_reducible refine (C1.out _ hr).mono ?_); rintro e w1 ⟨rfl, hr1, ha⟩; clear hr; have hr := hr1; clear hr1; replace r2 := r2.allBut ha (by omega); replace hw0 := hw0.trans ha; clear ha)
  have o2 := r2.lt
  have rx : RowAt (w1.alloc (.cells #[.int .i64 5, .int .i64 0, .string ⟨#[]⟩, .string ⟨#[]⟩, .int .i64 0, .int .i64 0, .int .i64 0, .slice none 0 0] 24)) w1.heap.size [.int .i64 5, .int .i64 0, .string ⟨#[]⟩, .string ⟨#[]⟩, .int .i64 0, .int .i64 0, .int .i64 0, .slice none 0 0] := RowAt.made w1 _ _
  replace r2 := r2.alloc (.cells #[.int .i64 5, .int .i64 0, .string ⟨#[]⟩, .string ⟨#[]⟩, .int .i64 0, .int .i64 0, .int .i64 0, .slice none 0 0] 24)
  replace hr := hr.alloc (.cells #[.int .i64 5, .int .i64 0, .string ⟨#[]⟩, .string ⟨#[]⟩, .int .i64 0, .int .i64 0, .int .i64 0, .slice none 0 0] 24)
  replace hw0 := hw0.alloc (.cells #[.int .i64 5, .int .i64 0, .string ⟨#[]⟩, .string ⟨#[]⟩, .int .i64 0, .int .i64 0, .int .i64 0, .slice none 0 0] 24)
  generalize w1.heap.size = gx at *
  generalize w1.alloc (.cells #[.int .i64 5, .int .i64 0, .string ⟨#[]⟩, .string ⟨#[]⟩, .int .i64 0, .int .i64 0, .int .i64 0, .slice none 0 0] 24) = w3 at *
  obtain ⟨x0, -⟩ := rx.c8
  go_upto_region 4 with ((with_reducible refine (C3.out _).mono ?_); rintro e w1 ⟨rfl, rfl⟩)
  refine wp_region_two Up Up up_up (by kernel_rfl) (by kernel_rfl) (by kernel_rfl) ?_
  refine wpAnyTS_quiet 0 4 2 61 (by rfl) (by kernel_rfl) (fun _ _ _ _ _ h => h) (by kernel_rfl) (by kernel_rfl) ?_
  apply Exists.intro
  refine ⟨fun w1 hw1 => ?_, ?_⟩
  · have l0 := LaterUp.of (show w3.drew.cell? ⟨gx, 0, none⟩ = _ from x0) hw1
    have hne := laterR_ne rok_up w1
    simp only [List.drop_zero, List.take_succ_cons, List.take_zero]
    repeat (go_big_quiet_step ((go_at_call 27; with_reducible exact Calls.laterUp (C4.out _))))
    exact wpQuiet_nil rfl
  refine wpAnyTS_some 4 [] 1 (by rfl) (by kernel_rfl) (by kernel_rfl) ?_
  intro w4 h4
  refine ⟨?_, trivial⟩
  replace h4 := (Up.refl w3).drew.trans h4
  replace hr := hr.up h4; replace r2 := r2.up h4; replace rx := rx.up h4; replace hw0 := hw0.up h4
  clear x0 h4
  simp only [List.drop_succ_cons, List.drop_zero, List.take_succ_cons, List.take_zero]
  go_wp2_with fail
  refine ⟨.inr ((Up.refl w4).alloc _), ?_⟩
  have rh : RowAt (w4.alloc (.cells #[.bool false, .bool false, .bool false, .bool false, .bool false] 50)) w4.heap.size [.bool false, .bool false, .bool false, .bool false, .bool false] := RowAt.made w4 _ _
  have o3 := rx.lt
  replace hr := hr.alloc (.cells #[.bool false, .bool false, .bool false, .bool false, .bool false] 50)
  replace r2 := r2.alloc (.cells #[.bool false, .bool false, .bool false, .bool false, .bool false] 50)
  replace rx := rx.alloc (.cells #[.bool false, .bool false, .bool false, .bool false, .bool false] 50)
  replace hw0 := hw0.alloc (.cells #[.bool false, .bool false, .bool false, .bool false, .bool false] 50)
  generalize w4.heap.size = gh at *
  generalize w4.alloc (.cells #[.bool false, .bool false, .bool false, .bool false, .bool false] 50) = w5 at *
  refine wpAnyTS_some 5 [] 0 (by rfl) (by kernel_rfl) (by kernel_rfl) ?_
  intro w6 h6
  refine ⟨?_, trivial⟩
  replace hr := hr.up h6; replace r2 := r2.up h6; replace rx := rx.up h6; replace hw0 := hw0.up h6; replace rh := rh.up h6
  clear h6
  simp only [List.drop_succ_cons, List.drop_zero, List.take_succ_cons, List.take_zero]
  obtain ⟨y0, y1, y2, y3, y4, q0, q1, q2, q3, q4⟩ := rh.c5
  go_wp2_with fail
  refine ⟨.inl (by kernel_rfl), ?_⟩
  clear y0 y1 y2 y3 y4 q0 q1 q2 q3 q4
  refine wpAnyTS_done (by kernel_rfl) ?_
  intro w7 h7
  replace hr := ((((((hr.other gh 0 (.bool true) (by omega)).other gh 1 (.bool false) (by omega)).other gh 2 (.bool false) (by omega)).other gh 3 (.bool false) (by omega)).other gh 4 (.bool false) (by omega))).up h7
  replace r2 := ((((((r2.other gh 0 (.bool true) (by omega)).other gh 1 (.bool false) (by omega)).other gh 2 (.bool false) (by omega)).other gh 3 (.bool false) (by omega)).other gh 4 (.bool false) (by omega))).up h7
  replace rx := ((((((rx.other gh 0 (.bool true) (by omega)).other gh 1 (.bool false) (by omega)).other gh 2 (.bool false) (by omega)).other gh 3 (.bool false) (by omega)).other gh 4 (.bool false) (by omega))).up h7
  replace rh := ((((((rh.set 0 (.bool true) (by simp)).set 1 (.bool false) (by simp)).set 2 (.bool false) (by simp)).set 3 (.bool false) (by simp)).set 4 (.bool false) (by simp)))
  simp only [List.set_cons_zero, List.set_cons_succ] at rh
  replace rh := rh.up h7
  replace hw0 := ((((((hw0.setNew gh 0 (.bool true) (by omega)).setNew gh 1 (.bool false) (by omega)).setNew gh 2 (.bool false) (by omega)).setNew gh 3 (.bool false) (by omega)).setNew gh 4 (.bool false) (by omega))).up h7
  clear h7 hix C1 C3 C4
  obtain ⟨x0, x1, x2, x3, x4, x5, x6, x7, z0, z1, z2, z3, z4, z5, z6, z7⟩ := rx.c8
  obtain ⟨y0, y1, y2, y3, y4, -⟩ := rh.c5
  go_upto_region 6 with fail
  cases h2 : rNum 6 ((lst s).drop i1) with
  | none =>
    have CN := Lib.hid (numN (g := g) (kk := 6) (k := 6) hs rfl (by omega) (by omega) (show i1 ≤ s.size by omega) h2)
    unfold NumN at CN
    go_wp2_with (((with_reducible refine (CN.out _ hr).mono ?_); rintro e wn ⟨rfl, ha⟩; replace hw0 := hw0.trans ha; clear ha))
    have hnone : rRec ((lst s).drop i0) = none := by simp [rRec, rIf, txnB, passB, hkeyB, hvalB, pairsB, h1, h2]
    exact ⟨rfl, by rw [hnone]; exact ⟨3, rfl, hw0⟩⟩
  | some vt =>
    obtain ⟨t, tt⟩ := vt
    obtain ⟨i2, hji2, hj'i2, rfl⟩ := num_step h2 (show i1 ≤ s.size by omega)
    have C2 := Lib.hid (numC (g := g) (kk := 6) (k := 6) hs rfl (by omega) (by omega) (show i1 ≤ s.size by omega) hji2 h2)
    unfold NumC at C2
    go_upto_region 7 with (((with_reducible refine (C2.out _ hr).mono ?_); rintro e wn ⟨rfl, hr1, ha⟩; clear hr; have hr := hr1; clear hr1; replace rx := rx.allBut ha (by omega); replace r2 := r2.allBut ha (by omega); replace rh := rh.allBut ha (by omega); replace hw0 := hw0.trans ha; clear ha; clear x0 x1 x2 x3 x4 x5 x6 x7 z0 z1 z2 z3 z4 z5 z6 z7 y0 y1 y2 y3 y4; obtain ⟨x0, x1, x2, x3, x4, x5, x6, x7, z0, z1, z2, z3, z4, z5, z6, z7⟩ := rx.c8; obtain ⟨y0, y1, y2, y3, y4, -⟩ := rh.c5))
    clear x0 x1 x2 x3 x4 x5 x6 x7 z0 z1 z2 z3 z4 z5 z6 z7 y0 y1 y2 y3 y4
    replace rx := rx.set 1 (.int .i64 t) (by simp)
    replace rh := rh.other gx 1 (.int .i64 t) (by omega)
    replace r2 := r2.other gx 1 (.int .i64 t) (by omega)
    replace hr := hr.other gx 1 (.int .i64 t) (by omega)
    replace hw0 := hw0.setNew gx 1 (.int .i64 t) (by omega)
    generalize World.setCell _ ⟨gx, 1, none⟩ (.int .i64 t) = wn at *
    simp only [List.set_cons_zero, List.set_cons_succ] at rx
    obtain ⟨x0, x1, x2, x3, x4, x5, x6, x7, z0, z1, z2, z3, z4, z5, z6, z7⟩ := rx.c8
    obtain ⟨y0, y1, y2, y3, y4, -⟩ := rh.c5
    go_upto_region 18 with fail
    obtain ⟨a0, a1, a2, a3, a4, a5, a6, a7, b0, b1, b2, b3, b4, b5, b6, b7⟩ := r2.c8
    go_wp2_with fail
    have hsome : rRec ((lst s).drop i0) = some (⟨5, t, ⟨#[]⟩, ⟨#[]⟩, 0, 0, 0, []⟩, (lst s).drop i2) := by simp [rRec, rIf, txnB, passB, hkeyB, hvalB, pairsB, show (⟨#[]⟩ : ByteArray) = ByteArray.empty from rfl, h1, h2]
    refine bodyPost_ret (v := .agg #[.int .i64 5, .int .i64 t, .string ⟨#[]⟩, .string ⟨#[]⟩, .int .i64 0, .int .i64 0, .int .i64 0, .slice none 0 0]) ?_ rfl ?_
    · simp [results, Try.results38, go_sem, *]
    rw [hsome]
    refine ⟨none, 0, i2, rfl, PairsAt.nil _ _, fun a ha => (by cases ha), ?_, (by omega), rfl, ?_⟩
    · repeat (refine RowAt.other ?_ _ _ _ (by omega))
      exact hr
    · repeat (refine AllBut.setNew ?_ _ _ _ (by omega))
      exact hw0
set_option maxHeartbeats 1000000 in
set_option maxRecDepth 100000 in
theorem read3 {s : ByteArray} (hs : s.size ≤ 1099511627776) {g i0 i1 : Nat} {w : World} (hi0 : i0 ≤ s.size) (hi1 : i1 = i0 + 1) (hi1' : i1 ≤ s.size) (h1 : rNum 1 ((lst s).drop i0) = some (3, (lst s).drop i1)) (hr : RowAt w g [.string s, .int .i64 (i0 : Int)]) :
    Calls Try.prog 38 #[.pointer (some ⟨g, 0, none⟩)] w (ReadPost s g w (rRec ((lst s).drop i0))) := by
  have C1 := Lib.hid (numC (g := g) (kk := 1) (k := 1) hs rfl (by omega) (by omega) hi0 (show i1 = i0 + 1 by omega) h1)
  unfold NumC at C1
  have c3 := fun w => rec_within 3 1 7 w
  rw [show inB 3 1 7 = true from rfl] at c3
  have C3 := Lib.hid c3; clear c3
  have C4 := Lib.hid rec_kinds
  have hix : ∀ w, (Instr.index 51 (.agg kindsA) (.int .i64 3)).run Try.prog w = .ok (.agg #[.bool true, .bool true, .bool false, .bool false, .bool false]) w := fun _ => by kernel_rfl
  have o1 := hr.lt
  go_enter Try.func38, Try.ntmps38
  go_upto_region 1 with fail
  have r2 : RowAt (w.alloc (.cells #[.int .i64 0, .int .i64 0, .string ⟨#[]⟩, .string ⟨#[]⟩, .int .i64 0, .int .i64 0, .int .i64 0, .slice none 0 0] 24)) w.heap.size [.int .i64 0, .int .i64 0, .string ⟨#[]⟩, .string ⟨#[]⟩, .int .i64 0, .int .i64 0, .int .i64 0, .slice none 0 0] := RowAt.made w _ _
  replace hr := hr.alloc (.cells #[.int .i64 0, .int .i64 0, .string ⟨#[]⟩, .string ⟨#[]⟩, .int .i64 0, .int .i64 0, .int .i64 0, .slice none 0 0] 24)
  have hw0 := (AllBut.refl g w).alloc (.cells #[.int .i64 0, .int .i64 0, .string ⟨#[]⟩, .string ⟨#[]⟩, .int .i64 0, .int .i64 0, .int .i64 0, .slice none 0 0] 24)
  generalize w.alloc (.cells #[.int .i64 0, .int .i64 0, .string ⟨#[]⟩, .string ⟨#[]⟩, .int .i64 0, .int .i64 0, .int .i64 0, .slice none 0 0] 24) = w2 at *
  go_upto_region 2 with ((with_reducible refine (C1.out _ hr).mono ?_); rintro e w1 ⟨rfl, hr1, ha⟩; clear hr; have hr := hr1; clear hr1; replace r2 := r2.allBut ha (by omega); replace hw0 := hw0.trans ha; clear ha)
  have o2 := r2.lt
  have rx : RowAt (w1.alloc (.cells #[.int .i64 3, .int .i64 0, .string ⟨#[]⟩, .string ⟨#[]⟩, .int .i64 0, .int .i64 0, .int .i64 0, .slice none 0 0] 24)) w1.heap.size [.int .i64 3, .int .i64 0, .string ⟨#[]⟩, .string ⟨#[]⟩, .int .i64 0, .int .i64 0, .int .i64 0, .slice none 0 0] := RowAt.made w1 _ _
  replace r2 := r2.alloc (.cells #[.int .i64 3, .int .i64 0, .string ⟨#[]⟩, .string ⟨#[]⟩, .int .i64 0, .int .i64 0, .int .i64 0, .slice none 0 0] 24)
  replace hr := hr.alloc (.cells #[.int .i64 3, .int .i64 0, .string ⟨#[]⟩, .string ⟨#[]⟩, .int .i64 0, .int .i64 0, .int .i64 0, .slice none 0 0] 24)
  replace hw0 := hw0.alloc (.cells #[.int .i64 3, .int .i64 0, .string ⟨#[]⟩, .string ⟨#[]⟩, .int .i64 0, .int .i64 0, .int .i64 0, .slice none 0 0] 24)
  generalize w1.heap.size = gx at *
  generalize w1.alloc (.cells #[.int .i64 3, .int .i64 0, .string ⟨#[]⟩, .string ⟨#[]⟩, .int .i64 0, .int .i64 0, .int .i64 0, .slice none 0 0] 24) = w3 at *
  obtain ⟨x0, -⟩ := rx.c8
  go_upto_region 4 with ((with_reducible refine (C3.out _).mono ?_); rintro e w1 ⟨rfl, rfl⟩)
  refine wp_region_two Up Up up_up (by kernel_rfl) (by kernel_rfl) (by kernel_rfl) ?_
  refine wpAnyTS_quiet 0 4 2 61 (by rfl) (by kernel_rfl) (fun _ _ _ _ _ h => h) (by kernel_rfl) (by kernel_rfl) ?_
  apply Exists.intro
  refine ⟨fun w1 hw1 => ?_, ?_⟩
  · have l0 := LaterUp.of (show w3.drew.cell? ⟨gx, 0, none⟩ = _ from x0) hw1
    have hne := laterR_ne rok_up w1
    simp only [List.drop_zero, List.take_succ_cons, List.take_zero]
    repeat (go_big_quiet_step ((go_at_call 27; with_reducible exact Calls.laterUp (C4.out _))))
    exact wpQuiet_nil rfl
  refine wpAnyTS_some 4 [] 1 (by rfl) (by kernel_rfl) (by kernel_rfl) ?_
  intro w4 h4
  refine ⟨?_, trivial⟩
  replace h4 := (Up.refl w3).drew.trans h4
  replace hr := hr.up h4; replace r2 := r2.up h4; replace rx := rx.up h4; replace hw0 := hw0.up h4
  clear x0 h4
  simp only [List.drop_succ_cons, List.drop_zero, List.take_succ_cons, List.take_zero]
  go_wp2_with fail
  refine ⟨.inr ((Up.refl w4).alloc _), ?_⟩
  have rh : RowAt (w4.alloc (.cells #[.bool false, .bool false, .bool false, .bool false, .bool false] 50)) w4.heap.size [.bool false, .bool false, .bool false, .bool false, .bool false] := RowAt.made w4 _ _
  have o3 := rx.lt
  replace hr := hr.alloc (.cells #[.bool false, .bool false, .bool false, .bool false, .bool false] 50)
  replace r2 := r2.alloc (.cells #[.bool false, .bool false, .bool false, .bool false, .bool false] 50)
  replace rx := rx.alloc (.cells #[.bool false, .bool false, .bool false, .bool false, .bool false] 50)
  replace hw0 := hw0.alloc (.cells #[.bool false, .bool false, .bool false, .bool false, .bool false] 50)
  generalize w4.heap.size = gh at *
  generalize w4.alloc (.cells #[.bool false, .bool false, .bool false, .bool false, .bool false] 50) = w5 at *
  refine wpAnyTS_some 5 [] 0 (by rfl) (by kernel_rfl) (by kernel_rfl) ?_
  intro w6 h6
  refine ⟨?_, trivial⟩
  replace hr := hr.up h6; replace r2 := r2.up h6; replace rx := rx.up h6; replace hw0 := hw0.up h6; replace rh := rh.up h6
  clear h6
  simp only [List.drop_succ_cons, List.drop_zero, List.take_succ_cons, List.take_zero]
  obtain ⟨y0, y1, y2, y3, y4, q0, q1, q2, q3, q4⟩ := rh.c5
  go_wp2_with fail
  refine ⟨.inl (by kernel_rfl), ?_⟩
  clear y0 y1 y2 y3 y4 q0 q1 q2 q3 q4
  refine wpAnyTS_done (by kernel_rfl) ?_
  intro w7 h7
  replace hr := ((((((hr.other gh 0 (.bool true) (by omega)).other gh 1 (.bool true) (by omega)).other gh 2 (.bool false) (by omega)).other gh 3 (.bool false) (by omega)).other gh 4 (.bool false) (by omega))).up h7
  replace r2 := ((((((r2.other gh 0 (.bool true) (by omega)).other gh 1 (.bool true) (by omega)).other gh 2 (.bool false) (by omega)).other gh 3 (.bool false) (by omega)).other gh 4 (.bool false) (by omega))).up h7
  replace rx := ((((((rx.other gh 0 (.bool true) (by omega)).other gh 1 (.bool true) (by omega)).other gh 2 (.bool false) (by omega)).other gh 3 (.bool false) (by omega)).other gh 4 (.bool false) (by omega))).up h7
  replace rh := ((((((rh.set 0 (.bool true) (by simp)).set 1 (.bool true) (by simp)).set 2 (.bool false) (by simp)).set 3 (.bool false) (by simp)).set 4 (.bool false) (by simp)))
  simp only [List.set_cons_zero, List.set_cons_succ] at rh
  replace rh := rh.up h7
  replace hw0 := ((((((hw0.setNew gh 0 (.bool true) (by omega)).setNew gh 1 (.bool true) (by omega)).setNew gh 2 (.bool false) (by omega)).setNew gh 3 (.bool false) (by omega)).setNew gh 4 (.bool false) (by omega))).up h7
  clear h7 hix C1 C3 C4
  obtain ⟨x0, x1, x2, x3, x4, x5, x6, x7, z0, z1, z2, z3, z4, z5, z6, z7⟩ := rx.c8
  obtain ⟨y0, y1, y2, y3, y4, -⟩ := rh.c5
  go_upto_region 6 with fail
  cases h2 : rNum 6 ((lst s).drop i1) with
  | none =>
    have CN := Lib.hid (numN (g := g) (kk := 6) (k := 6) hs rfl (by omega) (by omega) (show i1 ≤ s.size by omega) h2)
    unfold NumN at CN
    go_wp2_with (((with_reducible refine (CN.out _ hr).mono ?_); rintro e wn ⟨rfl, ha⟩; replace hw0 := hw0.trans ha; clear ha))
    have hnone : rRec ((lst s).drop i0) = none := by simp [rRec, rIf, txnB, passB, hkeyB, hvalB, pairsB, h1, h2]
    exact ⟨rfl, by rw [hnone]; exact ⟨3, rfl, hw0⟩⟩
  | some vt =>
    obtain ⟨t, tt⟩ := vt
    obtain ⟨i2, hji2, hj'i2, rfl⟩ := num_step h2 (show i1 ≤ s.size by omega)
    have C2 := Lib.hid (numC (g := g) (kk := 6) (k := 6) hs rfl (by omega) (by omega) (show i1 ≤ s.size by omega) hji2 h2)
    unfold NumC at C2
    go_upto_region 7 with (((with_reducible refine (C2.out _ hr).mono ?_); rintro e wn ⟨rfl, hr1, ha⟩; clear hr; have hr := hr1; clear hr1; replace rx := rx.allBut ha (by omega); replace r2 := r2.allBut ha (by omega); replace rh := rh.allBut ha (by omega); replace hw0 := hw0.trans ha; clear ha; clear x0 x1 x2 x3 x4 x5 x6 x7 z0 z1 z2 z3 z4 z5 z6 z7 y0 y1 y2 y3 y4; obtain ⟨x0, x1, x2, x3, x4, x5, x6, x7, z0, z1, z2, z3, z4, z5, z6, z7⟩ := rx.c8; obtain ⟨y0, y1, y2, y3, y4, -⟩ := rh.c5))
    clear x0 x1 x2 x3 x4 x5 x6 x7 z0 z1 z2 z3 z4 z5 z6 z7 y0 y1 y2 y3 y4
    replace rx := rx.set 1 (.int .i64 t) (by simp)
    replace rh := rh.other gx 1 (.int .i64 t) (by omega)
    replace r2 := r2.other gx 1 (.int .i64 t) (by omega)
    replace hr := hr.other gx 1 (.int .i64 t) (by omega)
    replace hw0 := hw0.setNew gx 1 (.int .i64 t) (by omega)
    generalize World.setCell _ ⟨gx, 1, none⟩ (.int .i64 t) = wn at *
    simp only [List.set_cons_zero, List.set_cons_succ] at rx
    obtain ⟨x0, x1, x2, x3, x4, x5, x6, x7, z0, z1, z2, z3, z4, z5, z6, z7⟩ := rx.c8
    obtain ⟨y0, y1, y2, y3, y4, -⟩ := rh.c5
    go_upto_region 10 with fail
    cases h3 : rText ((lst s).drop i2) with
    | none =>
      have CN := Lib.hid (textN (g := g) hs (show i2 ≤ s.size by omega) h3)
      unfold TextN at CN
      go_wp2_with (((with_reducible refine (CN.out _ hr).mono ?_); rintro e wn ⟨rfl, ha⟩; replace hw0 := hw0.trans ha; clear ha))
      have hnone : rRec ((lst s).drop i0) = none := by simp [rRec, rIf, txnB, passB, hkeyB, hvalB, pairsB, h1, h2, h3]
      exact ⟨rfl, by rw [hnone]; exact ⟨3, rfl, hw0⟩⟩
    | some vt =>
      obtain ⟨key, tt⟩ := vt
      obtain ⟨i3, hji3, hj'i3, rfl⟩ := text_step h3 (show i2 ≤ s.size by omega)
      have C3 := Lib.hid (textC (g := g) hs (show i2 ≤ s.size by omega) hji3 h3)
      unfold TextC at C3
      go_upto_region 11 with (((with_reducible refine (C3.out _ hr).mono ?_); rintro e wn ⟨rfl, hr1, ha⟩; clear hr; have hr := hr1; clear hr1; replace rx := rx.allBut ha (by omega); replace r2 := r2.allBut ha (by omega); replace rh := rh.allBut ha (by omega); replace hw0 := hw0.trans ha; clear ha; clear x0 x1 x2 x3 x4 x5 x6 x7 z0 z1 z2 z3 z4 z5 z6 z7 y0 y1 y2 y3 y4; obtain ⟨x0, x1, x2, x3, x4, x5, x6, x7, z0, z1, z2, z3, z4, z5, z6, z7⟩ := rx.c8; obtain ⟨y0, y1, y2, y3, y4, -⟩ := rh.c5))
      clear x0 x1 x2 x3 x4 x5 x6 x7 z0 z1 z2 z3 z4 z5 z6 z7 y0 y1 y2 y3 y4
      replace rx := rx.set 2 (.string key) (by simp)
      replace rh := rh.other gx 2 (.string key) (by omega)
      replace r2 := r2.other gx 2 (.string key) (by omega)
      replace hr := hr.other gx 2 (.string key) (by omega)
      replace hw0 := hw0.setNew gx 2 (.string key) (by omega)
      generalize World.setCell _ ⟨gx, 2, none⟩ (.string key) = wn at *
      simp only [List.set_cons_zero, List.set_cons_succ] at rx
      obtain ⟨x0, x1, x2, x3, x4, x5, x6, x7, z0, z1, z2, z3, z4, z5, z6, z7⟩ := rx.c8
      obtain ⟨y0, y1, y2, y3, y4, -⟩ := rh.c5
      go_upto_region 18 with fail
      obtain ⟨a0, a1, a2, a3, a4, a5, a6, a7, b0, b1, b2, b3, b4, b5, b6, b7⟩ := r2.c8
      go_wp2_with fail
      have hsome : rRec ((lst s).drop i0) = some (⟨3, t, key, ⟨#[]⟩, 0, 0, 0, []⟩, (lst s).drop i3) := by simp [rRec, rIf, txnB, passB, hkeyB, hvalB, pairsB, show (⟨#[]⟩ : ByteArray) = ByteArray.empty from rfl, h1, h2, h3]
      refine bodyPost_ret (v := .agg #[.int .i64 3, .int .i64 t, .string key, .string ⟨#[]⟩, .int .i64 0, .int .i64 0, .int .i64 0, .slice none 0 0]) ?_ rfl ?_
      · simp [results, Try.results38, go_sem, *]
      rw [hsome]
      refine ⟨none, 0, i3, rfl, PairsAt.nil _ _, fun a ha => (by cases ha), ?_, (by omega), rfl, ?_⟩
      · repeat (refine RowAt.other ?_ _ _ _ (by omega))
        exact hr
      · repeat (refine AllBut.setNew ?_ _ _ _ (by omega))
        exact hw0
set_option maxHeartbeats 1000000 in
set_option maxRecDepth 100000 in
theorem read2 {s : ByteArray} (hs : s.size ≤ 1099511627776) {g i0 i1 : Nat} {w : World} (hi0 : i0 ≤ s.size) (hi1 : i1 = i0 + 1) (hi1' : i1 ≤ s.size) (h1 : rNum 1 ((lst s).drop i0) = some (2, (lst s).drop i1)) (hr : RowAt w g [.string s, .int .i64 (i0 : Int)]) :
    Calls Try.prog 38 #[.pointer (some ⟨g, 0, none⟩)] w (ReadPost s g w (rRec ((lst s).drop i0))) := by
  have C1 := Lib.hid (numC (g := g) (kk := 1) (k := 1) hs rfl (by omega) (by omega) hi0 (show i1 = i0 + 1 by omega) h1)
  unfold NumC at C1
  have c3 := fun w => rec_within 2 1 7 w
  rw [show inB 2 1 7 = true from rfl] at c3
  have C3 := Lib.hid c3; clear c3
  have C4 := Lib.hid rec_kinds
  have hix : ∀ w, (Instr.index 51 (.agg kindsA) (.int .i64 2)).run Try.prog w = .ok (.agg #[.bool true, .bool true, .bool true, .bool false, .bool false]) w := fun _ => by kernel_rfl
  have o1 := hr.lt
  go_enter Try.func38, Try.ntmps38
  go_upto_region 1 with fail
  have r2 : RowAt (w.alloc (.cells #[.int .i64 0, .int .i64 0, .string ⟨#[]⟩, .string ⟨#[]⟩, .int .i64 0, .int .i64 0, .int .i64 0, .slice none 0 0] 24)) w.heap.size [.int .i64 0, .int .i64 0, .string ⟨#[]⟩, .string ⟨#[]⟩, .int .i64 0, .int .i64 0, .int .i64 0, .slice none 0 0] := RowAt.made w _ _
  replace hr := hr.alloc (.cells #[.int .i64 0, .int .i64 0, .string ⟨#[]⟩, .string ⟨#[]⟩, .int .i64 0, .int .i64 0, .int .i64 0, .slice none 0 0] 24)
  have hw0 := (AllBut.refl g w).alloc (.cells #[.int .i64 0, .int .i64 0, .string ⟨#[]⟩, .string ⟨#[]⟩, .int .i64 0, .int .i64 0, .int .i64 0, .slice none 0 0] 24)
  generalize w.alloc (.cells #[.int .i64 0, .int .i64 0, .string ⟨#[]⟩, .string ⟨#[]⟩, .int .i64 0, .int .i64 0, .int .i64 0, .slice none 0 0] 24) = w2 at *
  go_upto_region 2 with ((with_reducible refine (C1.out _ hr).mono ?_); rintro e w1 ⟨rfl, hr1, ha⟩; clear hr; have hr := hr1; clear hr1; replace r2 := r2.allBut ha (by omega); replace hw0 := hw0.trans ha; clear ha)
  have o2 := r2.lt
  have rx : RowAt (w1.alloc (.cells #[.int .i64 2, .int .i64 0, .string ⟨#[]⟩, .string ⟨#[]⟩, .int .i64 0, .int .i64 0, .int .i64 0, .slice none 0 0] 24)) w1.heap.size [.int .i64 2, .int .i64 0, .string ⟨#[]⟩, .string ⟨#[]⟩, .int .i64 0, .int .i64 0, .int .i64 0, .slice none 0 0] := RowAt.made w1 _ _
  replace r2 := r2.alloc (.cells #[.int .i64 2, .int .i64 0, .string ⟨#[]⟩, .string ⟨#[]⟩, .int .i64 0, .int .i64 0, .int .i64 0, .slice none 0 0] 24)
  replace hr := hr.alloc (.cells #[.int .i64 2, .int .i64 0, .string ⟨#[]⟩, .string ⟨#[]⟩, .int .i64 0, .int .i64 0, .int .i64 0, .slice none 0 0] 24)
  replace hw0 := hw0.alloc (.cells #[.int .i64 2, .int .i64 0, .string ⟨#[]⟩, .string ⟨#[]⟩, .int .i64 0, .int .i64 0, .int .i64 0, .slice none 0 0] 24)
  generalize w1.heap.size = gx at *
  generalize w1.alloc (.cells #[.int .i64 2, .int .i64 0, .string ⟨#[]⟩, .string ⟨#[]⟩, .int .i64 0, .int .i64 0, .int .i64 0, .slice none 0 0] 24) = w3 at *
  obtain ⟨x0, -⟩ := rx.c8
  go_upto_region 4 with ((with_reducible refine (C3.out _).mono ?_); rintro e w1 ⟨rfl, rfl⟩)
  refine wp_region_two Up Up up_up (by kernel_rfl) (by kernel_rfl) (by kernel_rfl) ?_
  refine wpAnyTS_quiet 0 4 2 61 (by rfl) (by kernel_rfl) (fun _ _ _ _ _ h => h) (by kernel_rfl) (by kernel_rfl) ?_
  apply Exists.intro
  refine ⟨fun w1 hw1 => ?_, ?_⟩
  · have l0 := LaterUp.of (show w3.drew.cell? ⟨gx, 0, none⟩ = _ from x0) hw1
    have hne := laterR_ne rok_up w1
    simp only [List.drop_zero, List.take_succ_cons, List.take_zero]
    repeat (go_big_quiet_step ((go_at_call 27; with_reducible exact Calls.laterUp (C4.out _))))
    exact wpQuiet_nil rfl
  refine wpAnyTS_some 4 [] 1 (by rfl) (by kernel_rfl) (by kernel_rfl) ?_
  intro w4 h4
  refine ⟨?_, trivial⟩
  replace h4 := (Up.refl w3).drew.trans h4
  replace hr := hr.up h4; replace r2 := r2.up h4; replace rx := rx.up h4; replace hw0 := hw0.up h4
  clear x0 h4
  simp only [List.drop_succ_cons, List.drop_zero, List.take_succ_cons, List.take_zero]
  go_wp2_with fail
  refine ⟨.inr ((Up.refl w4).alloc _), ?_⟩
  have rh : RowAt (w4.alloc (.cells #[.bool false, .bool false, .bool false, .bool false, .bool false] 50)) w4.heap.size [.bool false, .bool false, .bool false, .bool false, .bool false] := RowAt.made w4 _ _
  have o3 := rx.lt
  replace hr := hr.alloc (.cells #[.bool false, .bool false, .bool false, .bool false, .bool false] 50)
  replace r2 := r2.alloc (.cells #[.bool false, .bool false, .bool false, .bool false, .bool false] 50)
  replace rx := rx.alloc (.cells #[.bool false, .bool false, .bool false, .bool false, .bool false] 50)
  replace hw0 := hw0.alloc (.cells #[.bool false, .bool false, .bool false, .bool false, .bool false] 50)
  generalize w4.heap.size = gh at *
  generalize w4.alloc (.cells #[.bool false, .bool false, .bool false, .bool false, .bool false] 50) = w5 at *
  refine wpAnyTS_some 5 [] 0 (by rfl) (by kernel_rfl) (by kernel_rfl) ?_
  intro w6 h6
  refine ⟨?_, trivial⟩
  replace hr := hr.up h6; replace r2 := r2.up h6; replace rx := rx.up h6; replace hw0 := hw0.up h6; replace rh := rh.up h6
  clear h6
  simp only [List.drop_succ_cons, List.drop_zero, List.take_succ_cons, List.take_zero]
  obtain ⟨y0, y1, y2, y3, y4, q0, q1, q2, q3, q4⟩ := rh.c5
  go_wp2_with fail
  refine ⟨.inl (by kernel_rfl), ?_⟩
  clear y0 y1 y2 y3 y4 q0 q1 q2 q3 q4
  refine wpAnyTS_done (by kernel_rfl) ?_
  intro w7 h7
  replace hr := ((((((hr.other gh 0 (.bool true) (by omega)).other gh 1 (.bool true) (by omega)).other gh 2 (.bool true) (by omega)).other gh 3 (.bool false) (by omega)).other gh 4 (.bool false) (by omega))).up h7
  replace r2 := ((((((r2.other gh 0 (.bool true) (by omega)).other gh 1 (.bool true) (by omega)).other gh 2 (.bool true) (by omega)).other gh 3 (.bool false) (by omega)).other gh 4 (.bool false) (by omega))).up h7
  replace rx := ((((((rx.other gh 0 (.bool true) (by omega)).other gh 1 (.bool true) (by omega)).other gh 2 (.bool true) (by omega)).other gh 3 (.bool false) (by omega)).other gh 4 (.bool false) (by omega))).up h7
  replace rh := ((((((rh.set 0 (.bool true) (by simp)).set 1 (.bool true) (by simp)).set 2 (.bool true) (by simp)).set 3 (.bool false) (by simp)).set 4 (.bool false) (by simp)))
  simp only [List.set_cons_zero, List.set_cons_succ] at rh
  replace rh := rh.up h7
  replace hw0 := ((((((hw0.setNew gh 0 (.bool true) (by omega)).setNew gh 1 (.bool true) (by omega)).setNew gh 2 (.bool true) (by omega)).setNew gh 3 (.bool false) (by omega)).setNew gh 4 (.bool false) (by omega))).up h7
  clear h7 hix C1 C3 C4
  obtain ⟨x0, x1, x2, x3, x4, x5, x6, x7, z0, z1, z2, z3, z4, z5, z6, z7⟩ := rx.c8
  obtain ⟨y0, y1, y2, y3, y4, -⟩ := rh.c5
  go_upto_region 6 with fail
  cases h2 : rNum 6 ((lst s).drop i1) with
  | none =>
    have CN := Lib.hid (numN (g := g) (kk := 6) (k := 6) hs rfl (by omega) (by omega) (show i1 ≤ s.size by omega) h2)
    unfold NumN at CN
    go_wp2_with (((with_reducible refine (CN.out _ hr).mono ?_); rintro e wn ⟨rfl, ha⟩; replace hw0 := hw0.trans ha; clear ha))
    have hnone : rRec ((lst s).drop i0) = none := by simp [rRec, rIf, txnB, passB, hkeyB, hvalB, pairsB, h1, h2]
    exact ⟨rfl, by rw [hnone]; exact ⟨3, rfl, hw0⟩⟩
  | some vt =>
    obtain ⟨t, tt⟩ := vt
    obtain ⟨i2, hji2, hj'i2, rfl⟩ := num_step h2 (show i1 ≤ s.size by omega)
    have C2 := Lib.hid (numC (g := g) (kk := 6) (k := 6) hs rfl (by omega) (by omega) (show i1 ≤ s.size by omega) hji2 h2)
    unfold NumC at C2
    go_upto_region 7 with (((with_reducible refine (C2.out _ hr).mono ?_); rintro e wn ⟨rfl, hr1, ha⟩; clear hr; have hr := hr1; clear hr1; replace rx := rx.allBut ha (by omega); replace r2 := r2.allBut ha (by omega); replace rh := rh.allBut ha (by omega); replace hw0 := hw0.trans ha; clear ha; clear x0 x1 x2 x3 x4 x5 x6 x7 z0 z1 z2 z3 z4 z5 z6 z7 y0 y1 y2 y3 y4; obtain ⟨x0, x1, x2, x3, x4, x5, x6, x7, z0, z1, z2, z3, z4, z5, z6, z7⟩ := rx.c8; obtain ⟨y0, y1, y2, y3, y4, -⟩ := rh.c5))
    clear x0 x1 x2 x3 x4 x5 x6 x7 z0 z1 z2 z3 z4 z5 z6 z7 y0 y1 y2 y3 y4
    replace rx := rx.set 1 (.int .i64 t) (by simp)
    replace rh := rh.other gx 1 (.int .i64 t) (by omega)
    replace r2 := r2.other gx 1 (.int .i64 t) (by omega)
    replace hr := hr.other gx 1 (.int .i64 t) (by omega)
    replace hw0 := hw0.setNew gx 1 (.int .i64 t) (by omega)
    generalize World.setCell _ ⟨gx, 1, none⟩ (.int .i64 t) = wn at *
    simp only [List.set_cons_zero, List.set_cons_succ] at rx
    obtain ⟨x0, x1, x2, x3, x4, x5, x6, x7, z0, z1, z2, z3, z4, z5, z6, z7⟩ := rx.c8
    obtain ⟨y0, y1, y2, y3, y4, -⟩ := rh.c5
    go_upto_region 10 with fail
    cases h3 : rText ((lst s).drop i2) with
    | none =>
      have CN := Lib.hid (textN (g := g) hs (show i2 ≤ s.size by omega) h3)
      unfold TextN at CN
      go_wp2_with (((with_reducible refine (CN.out _ hr).mono ?_); rintro e wn ⟨rfl, ha⟩; replace hw0 := hw0.trans ha; clear ha))
      have hnone : rRec ((lst s).drop i0) = none := by simp [rRec, rIf, txnB, passB, hkeyB, hvalB, pairsB, h1, h2, h3]
      exact ⟨rfl, by rw [hnone]; exact ⟨3, rfl, hw0⟩⟩
    | some vt =>
      obtain ⟨key, tt⟩ := vt
      obtain ⟨i3, hji3, hj'i3, rfl⟩ := text_step h3 (show i2 ≤ s.size by omega)
      have C3 := Lib.hid (textC (g := g) hs (show i2 ≤ s.size by omega) hji3 h3)
      unfold TextC at C3
      go_upto_region 11 with (((with_reducible refine (C3.out _ hr).mono ?_); rintro e wn ⟨rfl, hr1, ha⟩; clear hr; have hr := hr1; clear hr1; replace rx := rx.allBut ha (by omega); replace r2 := r2.allBut ha (by omega); replace rh := rh.allBut ha (by omega); replace hw0 := hw0.trans ha; clear ha; clear x0 x1 x2 x3 x4 x5 x6 x7 z0 z1 z2 z3 z4 z5 z6 z7 y0 y1 y2 y3 y4; obtain ⟨x0, x1, x2, x3, x4, x5, x6, x7, z0, z1, z2, z3, z4, z5, z6, z7⟩ := rx.c8; obtain ⟨y0, y1, y2, y3, y4, -⟩ := rh.c5))
      clear x0 x1 x2 x3 x4 x5 x6 x7 z0 z1 z2 z3 z4 z5 z6 z7 y0 y1 y2 y3 y4
      replace rx := rx.set 2 (.string key) (by simp)
      replace rh := rh.other gx 2 (.string key) (by omega)
      replace r2 := r2.other gx 2 (.string key) (by omega)
      replace hr := hr.other gx 2 (.string key) (by omega)
      replace hw0 := hw0.setNew gx 2 (.string key) (by omega)
      generalize World.setCell _ ⟨gx, 2, none⟩ (.string key) = wn at *
      simp only [List.set_cons_zero, List.set_cons_succ] at rx
      obtain ⟨x0, x1, x2, x3, x4, x5, x6, x7, z0, z1, z2, z3, z4, z5, z6, z7⟩ := rx.c8
      obtain ⟨y0, y1, y2, y3, y4, -⟩ := rh.c5
      go_upto_region 12 with fail
      cases h4 : rText ((lst s).drop i3) with
      | none =>
        have CN := Lib.hid (textN (g := g) hs (show i3 ≤ s.size by omega) h4)
        unfold TextN at CN
        go_wp2_with (((with_reducible refine (CN.out _ hr).mono ?_); rintro e wn ⟨rfl, ha⟩; replace hw0 := hw0.trans ha; clear ha))
        have hnone : rRec ((lst s).drop i0) = none := by simp [rRec, rIf, txnB, passB, hkeyB, hvalB, pairsB, h1, h2, h3, h4]
        exact ⟨rfl, by rw [hnone]; exact ⟨3, rfl, hw0⟩⟩
      | some vt =>
        obtain ⟨val, tt⟩ := vt
        obtain ⟨i4, hji4, hj'i4, rfl⟩ := text_step h4 (show i3 ≤ s.size by omega)
        have C4 := Lib.hid (textC (g := g) hs (show i3 ≤ s.size by omega) hji4 h4)
        unfold TextC at C4
        go_upto_region 13 with (((with_reducible refine (C4.out _ hr).mono ?_); rintro e wn ⟨rfl, hr1, ha⟩; clear hr; have hr := hr1; clear hr1; replace rx := rx.allBut ha (by omega); replace r2 := r2.allBut ha (by omega); replace rh := rh.allBut ha (by omega); replace hw0 := hw0.trans ha; clear ha; clear x0 x1 x2 x3 x4 x5 x6 x7 z0 z1 z2 z3 z4 z5 z6 z7 y0 y1 y2 y3 y4; obtain ⟨x0, x1, x2, x3, x4, x5, x6, x7, z0, z1, z2, z3, z4, z5, z6, z7⟩ := rx.c8; obtain ⟨y0, y1, y2, y3, y4, -⟩ := rh.c5))
        clear x0 x1 x2 x3 x4 x5 x6 x7 z0 z1 z2 z3 z4 z5 z6 z7 y0 y1 y2 y3 y4
        replace rx := rx.set 3 (.string val) (by simp)
        replace rh := rh.other gx 3 (.string val) (by omega)
        replace r2 := r2.other gx 3 (.string val) (by omega)
        replace hr := hr.other gx 3 (.string val) (by omega)
        replace hw0 := hw0.setNew gx 3 (.string val) (by omega)
        generalize World.setCell _ ⟨gx, 3, none⟩ (.string val) = wn at *
        simp only [List.set_cons_zero, List.set_cons_succ] at rx
        obtain ⟨x0, x1, x2, x3, x4, x5, x6, x7, z0, z1, z2, z3, z4, z5, z6, z7⟩ := rx.c8
        obtain ⟨y0, y1, y2, y3, y4, -⟩ := rh.c5
        go_upto_region 18 with fail
        obtain ⟨a0, a1, a2, a3, a4, a5, a6, a7, b0, b1, b2, b3, b4, b5, b6, b7⟩ := r2.c8
        go_wp2_with fail
        have hsome : rRec ((lst s).drop i0) = some (⟨2, t, key, val, 0, 0, 0, []⟩, (lst s).drop i4) := by simp [rRec, rIf, txnB, passB, hkeyB, hvalB, pairsB, h1, h2, h3, h4]
        refine bodyPost_ret (v := .agg #[.int .i64 2, .int .i64 t, .string key, .string val, .int .i64 0, .int .i64 0, .int .i64 0, .slice none 0 0]) ?_ rfl ?_
        · simp [results, Try.results38, go_sem, *]
        rw [hsome]
        refine ⟨none, 0, i4, rfl, PairsAt.nil _ _, fun a ha => (by cases ha), ?_, (by omega), rfl, ?_⟩
        · repeat (refine RowAt.other ?_ _ _ _ (by omega))
          exact hr
        · repeat (refine AllBut.setNew ?_ _ _ _ (by omega))
          exact hw0
set_option maxHeartbeats 1000000 in
set_option maxRecDepth 100000 in
theorem read6 {s : ByteArray} (hs : s.size ≤ 1099511627776) {g i0 i1 : Nat} {w : World} (hi0 : i0 ≤ s.size) (hi1 : i1 = i0 + 1) (hi1' : i1 ≤ s.size) (h1 : rNum 1 ((lst s).drop i0) = some (6, (lst s).drop i1)) (hr : RowAt w g [.string s, .int .i64 (i0 : Int)]) :
    Calls Try.prog 38 #[.pointer (some ⟨g, 0, none⟩)] w (ReadPost s g w (rRec ((lst s).drop i0))) := by
  have C1 := Lib.hid (numC (g := g) (kk := 1) (k := 1) hs rfl (by omega) (by omega) hi0 (show i1 = i0 + 1 by omega) h1)
  unfold NumC at C1
  have c3 := fun w => rec_within 6 1 7 w
  rw [show inB 6 1 7 = true from rfl] at c3
  have C3 := Lib.hid c3; clear c3
  have C4 := Lib.hid rec_kinds
  have hix : ∀ w, (Instr.index 51 (.agg kindsA) (.int .i64 6)).run Try.prog w = .ok (.agg #[.bool false, .bool false, .bool false, .bool true, .bool false]) w := fun _ => by kernel_rfl
  have o1 := hr.lt
  go_enter Try.func38, Try.ntmps38
  go_upto_region 1 with fail
  have r2 : RowAt (w.alloc (.cells #[.int .i64 0, .int .i64 0, .string ⟨#[]⟩, .string ⟨#[]⟩, .int .i64 0, .int .i64 0, .int .i64 0, .slice none 0 0] 24)) w.heap.size [.int .i64 0, .int .i64 0, .string ⟨#[]⟩, .string ⟨#[]⟩, .int .i64 0, .int .i64 0, .int .i64 0, .slice none 0 0] := RowAt.made w _ _
  replace hr := hr.alloc (.cells #[.int .i64 0, .int .i64 0, .string ⟨#[]⟩, .string ⟨#[]⟩, .int .i64 0, .int .i64 0, .int .i64 0, .slice none 0 0] 24)
  have hw0 := (AllBut.refl g w).alloc (.cells #[.int .i64 0, .int .i64 0, .string ⟨#[]⟩, .string ⟨#[]⟩, .int .i64 0, .int .i64 0, .int .i64 0, .slice none 0 0] 24)
  generalize w.alloc (.cells #[.int .i64 0, .int .i64 0, .string ⟨#[]⟩, .string ⟨#[]⟩, .int .i64 0, .int .i64 0, .int .i64 0, .slice none 0 0] 24) = w2 at *
  go_upto_region 2 with ((with_reducible refine (C1.out _ hr).mono ?_); rintro e w1 ⟨rfl, hr1, ha⟩; clear hr; have hr := hr1; clear hr1; replace r2 := r2.allBut ha (by omega); replace hw0 := hw0.trans ha; clear ha)
  have o2 := r2.lt
  have rx : RowAt (w1.alloc (.cells #[.int .i64 6, .int .i64 0, .string ⟨#[]⟩, .string ⟨#[]⟩, .int .i64 0, .int .i64 0, .int .i64 0, .slice none 0 0] 24)) w1.heap.size [.int .i64 6, .int .i64 0, .string ⟨#[]⟩, .string ⟨#[]⟩, .int .i64 0, .int .i64 0, .int .i64 0, .slice none 0 0] := RowAt.made w1 _ _
  replace r2 := r2.alloc (.cells #[.int .i64 6, .int .i64 0, .string ⟨#[]⟩, .string ⟨#[]⟩, .int .i64 0, .int .i64 0, .int .i64 0, .slice none 0 0] 24)
  replace hr := hr.alloc (.cells #[.int .i64 6, .int .i64 0, .string ⟨#[]⟩, .string ⟨#[]⟩, .int .i64 0, .int .i64 0, .int .i64 0, .slice none 0 0] 24)
  replace hw0 := hw0.alloc (.cells #[.int .i64 6, .int .i64 0, .string ⟨#[]⟩, .string ⟨#[]⟩, .int .i64 0, .int .i64 0, .int .i64 0, .slice none 0 0] 24)
  generalize w1.heap.size = gx at *
  generalize w1.alloc (.cells #[.int .i64 6, .int .i64 0, .string ⟨#[]⟩, .string ⟨#[]⟩, .int .i64 0, .int .i64 0, .int .i64 0, .slice none 0 0] 24) = w3 at *
  obtain ⟨x0, -⟩ := rx.c8
  go_upto_region 4 with ((with_reducible refine (C3.out _).mono ?_); rintro e w1 ⟨rfl, rfl⟩)
  refine wp_region_two Up Up up_up (by kernel_rfl) (by kernel_rfl) (by kernel_rfl) ?_
  refine wpAnyTS_quiet 0 4 2 61 (by rfl) (by kernel_rfl) (fun _ _ _ _ _ h => h) (by kernel_rfl) (by kernel_rfl) ?_
  apply Exists.intro
  refine ⟨fun w1 hw1 => ?_, ?_⟩
  · have l0 := LaterUp.of (show w3.drew.cell? ⟨gx, 0, none⟩ = _ from x0) hw1
    have hne := laterR_ne rok_up w1
    simp only [List.drop_zero, List.take_succ_cons, List.take_zero]
    repeat (go_big_quiet_step ((go_at_call 27; with_reducible exact Calls.laterUp (C4.out _))))
    exact wpQuiet_nil rfl
  refine wpAnyTS_some 4 [] 1 (by rfl) (by kernel_rfl) (by kernel_rfl) ?_
  intro w4 h4
  refine ⟨?_, trivial⟩
  replace h4 := (Up.refl w3).drew.trans h4
  replace hr := hr.up h4; replace r2 := r2.up h4; replace rx := rx.up h4; replace hw0 := hw0.up h4
  clear x0 h4
  simp only [List.drop_succ_cons, List.drop_zero, List.take_succ_cons, List.take_zero]
  go_wp2_with fail
  refine ⟨.inr ((Up.refl w4).alloc _), ?_⟩
  have rh : RowAt (w4.alloc (.cells #[.bool false, .bool false, .bool false, .bool false, .bool false] 50)) w4.heap.size [.bool false, .bool false, .bool false, .bool false, .bool false] := RowAt.made w4 _ _
  have o3 := rx.lt
  replace hr := hr.alloc (.cells #[.bool false, .bool false, .bool false, .bool false, .bool false] 50)
  replace r2 := r2.alloc (.cells #[.bool false, .bool false, .bool false, .bool false, .bool false] 50)
  replace rx := rx.alloc (.cells #[.bool false, .bool false, .bool false, .bool false, .bool false] 50)
  replace hw0 := hw0.alloc (.cells #[.bool false, .bool false, .bool false, .bool false, .bool false] 50)
  generalize w4.heap.size = gh at *
  generalize w4.alloc (.cells #[.bool false, .bool false, .bool false, .bool false, .bool false] 50) = w5 at *
  refine wpAnyTS_some 5 [] 0 (by rfl) (by kernel_rfl) (by kernel_rfl) ?_
  intro w6 h6
  refine ⟨?_, trivial⟩
  replace hr := hr.up h6; replace r2 := r2.up h6; replace rx := rx.up h6; replace hw0 := hw0.up h6; replace rh := rh.up h6
  clear h6
  simp only [List.drop_succ_cons, List.drop_zero, List.take_succ_cons, List.take_zero]
  obtain ⟨y0, y1, y2, y3, y4, q0, q1, q2, q3, q4⟩ := rh.c5
  go_wp2_with fail
  refine ⟨.inl (by kernel_rfl), ?_⟩
  clear y0 y1 y2 y3 y4 q0 q1 q2 q3 q4
  refine wpAnyTS_done (by kernel_rfl) ?_
  intro w7 h7
  replace hr := ((((((hr.other gh 0 (.bool false) (by omega)).other gh 1 (.bool false) (by omega)).other gh 2 (.bool false) (by omega)).other gh 3 (.bool true) (by omega)).other gh 4 (.bool false) (by omega))).up h7
  replace r2 := ((((((r2.other gh 0 (.bool false) (by omega)).other gh 1 (.bool false) (by omega)).other gh 2 (.bool false) (by omega)).other gh 3 (.bool true) (by omega)).other gh 4 (.bool false) (by omega))).up h7
  replace rx := ((((((rx.other gh 0 (.bool false) (by omega)).other gh 1 (.bool false) (by omega)).other gh 2 (.bool false) (by omega)).other gh 3 (.bool true) (by omega)).other gh 4 (.bool false) (by omega))).up h7
  replace rh := ((((((rh.set 0 (.bool false) (by simp)).set 1 (.bool false) (by simp)).set 2 (.bool false) (by simp)).set 3 (.bool true) (by simp)).set 4 (.bool false) (by simp)))
  simp only [List.set_cons_zero, List.set_cons_succ] at rh
  replace rh := rh.up h7
  replace hw0 := ((((((hw0.setNew gh 0 (.bool false) (by omega)).setNew gh 1 (.bool false) (by omega)).setNew gh 2 (.bool false) (by omega)).setNew gh 3 (.bool true) (by omega)).setNew gh 4 (.bool false) (by omega))).up h7
  clear h7 hix C1 C3 C4
  obtain ⟨x0, x1, x2, x3, x4, x5, x6, x7, z0, z1, z2, z3, z4, z5, z6, z7⟩ := rx.c8
  obtain ⟨y0, y1, y2, y3, y4, -⟩ := rh.c5
  go_upto_region 8 with fail
  cases h2 : rNum 6 ((lst s).drop i1) with
  | none =>
    have CN := Lib.hid (numN (g := g) (kk := 6) (k := 6) hs rfl (by omega) (by omega) (show i1 ≤ s.size by omega) h2)
    unfold NumN at CN
    go_wp2_with (((with_reducible refine (CN.out _ hr).mono ?_); rintro e wn ⟨rfl, ha⟩; replace hw0 := hw0.trans ha; clear ha))
    have hnone : rRec ((lst s).drop i0) = none := by simp [rRec, rIf, txnB, passB, hkeyB, hvalB, pairsB, h1, h2]
    exact ⟨rfl, by rw [hnone]; exact ⟨3, rfl, hw0⟩⟩
  | some vt =>
    obtain ⟨p, tt⟩ := vt
    obtain ⟨i2, hji2, hj'i2, rfl⟩ := num_step h2 (show i1 ≤ s.size by omega)
    have C2 := Lib.hid (numC (g := g) (kk := 6) (k := 6) hs rfl (by omega) (by omega) (show i1 ≤ s.size by omega) hji2 h2)
    unfold NumC at C2
    cases h3 : rNum 6 ((lst s).drop i2) with
    | none =>
      have CN := Lib.hid (numN (g := g) (kk := 6) (k := 6) hs rfl (by omega) (by omega) (show i2 ≤ s.size by omega) h3)
      unfold NumN at CN
      go_wp2_with (first | ((with_reducible refine (C2.out _ hr).mono ?_); rintro e wn ⟨rfl, hr1, ha⟩; clear hr; have hr := hr1; clear hr1; replace rx := rx.allBut ha (by omega); replace r2 := r2.allBut ha (by omega); replace rh := rh.allBut ha (by omega); replace hw0 := hw0.trans ha; clear ha; clear x0 x1 x2 x3 x4 x5 x6 x7 z0 z1 z2 z3 z4 z5 z6 z7 y0 y1 y2 y3 y4; obtain ⟨x0, x1, x2, x3, x4, x5, x6, x7, z0, z1, z2, z3, z4, z5, z6, z7⟩ := rx.c8; obtain ⟨y0, y1, y2, y3, y4, -⟩ := rh.c5) | ((with_reducible refine (CN.out _ hr).mono ?_); rintro e wn ⟨rfl, ha⟩; replace hw0 := hw0.trans ha; clear ha))
      have hnone : rRec ((lst s).drop i0) = none := by simp [rRec, rIf, txnB, passB, hkeyB, hvalB, pairsB, h1, h2, h3]
      exact ⟨rfl, by rw [hnone]; exact ⟨3, rfl, hw0⟩⟩
    | some vt =>
      obtain ⟨u, tt⟩ := vt
      obtain ⟨i3, hji3, hj'i3, rfl⟩ := num_step h3 (show i2 ≤ s.size by omega)
      have C3 := Lib.hid (numC (g := g) (kk := 6) (k := 6) hs rfl (by omega) (by omega) (show i2 ≤ s.size by omega) hji3 h3)
      unfold NumC at C3
      cases h4 : rNum 6 ((lst s).drop i3) with
      | none =>
        have CN := Lib.hid (numN (g := g) (kk := 6) (k := 6) hs rfl (by omega) (by omega) (show i3 ≤ s.size by omega) h4)
        unfold NumN at CN
        go_wp2_with (first | ((with_reducible refine (C2.out _ hr).mono ?_); rintro e wn ⟨rfl, hr1, ha⟩; clear hr; have hr := hr1; clear hr1; replace rx := rx.allBut ha (by omega); replace r2 := r2.allBut ha (by omega); replace rh := rh.allBut ha (by omega); replace hw0 := hw0.trans ha; clear ha; clear x0 x1 x2 x3 x4 x5 x6 x7 z0 z1 z2 z3 z4 z5 z6 z7 y0 y1 y2 y3 y4; obtain ⟨x0, x1, x2, x3, x4, x5, x6, x7, z0, z1, z2, z3, z4, z5, z6, z7⟩ := rx.c8; obtain ⟨y0, y1, y2, y3, y4, -⟩ := rh.c5) | ((with_reducible refine (C3.out _ hr).mono ?_); rintro e wn ⟨rfl, hr1, ha⟩; clear hr; have hr := hr1; clear hr1; replace rx := rx.allBut ha (by omega); replace r2 := r2.allBut ha (by omega); replace rh := rh.allBut ha (by omega); replace hw0 := hw0.trans ha; clear ha; clear x0 x1 x2 x3 x4 x5 x6 x7 z0 z1 z2 z3 z4 z5 z6 z7 y0 y1 y2 y3 y4; obtain ⟨x0, x1, x2, x3, x4, x5, x6, x7, z0, z1, z2, z3, z4, z5, z6, z7⟩ := rx.c8; obtain ⟨y0, y1, y2, y3, y4, -⟩ := rh.c5) | ((with_reducible refine (CN.out _ hr).mono ?_); rintro e wn ⟨rfl, ha⟩; replace hw0 := hw0.trans ha; clear ha))
        have hnone : rRec ((lst s).drop i0) = none := by simp [rRec, rIf, txnB, passB, hkeyB, hvalB, pairsB, h1, h2, h3, h4]
        exact ⟨rfl, by rw [hnone]; exact ⟨3, rfl, hw0⟩⟩
      | some vt =>
        obtain ⟨n, tt⟩ := vt
        obtain ⟨i4, hji4, hj'i4, rfl⟩ := num_step h4 (show i3 ≤ s.size by omega)
        have C4 := Lib.hid (numC (g := g) (kk := 6) (k := 6) hs rfl (by omega) (by omega) (show i3 ≤ s.size by omega) hji4 h4)
        unfold NumC at C4
        go_upto_region 9 with (first | ((with_reducible refine (C2.out _ hr).mono ?_); rintro e wn ⟨rfl, hr1, ha⟩; clear hr; have hr := hr1; clear hr1; replace rx := rx.allBut ha (by omega); replace r2 := r2.allBut ha (by omega); replace rh := rh.allBut ha (by omega); replace hw0 := hw0.trans ha; clear ha; clear x0 x1 x2 x3 x4 x5 x6 x7 z0 z1 z2 z3 z4 z5 z6 z7 y0 y1 y2 y3 y4; obtain ⟨x0, x1, x2, x3, x4, x5, x6, x7, z0, z1, z2, z3, z4, z5, z6, z7⟩ := rx.c8; obtain ⟨y0, y1, y2, y3, y4, -⟩ := rh.c5) | ((with_reducible refine (C3.out _ hr).mono ?_); rintro e wn ⟨rfl, hr1, ha⟩; clear hr; have hr := hr1; clear hr1; replace rx := rx.allBut ha (by omega); replace r2 := r2.allBut ha (by omega); replace rh := rh.allBut ha (by omega); replace hw0 := hw0.trans ha; clear ha; clear x0 x1 x2 x3 x4 x5 x6 x7 z0 z1 z2 z3 z4 z5 z6 z7 y0 y1 y2 y3 y4; obtain ⟨x0, x1, x2, x3, x4, x5, x6, x7, z0, z1, z2, z3, z4, z5, z6, z7⟩ := rx.c8; obtain ⟨y0, y1, y2, y3, y4, -⟩ := rh.c5) | ((with_reducible refine (C4.out _ hr).mono ?_); rintro e wn ⟨rfl, hr1, ha⟩; clear hr; have hr := hr1; clear hr1; replace rx := rx.allBut ha (by omega); replace r2 := r2.allBut ha (by omega); replace rh := rh.allBut ha (by omega); replace hw0 := hw0.trans ha; clear ha; clear x0 x1 x2 x3 x4 x5 x6 x7 z0 z1 z2 z3 z4 z5 z6 z7 y0 y1 y2 y3 y4; obtain ⟨x0, x1, x2, x3, x4, x5, x6, x7, z0, z1, z2, z3, z4, z5, z6, z7⟩ := rx.c8; obtain ⟨y0, y1, y2, y3, y4, -⟩ := rh.c5))
        clear x0 x1 x2 x3 x4 x5 x6 x7 z0 z1 z2 z3 z4 z5 z6 z7 y0 y1 y2 y3 y4
        replace rx := rx.set 4 (.int .i64 p) (by simp)
        replace rh := rh.other gx 4 (.int .i64 p) (by omega)
        replace r2 := r2.other gx 4 (.int .i64 p) (by omega)
        replace hr := hr.other gx 4 (.int .i64 p) (by omega)
        replace hw0 := hw0.setNew gx 4 (.int .i64 p) (by omega)
        generalize World.setCell _ ⟨gx, 4, none⟩ (.int .i64 p) = wn at *
        simp only [List.set_cons_zero, List.set_cons_succ] at rx
        replace rx := rx.set 5 (.int .i64 u) (by simp)
        replace rh := rh.other gx 5 (.int .i64 u) (by omega)
        replace r2 := r2.other gx 5 (.int .i64 u) (by omega)
        replace hr := hr.other gx 5 (.int .i64 u) (by omega)
        replace hw0 := hw0.setNew gx 5 (.int .i64 u) (by omega)
        generalize World.setCell _ ⟨gx, 5, none⟩ (.int .i64 u) = wn at *
        simp only [List.set_cons_zero, List.set_cons_succ] at rx
        replace rx := rx.set 6 (.int .i64 n) (by simp)
        replace rh := rh.other gx 6 (.int .i64 n) (by omega)
        replace r2 := r2.other gx 6 (.int .i64 n) (by omega)
        replace hr := hr.other gx 6 (.int .i64 n) (by omega)
        replace hw0 := hw0.setNew gx 6 (.int .i64 n) (by omega)
        generalize World.setCell _ ⟨gx, 6, none⟩ (.int .i64 n) = wn at *
        simp only [List.set_cons_zero, List.set_cons_succ] at rx
        obtain ⟨x0, x1, x2, x3, x4, x5, x6, x7, z0, z1, z2, z3, z4, z5, z6, z7⟩ := rx.c8
        obtain ⟨y0, y1, y2, y3, y4, -⟩ := rh.c5
        go_upto_region 18 with fail
        obtain ⟨a0, a1, a2, a3, a4, a5, a6, a7, b0, b1, b2, b3, b4, b5, b6, b7⟩ := r2.c8
        go_wp2_with fail
        have hsome : rRec ((lst s).drop i0) = some (⟨6, 0, ⟨#[]⟩, ⟨#[]⟩, p, u, n, []⟩, (lst s).drop i4) := by simp [rRec, rIf, txnB, passB, hkeyB, hvalB, pairsB, show (⟨#[]⟩ : ByteArray) = ByteArray.empty from rfl, h1, h2, h3, h4]
        refine bodyPost_ret (v := .agg #[.int .i64 6, .int .i64 0, .string ⟨#[]⟩, .string ⟨#[]⟩, .int .i64 p, .int .i64 u, .int .i64 n, .slice none 0 0]) ?_ rfl ?_
        · simp [results, Try.results38, go_sem, *]
        rw [hsome]
        refine ⟨none, 0, i4, rfl, PairsAt.nil _ _, fun a ha => (by cases ha), ?_, (by omega), rfl, ?_⟩
        · repeat (refine RowAt.other ?_ _ _ _ (by omega))
          exact hr
        · repeat (refine AllBut.setNew ?_ _ _ _ (by omega))
          exact hw0
end Go.Proofs.Ytibeeomeafakgaa
