/- The fixed calls of layer 18. -/
import Derived.Test.YthhbndepiofmeaaDoorSpWalk5
namespace Bw
open Go Ieee
theorem f1 : fltZ 1 = 4607182418800017408 := by decide +kernel
theorem f2 : fltZ 2 = 4611686018427387904 := by decide +kernel
theorem f3 : fltZ 3 = 4613937818241073152 := by decide +kernel
theorem f4 : fltZ 4 = 4616189618054758400 := by decide +kernel
theorem f5 : fltZ 5 = 4617315517961601024 := by decide +kernel
theorem fm1 : fltZ (-1) = 13830554455654793216 := by decide +kernel
theorem small (z : Int) (h0 : -1000 ≤ z) (h1 : z ≤ 1000) : Small z := by unfold Small; omega
theorem feq (z : Int) (h0 : -1000 ≤ z) (h1 : z ≤ 1000) {A : Nat} (hA : fltZ z = A) : FloatKind.f64.format.order A A = some .eq := by subst hA; exact ford_eq (small z h0 h1)
theorem half0 : FloatKind.f64.format.order 4602678819172646912 0 = some .gt := by decide +kernel
theorem half40 : FloatKind.f64.format.order 4602678819172646912 4787326403894837248 = some .lt := by decide +kernel
theorem halfI : floatToIntVal .f64 4602678819172646912 .i64 = some 0 := by decide +kernel
end Bw
namespace Go.Proofs.YthhbndepiofmeaaDoor
open Go.RowKit Bw
set_option linter.unusedVariables false
theorem sp_part_half (h : Nat) (h0 : FloatKind.f64.format.order h 0 = some .gt) (h1 : FloatKind.f64.format.order h 4787326403894837248 = some .lt) (hI : floatToIntVal .f64 h .i64 = some 0) (w : World) :
    Calls Tryd.prog 29 #[.float .f64 h] w fun e w' => e = .returned (.tuple #[.int .i64 0, .bool false]) ∧ w = w' := by
  have hc0 := conv_int 0
  rw [c0] at hc0
  have hcf : ∀ w, (convert 48 3 (.float .f64 h)).run Tryd.prog w = .ok (.int .i64 0) w := fun w => run_convert_float_int w 48 3 .f64 .i64 h 0 (by rw [Tryd.underlying48]; rfl) Tryd.underlying3 hI
  clear hI
  go_enter Tryd.func29, Tryd.ntmps29
  go_wp2_with fail
  go_ret2
  exact ⟨rfl, rfl⟩
theorem sp_parts_half (w : World) : Calls Tryd.prog 26 #[.complex .f64 4602678819172646912 0] w fun e w' => e = .returned (.tuple #[.int .i64 0, .int .i64 0, .bool false]) ∧ w = w' := by
  have C1 := Lib.hid (sp_part_half 4602678819172646912 half0 half40 halfI)
  have c2 := sp_part 0 small0
  rw [c0, show nZ 0 = 0 from rfl] at c2
  generalize okZ 0 = o2 at *
  have C2 := Lib.hid c2
  clear c2
  go_enter Tryd.func26, Tryd.ntmps26
  go_wp2_with (first
    | ((with_reducible refine (C1.out _).mono ?_); rintro e w1 ⟨rfl, rfl⟩)
    | ((with_reducible refine (C2.out _).mono ?_); rintro e w1 ⟨rfl, rfl⟩))
  refine bodyPost_ret (v := .tuple #[.int .i64 0, .int .i64 0, .bool false]) (by simp [results, Tryd.results26, go_sem]) rfl ⟨rfl, rfl⟩
theorem sp_Show_half (w : World) : Calls Tryd.prog 21 #[.complex .f64 4602678819172646912 0] w fun e w' => e = .returned (.string ⟨#[]⟩) ∧ w = w' := by
  have C1 := Lib.hid sp_parts_half
  go_enter Tryd.func21, Tryd.ntmps21
  go_wp2_with ((with_reducible refine (C1.out _).mono ?_); rintro e w1 ⟨rfl, rfl⟩)
  go_ret
  exact ⟨rfl, rfl⟩
theorem fix_Of1 {A B : Nat} (hA : fltZ 3 = A) (hB : fltZ 4 = B) (w : World) : Calls Tryd.prog 10 #[.slice (some ⟨w.heap.size, 0, none⟩) 3 3, .int .i64 9] (w.alloc (.cells #[.int .i64 3, .int .i64 5, .int .i64 5, .int .i64 9, .int .i64 4, .int .i64 2] 56)) fun e w' =>
    e = .returned (.tuple #[.complex .f64 A B, .int .i64 0]) ∧ Below w.heap.size w w' := by
  have hr := RowAt.made w 56 [.int .i64 3, .int .i64 5, .int .i64 5, .int .i64 9, .int .i64 4, .int .i64 2]
  have hu := (Up.refl w).alloc (.cells #[.int .i64 3, .int .i64 5, .int .i64 5, .int .i64 9, .int .i64 4, .int .i64 2] 56)
  refine (sp_Of_in [(3, 5), (5, 9), (4, 2)] (some ⟨w.heap.size, 0, none⟩) 3 9 _ (fun k hk => ⟨w.heap.size, 0, rfl, ?_⟩) (by simp) rfl).mono ?_
  · have hk' : k = 0 ∨ k = 1 ∨ k = 2 := by simp at hk; omega
    rcases hk' with rfl | rfl | rfl
    · exact ⟨hr.cell 0 (by simp), hr.cell 1 (by simp)⟩
    · exact ⟨hr.cell 2 (by simp), hr.cell 3 (by simp)⟩
    · exact ⟨hr.cell 4 (by simp), hr.cell 5 (by simp)⟩
  · rintro e w' ⟨s, r, he, hs, hB'⟩
    rw [show ofS [(3, 5), (5, 9), (4, 2)] 9 = (3, 4) by decide +kernel] at hs
    rw [show ofZ [(3, 5), (5, 9), (4, 2)] 9 = 0 by decide +kernel] at he
    injection hs with e1 e2
    subst e1 e2 hA hB
    exact ⟨he, hu.next hB'⟩
theorem fix_Of2 {A B : Nat} (hA : fltZ 0 = A) (hB : fltZ 4 = B) (w : World) : Calls Tryd.prog 10 #[.slice (some ⟨w.heap.size, 0, none⟩) 1 1, .int .i64 9] (w.alloc (.cells #[.int .i64 3, .int .i64 5] 56)) fun e w' =>
    e = .returned (.tuple #[.complex .f64 A B, .int .i64 0]) ∧ Below w.heap.size w w' := by
  have hr := RowAt.made w 56 [.int .i64 3, .int .i64 5]
  have hu := (Up.refl w).alloc (.cells #[.int .i64 3, .int .i64 5] 56)
  refine (sp_Of_in [(3, 5)] (some ⟨w.heap.size, 0, none⟩) 1 9 _ (fun k hk => ⟨w.heap.size, 0, rfl, ?_⟩) (by simp) rfl).mono ?_
  · obtain rfl : k = 0 := by simp at hk; omega
    exact ⟨hr.cell 0 (by simp), hr.cell 1 (by simp)⟩
  · rintro e w' ⟨s, r, he, hs, hB'⟩
    rw [show ofS [(3, 5)] 9 = (0, 4) by decide +kernel] at hs
    rw [show ofZ [(3, 5)] 9 = 0 by decide +kernel] at he
    injection hs with e1 e2
    subst e1 e2 hA hB
    exact ⟨he, hu.next hB'⟩
theorem fix_Of3 (w : World) : Calls Tryd.prog 10 #[.slice (some ⟨w.heap.size, 0, none⟩) 1 1, .int .i64 9] (w.alloc (.cells #[.int .i64 3, .int .i64 10] 56)) fun e w' =>
    ∃ A B, e = .returned (.tuple #[.complex .f64 A B, .int .i64 1]) ∧ Below w.heap.size w w' := by
  have hr := RowAt.made w 56 [.int .i64 3, .int .i64 10]
  have hu := (Up.refl w).alloc (.cells #[.int .i64 3, .int .i64 10] 56)
  refine (sp_Of_in [(3, 10)] (some ⟨w.heap.size, 0, none⟩) 1 9 _ (fun k hk => ⟨w.heap.size, 0, rfl, ?_⟩) (by simp) rfl).mono ?_
  · obtain rfl : k = 0 := by simp at hk; omega
    exact ⟨hr.cell 0 (by simp), hr.cell 1 (by simp)⟩
  · rintro e w' ⟨s, r, he, hs, hB'⟩
    rw [show ofZ [(3, 10)] 9 = 1 by decide +kernel] at he
    exact ⟨_, _, he, hu.next hB'⟩
theorem fix_Of4 {A : Nat} (hA : fltZ 0 = A) (w : World) : Calls Tryd.prog 10 #[.slice none 0 0, .int .i64 9] w fun e w' =>
    e = .returned (.tuple #[.complex .f64 A A, .int .i64 0]) ∧ Below w.heap.size w w' := by
  refine (sp_Of_in [] none 0 9 w (fun k hk => absurd hk (by simp)) (by simp) rfl).mono ?_
  rintro e w' ⟨s, r, he, hs, hB'⟩
  rw [show ofS [] 9 = (0, 0) by decide +kernel] at hs
  rw [show ofZ [] 9 = 0 by decide +kernel] at he
  injection hs with e1 e2
  subst e1 e2 hA
  exact ⟨he, hB'⟩
set_option maxHeartbeats 4000000 in
set_option maxRecDepth 100000 in
theorem fix_all (A0 A1 A2 A3 A4 : Nat) (h0 : fltZ 0 = A0) (h1 : fltZ 1 = A1) (h2 : fltZ 2 = A2) (h3 : fltZ 3 = A3) (h4 : fltZ 4 = A4) (o0 : FloatKind.f64.format.order A0 0 = some .eq) (o1 : FloatKind.f64.format.order A1 4607182418800017408 = some .eq)
    (o2 : FloatKind.f64.format.order A2 4611686018427387904 = some .eq) (o3 : FloatKind.f64.format.order A3 4613937818241073152 = some .eq) (o4 : FloatKind.f64.format.order A4 4616189618054758400 = some .eq) (w : World) (ht : Tab w) :
    Calls Tryd.prog 16 #[] w fun e w' => e = .returned (.bool true) ∧ Below w.heap.size w w' := by
  have K1 := Lib.hid (fun w => fix_Of1 h3 h4 w)
  have K2 := Lib.hid (fun w => fix_Of2 h0 h4 w)
  have K3 := Lib.hid fix_Of3
  have K4 := Lib.hid (fun w => fix_Of4 h0 w)
  have k5 := sp_One 3 3 9 9
  rw [show oneP 3 3 9 9 = 1 by decide, show oneW 3 3 9 9 = 0 by decide, h1, h0] at k5
  have K5 := Lib.hid k5
  have k6 := sp_One (-1) 9 1 3
  rw [show oneP (-1) 9 1 3 = 0 by decide, show oneW (-1) 9 1 3 = 2 by decide, h2, h0] at k6
  have K6 := Lib.hid k6
  have s := fun (z : Int) (a : -1000 ≤ z) (b : z ≤ 1000) => small z a b
  have k7 := sp_Better 3 4 3 5 (s _ (by omega) (by omega)) (s _ (by omega) (by omega)) (s _ (by omega) (by omega)) (s _ (by omega) (by omega))
  rw [f3, f4, f5, show betterZ 3 4 3 5 = true by decide] at k7
  have K7 := Lib.hid k7
  have k8 := sp_Better 3 4 3 4 (s _ (by omega) (by omega)) (s _ (by omega) (by omega)) (s _ (by omega) (by omega)) (s _ (by omega) (by omega))
  rw [f3, f4, show betterZ 3 4 3 4 = false by decide] at k8
  have K8 := Lib.hid k8
  have k9 := sp_Better 3 4 5 3 (s _ (by omega) (by omega)) (s _ (by omega) (by omega)) (s _ (by omega) (by omega)) (s _ (by omega) (by omega))
  rw [f3, f4, f5, show betterZ 3 4 5 3 = false by decide] at k9
  have K9 := Lib.hid k9
  have k10 := sp_Better (-1) 0 5 0 (s _ (by omega) (by omega)) (s _ (by omega) (by omega)) (s _ (by omega) (by omega)) (s _ (by omega) (by omega))
  rw [fm1, f5, c0, show betterZ (-1) 0 5 0 = false by decide] at k10
  have K10 := Lib.hid k10
  have k11 := sp_Far 3 4 (s _ (by omega) (by omega)) (s _ (by omega) (by omega))
  rw [f3, f4, show farZ 3 4 = 7 by decide] at k11
  have K11 := Lib.hid k11
  have k12 := sp_Show 3 4 (s _ (by omega) (by omega)) (s _ (by omega) (by omega))
  rw [f3, f4, show showZ 3 4 = ⟨#[51, 43, 52, 105]⟩ by decide +kernel] at k12
  have K12 := Lib.hid k12
  have K13 := Lib.hid sp_Show_half
  have k14 := sp_Far (-1) 1 (s _ (by omega) (by omega)) (s _ (by omega) (by omega))
  rw [fm1, f1, show farZ (-1) 1 = 0 by decide] at k14
  have K14 := Lib.hid k14
  clear k5 k6 k7 k8 k9 k10 k11 k12 k14 s h0 h1 h2 h3 h4
  have HT := Lib.hid ht
  have hu := Up.refl w
  clear ht
  go_enter Tryd.func16, Tryd.ntmps16
  go_wp2_with (first
    | ((with_reducible refine (K1.out _).mono ?_); rintro e w1 ⟨rfl, hB⟩; replace hu := hu.next hB; clear hB K1)
    | ((with_reducible refine (K2.out _).mono ?_); rintro e w2 ⟨rfl, hB⟩; replace hu := hu.next hB; clear hB K2)
    | ((with_reducible refine (K3.out _).mono ?_); rintro e w3 ⟨X3, Y3, rfl, hB⟩; replace hu := hu.next hB; clear hB K3)
    | ((with_reducible refine (K4.out _).mono ?_); rintro e w4 ⟨rfl, hB⟩; replace hu := hu.next hB; clear hB K4)
    | ((with_reducible refine (K5.out _).mono ?_); rintro e w5 ⟨rfl, rfl⟩)
    | ((with_reducible refine (K6.out _).mono ?_); rintro e w5 ⟨rfl, rfl⟩)
    | ((with_reducible refine (K7.out _).mono ?_); rintro e w5 ⟨rfl, rfl⟩)
    | ((with_reducible refine (K8.out _).mono ?_); rintro e w5 ⟨rfl, rfl⟩)
    | ((with_reducible refine (K9.out _).mono ?_); rintro e w5 ⟨rfl, rfl⟩)
    | ((with_reducible refine (K10.out _).mono ?_); rintro e w5 ⟨rfl, rfl⟩)
    | ((with_reducible refine (K11.out _).mono ?_); rintro e w5 ⟨rfl, rfl⟩)
    | ((with_reducible refine (K12.out _ (HT.out.up hu)).mono ?_); rintro e w6 ⟨rfl, hB⟩; replace hu := hu.next hB; clear hB K12)
    | ((with_reducible refine (K13.out _).mono ?_); rintro e w5 ⟨rfl, rfl⟩)
    | ((with_reducible refine (K14.out _).mono ?_); rintro e w5 ⟨rfl, rfl⟩))
  go_ret
  exact ⟨rfl, hu⟩
theorem law18_fixed (w : World) (ht : Tab w) : Calls Tryd.prog 16 #[] w fun e w' => e = .returned (.bool true) ∧ Below w.heap.size w w' :=
  fix_all _ _ _ _ _ rfl rfl rfl rfl rfl (by rw [c0]; exact feq 0 (by omega) (by omega) c0) (by rw [f1]; exact feq 1 (by omega) (by omega) f1) (by rw [f2]; exact feq 2 (by omega) (by omega) f2) (by rw [f3]; exact feq 3 (by omega) (by omega) f3) (by rw [f4]; exact feq 4 (by omega) (by omega) f4) w ht
end Go.Proofs.YthhbndepiofmeaaDoor
