import Derived.Test.YthhbndepiofmeaaDoorSpFixed
namespace Bw
open Go Ieee Go.RowKit
set_option linter.unusedVariables false
def row6 (h : Nat → Value) : List Value := [h 0, h 1, h 2, h 3, h 4, h 5]
theorem row6_length (h : Nat → Value) : (row6 h).length = 6 := rfl
theorem row6_get (h : Nat → Value) : ∀ (k : Nat) (hk : k < (row6 h).length), (row6 h)[k] = h k
  | 0, _ => rfl | 1, _ => rfl | 2, _ => rfl | 3, _ => rfl | 4, _ => rfl | 5, _ => rfl
  | k + 6, hk => by rw [row6_length] at hk; omega
theorem row6_set (h : Nat → Value) (m : Nat) (v : Value) (hm : m < 6) : (row6 h).set m v = row6 (fun j => if j = m then v else h j) := by
  apply List.ext_getElem (by simp [row6_length])
  intro i h1 h2
  rw [row6_get, List.getElem_set]
  split
  · rw [if_pos (by omega)]
  · rw [if_neg (by omega), row6_get]
theorem row6_cell {w : World} {g : Nat} {h : Nat → Value} (hr : RowAt w g (row6 h)) (k : Nat) (hk : k < 6) : w.cell? ⟨g, k, none⟩ = some (h k) ∧ w.frozen? ⟨g, k, none⟩ = false := by
  have hk' : k < (row6 h).length := hk
  exact ⟨(hr.cell k hk').trans (congrArg some (row6_get h k hk')), hr.free k hk'⟩
theorem better_iff {x y v u : Int} : betterZ x y v u = true ↔ (0 ≤ x ∧ x ≤ 1099511627776) ∧ (0 ≤ y ∧ y ≤ 1099511627776) ∧ (0 ≤ v ∧ v ≤ 1099511627776) ∧ (0 ≤ u ∧ u ≤ 1099511627776) ∧ x ≤ v ∧ y ≤ u ∧ ¬ (x = v ∧ y = u) := by
  simp only [betterZ, okZ, Bool.and_eq_true, decide_eq_true_eq, Bool.not_eq_true', Bool.and_eq_false_iff, decide_eq_false_iff_not]
  omega
theorem bool_ext {a b : Bool} (h : a = true ↔ b = true) : a = b := by cases a <;> cases b <;> simp_all
end Bw
namespace Go.Proofs.YthhbndepiofmeaaDoor
open Go.RowKit Bw
set_option linter.unusedVariables false
set_option maxHeartbeats 4000000 in
set_option maxRecDepth 100000 in
theorem order_law (x : Nat → Int) (hx : ∀ j, j < 6 → 0 ≤ x j ∧ x j < 65536) (w : World) (ht : Tab w) :
    Calls Tryd.prog 6 #[.agg (row6 (fun j => .int .u16 (x j))).toArray] w fun e w' => e = .returned (.bool true) ∧ Below w.heap.size w w' := by
  have HT := Lib.hid ht
  have HX := Lib.hid hx
  clear ht hx
  go_enter Tryd.func6, Tryd.ntmps6
  go_upto_region 2 with fail
  have rl := (RowAt.made w 51 (row6 (fun j => .int .u16 (x j)))).alloc (.cells (row6 (fun _ => .int .i64 0)).toArray 52)
  have rn := RowAt.made (w.alloc (.cells (row6 (fun j => .int .u16 (x j))).toArray 51)) 52 (row6 (fun _ => .int .i64 0))
  rw [World.size_alloc] at rn
  have hu := ((Up.refl w).alloc (.cells (row6 (fun j => .int .u16 (x j))).toArray 51)).alloc (.cells (row6 (fun _ => .int .i64 0)).toArray 52)
  have hgl : w.heap.size ≤ w.heap.size := Nat.le_refl _
  have hgn : w.heap.size ≤ w.heap.size + 1 := Nat.le_succ _
  have hne : w.heap.size + 1 ≠ w.heap.size := by omega
  change RowAt ((w.alloc (.cells (row6 (fun j => .int .u16 (x j))).toArray 51)).alloc (.cells #[.int .i64 0, .int .i64 0, .int .i64 0, .int .i64 0, .int .i64 0, .int .i64 0] 52)) _ _ at rl rn
  change Up w ((w.alloc (.cells (row6 (fun j => .int .u16 (x j))).toArray 51)).alloc (.cells #[.int .i64 0, .int .i64 0, .int .i64 0, .int .i64 0, .int .i64 0, .int .i64 0] 52)) at hu
  generalize (w.alloc (.cells (row6 (fun j => .int .u16 (x j))).toArray 51)).alloc (.cells #[.int .i64 0, .int .i64 0, .int .i64 0, .int .i64 0, .int .i64 0, .int .i64 0] 52) = w0 at *
  generalize hg2 : w.heap.size + 1 = gn at *
  generalize hg1 : w.heap.size = gl at *
  clear hg2
  go_wp2_with fail
  go_loopw [4] (fun v4 wr => ∃ k : Nat, k ≤ 6 ∧ v4 = .int .i64 k ∧ RowAt wr gl (row6 (fun j => .int .u16 (x j))) ∧ RowAt wr gn (row6 (fun j => .int .i64 (if j < k then x j % 1000 else 0))) ∧ Up w wr) (fun v _ => 6 - (intOf v).toNat)
  case atStart => exact ⟨0, by omega, rfl, rl, rn, hu⟩
  case round =>
  clear rl rn hu
  obtain ⟨k, hk, rfl, rl, rn, hu⟩ := hrel
  by_cases hlt : k < 6
  · have i0 : (0 : Int) ≤ (k : Int) := by omega
    have i1 : (k : Int) < 6 := by omega
    obtain ⟨a1, -⟩ := row6_cell rl k hlt
    obtain ⟨b1, b2⟩ := row6_cell rn k hlt
    obtain ⟨x0, x1⟩ := HX.out k hlt
    have HS := Lib.hid (row6_set (fun j => Value.int .i64 (if j < k then x j % 1000 else 0)) k (.int .i64 (x k % 1000)) hlt)
    have HE := Lib.hid (show (fun j => if j = k then Value.int .i64 (x k % 1000) else .int .i64 (if j < k then x j % 1000 else 0)) = (fun j => Value.int .i64 (if j < k + 1 then x j % 1000 else 0)) by
      funext j
      by_cases e : j = k
      · subst e; rw [if_pos rfl, if_pos (by omega)]
      · rw [if_neg e]
        by_cases e2 : j < k
        · rw [if_pos e2, if_pos (by omega)]
        · rw [if_neg e2, if_neg (by omega)])
    have rn2 := rn.set k (.int .i64 (x k % 1000)) hlt
    have rl2 := rl.other gn k (.int .i64 (x k % 1000)) hne
    have hu2 := Up.setCell hu gn k (.int .i64 (x k % 1000)) (by omega)
    go_wp2_with fail
    rw [HS.out, HE.out] at rn2
    exact ⟨⟨k + 1, by omega, by go_num, rl2, rn2, hu2⟩, by simp [intOf]; omega⟩
  obtain rfl : k = 6 := by omega
  have i1 : ¬ ((6 : Nat) : Int) < 6 := by omega
  replace rn : RowAt wr gn (row6 (fun j => .int .i64 (x j % 1000))) := rn
  have hy : ∀ j, j < 6 → 0 ≤ x j % 1000 ∧ x j % 1000 < 1000 := fun j hj => by have := HX.out j hj; omega
  obtain ⟨d0, -⟩ := row6_cell rn 0 (by omega)
  obtain ⟨d1, -⟩ := row6_cell rn 1 (by omega)
  obtain ⟨d2, -⟩ := row6_cell rn 2 (by omega)
  obtain ⟨d3, -⟩ := row6_cell rn 3 (by omega)
  obtain ⟨d4, -⟩ := row6_cell rn 4 (by omega)
  obtain ⟨d5, -⟩ := row6_cell rn 5 (by omega)
  obtain ⟨a00, a01⟩ := hy 0 (by omega)
  obtain ⟨a10, a11⟩ := hy 1 (by omega)
  obtain ⟨b00, b01⟩ := hy 2 (by omega)
  obtain ⟨b10, b11⟩ := hy 3 (by omega)
  obtain ⟨c00, c01⟩ := hy 4 (by omega)
  obtain ⟨c10, c11⟩ := hy 5 (by omega)
  clear hy rn rl HX hlt
  generalize x 0 % 1000 = a0 at *
  generalize x 1 % 1000 = a1 at *
  generalize x 2 % 1000 = b0 at *
  generalize x 3 % 1000 = b1 at *
  generalize x 4 % 1000 = c0' at *
  generalize x 5 % 1000 = c1 at *
  have q0 := conv_int a0; have q1 := conv_int a1; have q2 := conv_int b0; have q3 := conv_int b1; have q4 := conv_int c0'; have q5 := conv_int c1
  go_upto_region 6 with fail
  refine wp_region_later (by kernel_rfl) (by kernel_rfl) ?_
  have l0 := Later.cell_of d0; have l1 := Later.cell_of d1; have l2 := Later.cell_of d2; have l3 := Later.cell_of d3; have l4 := Later.cell_of d4; have l5 := Later.cell_of d5
  have hne := later_ne wr
  repeat (go_big_quiet_step (fail))
  refine wpQuiet_nil ?_
  intro w9 hw9
  obtain ⟨u9, rfl⟩ := hw9
  replace hu := hu.trans u9.up
  clear l0 l1 l2 l3 l4 l5 d0 d1 d2 d3 d4 d5 hne q0 q1 q2 q3 q4 q5
  generalize u9.world = w9 at *
  have sm := fun (z : Int) (h0 : 0 ≤ z) (h1 : z < 2000) => (show Small z by unfold Small; omega)
  have D1 := sp_Better a0 a1 b0 b1 (sm _ a00 (by omega)) (sm _ a10 (by omega)) (sm _ b00 (by omega)) (sm _ b10 (by omega))
  have D2 := sp_Better b0 b1 a0 a1 (sm _ b00 (by omega)) (sm _ b10 (by omega)) (sm _ a00 (by omega)) (sm _ a10 (by omega))
  have D3 := sp_Better a0 a1 a0 a1 (sm _ a00 (by omega)) (sm _ a10 (by omega)) (sm _ a00 (by omega)) (sm _ a10 (by omega))
  have D4 := sp_Better b0 b1 c0' c1 (sm _ b00 (by omega)) (sm _ b10 (by omega)) (sm _ c00 (by omega)) (sm _ c10 (by omega))
  have D5 := sp_Better a0 a1 c0' c1 (sm _ a00 (by omega)) (sm _ a10 (by omega)) (sm _ c00 (by omega)) (sm _ c10 (by omega))
  have D6 := sp_Better a0 a1 (a0 + b0) (a1 + b1) (sm _ a00 (by omega)) (sm _ a10 (by omega)) (sm _ (by omega) (by omega)) (sm _ (by omega) (by omega))
  have D7 := sp_Far a0 a1 (sm _ a00 (by omega)) (sm _ a10 (by omega))
  have D8 := sp_Far b0 b1 (sm _ b00 (by omega)) (sm _ b10 (by omega))
  have CF := Lib.hid law18_fixed
  have hadd := add_complex a0 a1 b0 b1 a00 a10 b00 b10 (by omega) (by omega)
  have e3 : betterZ a0 a1 a0 a1 = false := bool_ext (by rw [better_iff]; constructor <;> intro h <;> simp_all)
  have e6 : betterZ a0 a1 (a0 + b0) (a1 + b1) = !((FloatKind.f64.format.order (fltZ b0) 0 == some .eq) && (FloatKind.f64.format.order (fltZ b1) 0 == some .eq)) := by
    have z1 : (FloatKind.f64.format.order (fltZ b0) 0 == some .eq) = decide (b0 = 0) := by
      rw [← c0, ford (sm _ b00 (by omega)) small0]
      by_cases h : b0 = 0
      · subst h; rw [Int.compare_eq_eq.2 rfl]; rfl
      · rw [decide_eq_false h]; apply beq_eq_false_iff_ne.2; intro h'; exact h (Int.compare_eq_eq.1 (Option.some.inj h'))
    have z2 : (FloatKind.f64.format.order (fltZ b1) 0 == some .eq) = decide (b1 = 0) := by
      rw [← c0, ford (sm _ b10 (by omega)) small0]
      by_cases h : b1 = 0
      · subst h; rw [Int.compare_eq_eq.2 rfl]; rfl
      · rw [decide_eq_false h]; apply beq_eq_false_iff_ne.2; intro h'; exact h (Int.compare_eq_eq.1 (Option.some.inj h'))
    rw [z1, z2]
    apply bool_ext
    rw [better_iff]
    simp only [Bool.not_eq_true', Bool.and_eq_false_iff, decide_eq_false_iff_not]
    omega
  rw [e3] at D3
  rw [e6] at D6
  have f7 : farZ a0 a1 = a0 + a1 := by simp [farZ, okZ]; omega
  have f8 : farZ b0 b1 = b0 + b1 := by simp [farZ, okZ]; omega
  rw [f7] at D7
  rw [f8] at D8
  clear e3 e6 f7 f8
  cases h1 : betterZ a0 a1 b0 b1
  · rw [h1] at D1
    have D1 := Lib.hid D1; have D2 := Lib.hid D2; have D3 := Lib.hid D3; have D4 := Lib.hid D4; have D5 := Lib.hid D5; have D6 := Lib.hid D6; have D7 := Lib.hid D7; have D8 := Lib.hid D8
    clear h1 sm
    go_wp2_with (first
      | ((with_reducible refine (D1.out _).mono ?_); rintro e w1 ⟨rfl, rfl⟩)
      | ((with_reducible refine (D2.out _).mono ?_); rintro e w1 ⟨rfl, rfl⟩)
      | ((with_reducible refine (D3.out _).mono ?_); rintro e w1 ⟨rfl, rfl⟩)
      | ((with_reducible refine (D4.out _).mono ?_); rintro e w1 ⟨rfl, rfl⟩)
      | ((with_reducible refine (D5.out _).mono ?_); rintro e w1 ⟨rfl, rfl⟩)
      | ((with_reducible refine (D6.out _).mono ?_); rintro e w1 ⟨rfl, rfl⟩)
      | ((with_reducible refine (D7.out _).mono ?_); rintro e w1 ⟨rfl, rfl⟩)
      | ((with_reducible refine (D8.out _).mono ?_); rintro e w1 ⟨rfl, rfl⟩)
      | ((with_reducible refine (CF.out _ (HT.out.up hu)).mono ?_); rintro e w2 ⟨rfl, hB⟩; replace hu := hu.next hB; clear hB))
    go_ret
    exact ⟨rfl, hu⟩
  · have g1 := better_iff.1 h1
    have h2 : betterZ b0 b1 a0 a1 = false := by
      cases hh : betterZ b0 b1 a0 a1
      · rfl
      · have := better_iff.1 hh; omega
    have hlt2 : ¬ b0 + b1 ≤ a0 + a1 := by omega
    rw [h1] at D1
    rw [h2] at D2
    cases h4 : betterZ b0 b1 c0' c1
    · rw [h4] at D4
      have D1 := Lib.hid D1; have D2 := Lib.hid D2; have D3 := Lib.hid D3; have D4 := Lib.hid D4; have D5 := Lib.hid D5; have D6 := Lib.hid D6; have D7 := Lib.hid D7; have D8 := Lib.hid D8
      clear h1 h2 h4 sm g1
      go_wp2_with (first
      | ((with_reducible refine (D1.out _).mono ?_); rintro e w1 ⟨rfl, rfl⟩)
      | ((with_reducible refine (D2.out _).mono ?_); rintro e w1 ⟨rfl, rfl⟩)
      | ((with_reducible refine (D3.out _).mono ?_); rintro e w1 ⟨rfl, rfl⟩)
      | ((with_reducible refine (D4.out _).mono ?_); rintro e w1 ⟨rfl, rfl⟩)
      | ((with_reducible refine (D5.out _).mono ?_); rintro e w1 ⟨rfl, rfl⟩)
      | ((with_reducible refine (D6.out _).mono ?_); rintro e w1 ⟨rfl, rfl⟩)
      | ((with_reducible refine (D7.out _).mono ?_); rintro e w1 ⟨rfl, rfl⟩)
      | ((with_reducible refine (D8.out _).mono ?_); rintro e w1 ⟨rfl, rfl⟩)
      | ((with_reducible refine (CF.out _ (HT.out.up hu)).mono ?_); rintro e w2 ⟨rfl, hB⟩; replace hu := hu.next hB; clear hB))
      go_ret
      exact ⟨rfl, hu⟩
    · have g4 := better_iff.1 h4
      have h5 : betterZ a0 a1 c0' c1 = true := by rw [better_iff]; omega
      rw [h4] at D4
      rw [h5] at D5
      have D1 := Lib.hid D1; have D2 := Lib.hid D2; have D3 := Lib.hid D3; have D4 := Lib.hid D4; have D5 := Lib.hid D5; have D6 := Lib.hid D6; have D7 := Lib.hid D7; have D8 := Lib.hid D8
      clear h1 h2 h4 h5 sm g1 g4
      go_wp2_with (first
      | ((with_reducible refine (D1.out _).mono ?_); rintro e w1 ⟨rfl, rfl⟩)
      | ((with_reducible refine (D2.out _).mono ?_); rintro e w1 ⟨rfl, rfl⟩)
      | ((with_reducible refine (D3.out _).mono ?_); rintro e w1 ⟨rfl, rfl⟩)
      | ((with_reducible refine (D4.out _).mono ?_); rintro e w1 ⟨rfl, rfl⟩)
      | ((with_reducible refine (D5.out _).mono ?_); rintro e w1 ⟨rfl, rfl⟩)
      | ((with_reducible refine (D6.out _).mono ?_); rintro e w1 ⟨rfl, rfl⟩)
      | ((with_reducible refine (D7.out _).mono ?_); rintro e w1 ⟨rfl, rfl⟩)
      | ((with_reducible refine (D8.out _).mono ?_); rintro e w1 ⟨rfl, rfl⟩)
      | ((with_reducible refine (CF.out _ (HT.out.up hu)).mono ?_); rintro e w2 ⟨rfl, hB⟩; replace hu := hu.next hB; clear hB))
      go_ret
      exact ⟨rfl, hu⟩
end Go.Proofs.YthhbndepiofmeaaDoor
