/- Layer 24: acts alike. -/
import Derived.Test.YtkkgcmnipdkeeaaDoorScWalk3
namespace Go.Proofs.YtkkgcmnipdkeeaaDoor
open Go.RowKit Bw
set_option linter.unusedVariables false
set_option maxHeartbeats 1000000 in
theorem ref2_Ints (a b : List Int) (pa pb : Option Addr) (ca cb : Nat) (w : World) (hA : IntsAt w pa a) (hB : IntsAt w pb b) (la : a.length ≤ 1099511627776) (lb : b.length ≤ 1099511627776) :
    Calls Tryd.prog 39 #[.slice pa a.length ca, .slice pb b.length cb] w fun e w' => e = .returned (.bool (decide (a = b))) ∧ Below w.heap.size w w' := by
  have HF := Lib.hid (show decide (a = b) = decide (a = b) from rfl)
  generalize hK : decide (a = b) = K at *
  have HK := Lib.hid hK; clear hK HF
  have HA := Lib.hid hA; have HB := Lib.hid hB; clear hA hB
  by_cases hl : a.length = b.length
  · have HL := Lib.hid hl
    have hlb : ((a.length : Int) != (b.length : Int)) = false := by simp; omega
    clear hl
    go_enter Tryd.func39, Tryd.ntmps39
    go_wp2_with fail
    go_loopw [5] (fun v wr => ∃ k : Nat, k ≤ a.length ∧ v = .int .i64 k ∧ a.take k = b.take k ∧ Up w wr) (fun v _ => a.length - (intOf v).toNat)
    case atStart => exact ⟨0, by omega, rfl, rfl, Up.refl w⟩
    case round =>
      obtain ⟨k, hk, rfl, htk, hu⟩ := hrel
      have HT := Lib.hid htk; clear htk
      by_cases hlt : k < a.length
      · have hlt2 : k < b.length := by have := HL.out; omega
        obtain ⟨ga, oa, rfl, a1⟩ := (HA.out.up hu) k hlt
        obtain ⟨gb, ob, rfl, b1⟩ := (HB.out.up hu) k hlt2
        have i0 : (0 : Int) ≤ (k : Int) := by omega
        have i1 : (k : Int) < (a.length : Int) := by omega
        have i2 : (k : Int) < (b.length : Int) := by omega
        have i3 : (k : Int) < 1099511627776 := by omega
        generalize hx : a[k] = x at *
        generalize hy : b[k] = y at *
        have HX := Lib.hid hx; have HY := Lib.hid hy; clear hx hy
        go_upto_region 6 with fail
        have l1 := Later.cell_of a1
        have l3 := Later.cell_of b1
        have hne := later_ne wr
        clear a1 b1
        cases hd : x != y
        all_goals
          refine wp_region_later (by kernel_rfl) (by kernel_rfl) ?_
          repeat (go_big_quiet_step (fail))
          refine wpQuiet_nil ?_
          intro w9 hw9
          obtain ⟨u9, rfl⟩ := hw9
          replace hu := hu.trans u9.up
          clear l1 l3 hne
          generalize u9.world = w9 at *
          go_wp2_with fail
        · go_roundw
          case rel =>
            refine ⟨k + 1, by omega, by go_num, ?_, hu⟩
            rw [List.take_succ_eq_append_getElem hlt, List.take_succ_eq_append_getElem hlt2, HT.out, HX.out, HY.out]
            have : x = y := by simpa using hd
            rw [this]
          case measure => simp [intOf]; omega
        · go_ret
          refine ⟨?_, hu⟩
          rw [← HK.out]
          have hne : ¬ a = b := fun h => by
            subst h
            have h3 := HX.out.symm.trans HY.out
            subst h3
            simp at hd
          simp [hne]
      · go_wp2_with fail
        go_ret
        have e := HT.out
        rw [List.take_of_length_le (by omega), List.take_of_length_le (by have := HL.out; omega)] at e
        exact ⟨by rw [← HK.out]; simp [e], hu⟩
  · have hne : ¬ a = b := fun h => hl (by rw [h])
    have hlb : ((a.length : Int) != (b.length : Int)) = true := by simp; omega
    clear hl
    go_enter Tryd.func39, Tryd.ntmps39
    go_wp2_with fail
    go_ret
    exact ⟨by rw [← HK.out]; simp [hne], Below.refl _ _⟩
set_option maxHeartbeats 2000000 in
theorem script_Same (a b : ActD) (pa pb : Option Addr) (ca cb : Nat) (w : World) (hA : IntsAt w pa a.f) (hB : IntsAt w pb b.f) (la : a.f.length ≤ 1099511627776) (lb : b.f.length ≤ 1099511627776) :
    Calls Tryd.prog 16 #[actV a pa ca, actV b pb cb] w fun e w' => e = .returned (.bool (decide (a = b))) ∧ Below w.heap.size w w' := by
  have CE := Lib.hid (fun w hA hB => slices_EqualInts a.f b.f pa pb ca cb w hA hB la lb)
  have HA := Lib.hid hA
  have HB := Lib.hid hB
  have HD := Lib.hid (show decide (a = b) = (a.k == b.k && a.t == b.t && a.key.toList == b.key.toList && a.val.toList == b.val.toList && a.n == b.n && decide (a.f = b.f)) by
    rw [str_eqB, str_eqB]
    obtain ⟨k, t, key, val, n, f⟩ := a
    obtain ⟨k2, t2, key2, val2, n2, f2⟩ := b
    simp only [ActD.mk.injEq]
    have e1 : ∀ x y : Int, (x == y) = decide (x = y) := fun x y => rfl
    simp only [e1, Bool.decide_and, Bool.and_assoc])
  clear hA hB la lb
  generalize decide (a = b) = R at *
  generalize decide (a.f = b.f) = E at *
  obtain ⟨k, t, key, val, n, f⟩ := a
  obtain ⟨k2, t2, key2, val2, n2, f2⟩ := b
  simp only [actV] at *
  have HU := Lib.hid (((Up.refl w).alloc (.cells #[.int .i64 k, .int .i64 t, .string key, .string val, .int .i64 n, .slice pa f.length ca] 24)).alloc (.cells #[.int .i64 k2, .int .i64 t2, .string key2, .string val2, .int .i64 n2, .slice pb f2.length cb] 24))
  have hbs : ∀ x1 x2 x3 x4 x5 : Bool, x1 = false ∨ (x1 = true ∧ x2 = false) ∨ (x1 = true ∧ x2 = true ∧ x3 = false) ∨ (x1 = true ∧ x2 = true ∧ x3 = true ∧ x4 = false) ∨ (x1 = true ∧ x2 = true ∧ x3 = true ∧ x4 = true ∧ x5 = false) ∨ (x1 = true ∧ x2 = true ∧ x3 = true ∧ x4 = true ∧ x5 = true) := by decide
  have hcs := hbs (k == k2) (t == t2) (key.toList == key2.toList) (val.toList == val2.toList) (n == n2)
  clear hbs
  rcases hcs with d1 | ⟨d1, d2⟩ | ⟨d1, d2, d3⟩ | ⟨d1, d2, d3, d4⟩ | ⟨d1, d2, d3, d4, d5⟩ | ⟨d1, d2, d3, d4, d5⟩
  all_goals
    go_enter Tryd.func16, Tryd.ntmps16
    go_wp2_with ((with_reducible refine (CE.out _ (HA.out.up HU.out) (HB.out.up HU.out)).mono ?_); rintro e wn ⟨rfl, hu⟩)
    go_ret
    refine ⟨?_, by first | exact HU.out | exact HU.out.next hu⟩
    rw [HD.out]
    simp [*]
set_option maxHeartbeats 2000000 in
theorem ref24_Same (a b : ActD) (pa pb : Option Addr) (ca cb : Nat) (w : World) (hA : IntsAt w pa a.f) (hB : IntsAt w pb b.f) (la : a.f.length ≤ 1099511627776) (lb : b.f.length ≤ 1099511627776) :
    Calls Tryd.prog 17 #[actV a pa ca, actV b pb cb] w fun e w' => e = .returned (.bool (decide (a = b))) ∧ Below w.heap.size w w' := by
  have CE := Lib.hid (fun w hA hB => ref2_Ints a.f b.f pa pb ca cb w hA hB la lb)
  have HA := Lib.hid hA
  have HB := Lib.hid hB
  have HD := Lib.hid (show decide (a = b) = (a.k == b.k && a.t == b.t && a.key.toList == b.key.toList && a.val.toList == b.val.toList && a.n == b.n && decide (a.f = b.f)) by
    rw [str_eqB, str_eqB]
    obtain ⟨k, t, key, val, n, f⟩ := a
    obtain ⟨k2, t2, key2, val2, n2, f2⟩ := b
    simp only [ActD.mk.injEq]
    have e1 : ∀ x y : Int, (x == y) = decide (x = y) := fun x y => rfl
    simp only [e1, Bool.decide_and, Bool.and_assoc])
  clear hA hB la lb
  generalize decide (a = b) = R at *
  generalize decide (a.f = b.f) = E at *
  obtain ⟨k, t, key, val, n, f⟩ := a
  obtain ⟨k2, t2, key2, val2, n2, f2⟩ := b
  simp only [actV] at *
  have HU := Lib.hid (((Up.refl w).alloc (.cells #[.int .i64 k, .int .i64 t, .string key, .string val, .int .i64 n, .slice pa f.length ca] 28)).alloc (.cells #[.int .i64 k2, .int .i64 t2, .string key2, .string val2, .int .i64 n2, .slice pb f2.length cb] 28))
  have hbs : ∀ x1 x2 x3 x4 x5 : Bool, x1 = false ∨ (x1 = true ∧ x2 = false) ∨ (x1 = true ∧ x2 = true ∧ x3 = false) ∨ (x1 = true ∧ x2 = true ∧ x3 = true ∧ x4 = false) ∨ (x1 = true ∧ x2 = true ∧ x3 = true ∧ x4 = true ∧ x5 = false) ∨ (x1 = true ∧ x2 = true ∧ x3 = true ∧ x4 = true ∧ x5 = true) := by decide
  have hcs := hbs (k == k2) (t == t2) (key.toList == key2.toList) (val.toList == val2.toList) (n == n2)
  clear hbs
  rcases hcs with d1 | ⟨d1, d2⟩ | ⟨d1, d2, d3⟩ | ⟨d1, d2, d3, d4⟩ | ⟨d1, d2, d3, d4, d5⟩ | ⟨d1, d2, d3, d4, d5⟩
  all_goals
    go_enter Tryd.func17, Tryd.ntmps17
    go_wp2_with ((with_reducible refine (CE.out _ (HA.out.up HU.out) (HB.out.up HU.out)).mono ?_); rintro e wn ⟨rfl, hu⟩)
    go_ret
    refine ⟨?_, by first | exact HU.out | exact HU.out.next hu⟩
    rw [HD.out]
    simp [*]
end Go.Proofs.YtkkgcmnipdkeeaaDoor
