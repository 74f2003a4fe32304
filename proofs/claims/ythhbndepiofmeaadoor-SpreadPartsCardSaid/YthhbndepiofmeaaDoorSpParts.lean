import Derived.Test.YthhbndepiofmeaaDoorSpFixed
import Derived.Test.YthhbndepiofmeaaDoorSpParts1
namespace Bw
open Go Ieee
theorem betterF_out {f g h k : Nat} (e : (okF f && okF g) = false) : betterF f g h k = false := by unfold betterF; rw [e]; simp
theorem betterF_out2 {f g h k : Nat} (e : (okF f && okF g) = false) : betterF h k f g = false := by unfold betterF; rw [e]; simp
theorem showF_ne {f g : Nat} (e : (okF f && okF g) = true) : ((showF f g).toList == []) = false := by
  apply beq_eq_false_iff_ne.2
  intro h
  rw [Lib.toList_data] at h
  have := congrArg List.length h
  rw [Array.length_toList, show (showF f g).data.size = (showF f g).size from rfl] at this
  unfold showF at this
  rw [if_pos e, ByteArray.size_append, ByteArray.size_append, ByteArray.size_append, show (⟨#[43]⟩ : ByteArray).size = 1 from rfl] at this
  simp only [List.length_nil] at this
  omega
end Bw
namespace Go.Proofs.YthhbndepiofmeaaDoor
open Go.RowKit Bw
set_option linter.unusedVariables false
theorem conv_flt2 (f : Nat) (h : inR f = true) (w : World) : (convert 48 2 (.float .f64 f)).run Tryd.prog w = .ok (.int .i64 (fI f)) w := by
  obtain ⟨e, h0, h1⟩ := fI_in h
  refine run_convert_float_int w 48 2 .f64 .i64 f (fI f) (by rw [Tryd.underlying48]; rfl) Tryd.underlying2 ?_
  unfold floatToIntVal
  rw [show (FloatKind.f64.decode f).toInt .zero = some (fI f) from e]
  simp only
  rw [if_pos ⟨show (-9223372036854775808 : Int) ≤ fI f by omega, show fI f ≤ (9223372036854775807 : Int) by omega⟩]
theorem conv_int2 (n : Int) (w : World) : (convert 2 48 (.int .i64 n)).run Tryd.prog w = .ok (.float .f64 (fltZ n)) w :=
  run_convert_int_float w 2 48 .i64 .f64 n (by rw [Tryd.underlying2]; rfl) Tryd.underlying48
theorem add_one (f g : Nat) (z y : Int) (hz : IsZ f z) (hy : IsZ g y) (h0 : 0 ≤ z) (h1 : z ≤ 1099511627776) (h2 : 0 ≤ y) (h3 : y ≤ 1099511627776) (w : World) :
    (binOp .add 25 (.complex .f64 f g) (.complex .f64 4607182418800017408 0)).run Tryd.prog w = .ok (.complex .f64 (fltZ (z + 1)) (fltZ y)) w := by
  refine run_complex_sum w .add (.inl rfl) 25 .f64 _ _ _ _ _ _ ?_
  have e1 : floatBits .add .f64 f 4607182418800017408 = some (fltZ (z + 1)) := by rw [← f1]; exact isZ_add hz h0 1 (by omega) (by decide) (by omega)
  have e2 : floatBits .add .f64 g 0 = some (fltZ y) := by
    have := isZ_add hy h2 0 (by omega) (by decide) (by omega)
    rw [c0, Int.add_zero] at this; exact this
  unfold cSumBits
  rw [e1, e2]
  rfl
set_option maxHeartbeats 4000000 in
set_option maxRecDepth 100000 in
theorem parts_law (f g : Nat) (w : World) (ht : Tab w) :
    Calls Tryd.prog 5 #[.float .f64 f, .float .f64 g] w fun e w' => e = .returned (.bool true) ∧ Below w.heap.size w w' := by
  have HT := Lib.hid ht
  clear ht
  have hu := Up.refl w
  have iF : inR f = ((FloatKind.f64.format.order f 0 == some .gt || FloatKind.f64.format.order f 0 == some .eq) && (FloatKind.f64.format.order f 4787326403894837248 == some .lt || FloatKind.f64.format.order f 4787326403894837248 == some .eq)) := rfl
  have iG : inR g = ((FloatKind.f64.format.order g 0 == some .gt || FloatKind.f64.format.order g 0 == some .eq) && (FloatKind.f64.format.order g 4787326403894837248 == some .lt || FloatKind.f64.format.order g 4787326403894837248 == some .eq)) := rfl
  have oF : okF f = (inR f && (FloatKind.f64.format.order (fltZ (fI f)) f == some .eq)) := okF_law f
  have oG : okF g = (inR g && (FloatKind.f64.format.order (fltZ (fI g)) g == some .eq)) := okF_law g
  have V1 := conv_flt2 f; have V2 := conv_flt2 g
  have V3 := conv_int2 (fI f); have V4 := conv_int2 (fI g)
  generalize G1 : (FloatKind.f64.format.order f 0 == some .gt || FloatKind.f64.format.order f 0 == some .eq) = g1 at *
  generalize L1 : (FloatKind.f64.format.order f 4787326403894837248 == some .lt || FloatKind.f64.format.order f 4787326403894837248 == some .eq) = l1 at *
  generalize G2 : (FloatKind.f64.format.order g 0 == some .gt || FloatKind.f64.format.order g 0 == some .eq) = g2 at *
  generalize L2 : (FloatKind.f64.format.order g 4787326403894837248 == some .lt || FloatKind.f64.format.order g 4787326403894837248 == some .eq) = l2 at *
  generalize E1 : (FloatKind.f64.format.order (fltZ (fI f)) f == some .eq) = e1 at *
  generalize E2 : (FloatKind.f64.format.order (fltZ (fI g)) g == some .eq) = e2 at *
  have CF := Lib.hid law18_fixed
  cases hok : (okF f && okF g)
  · have c1 := sf_Far f g
    have c2 := sf_Show f g
    have c3 := sf_Better f g 4607182418800017408 4607182418800017408
    have c4 := sf_Better 0 0 f g
    rw [betterF_out hok] at c3
    rw [betterF_out2 hok] at c4
    rw [show farF f g = 0 by unfold farF; rw [hok]; rfl] at c1
    rw [show showF f g = ⟨#[]⟩ by unfold showF; rw [hok]; rfl] at c2
    have C1 := Lib.hid c1; have C2 := Lib.hid c2; have C3 := Lib.hid c3; have C4 := Lib.hid c4
    clear c1 c2 c3 c4
    rw [oF, oG, iF, iG] at hok
    rw [iF] at V1
    rw [iG] at V2
    clear oF oG iF iG
    cases g1
    · clear hok V1 V2 V3 V4
      go_enter Tryd.func5, Tryd.ntmps5
      go_wp2_with (first
        | ((with_reducible refine (C1.out _).mono ?_); rintro e wn ⟨rfl, rfl⟩)
        | ((with_reducible refine (C2.out _ (HT.out.up hu)).mono ?_); rintro e wn ⟨rfl, hB⟩; replace hu := hu.next hB; clear hB)
        | ((with_reducible refine (C3.out _).mono ?_); rintro e wn ⟨rfl, rfl⟩)
        | ((with_reducible refine (C4.out _).mono ?_); rintro e wn ⟨rfl, rfl⟩)
        | ((with_reducible refine (CF.out _ (HT.out.up hu)).mono ?_); rintro e wn ⟨rfl, hB⟩; replace hu := hu.next hB; clear hB))
      go_ret
      exact ⟨rfl, hu⟩
    · skip
      cases l1
      · clear hok V1 V2 V3 V4
        go_enter Tryd.func5, Tryd.ntmps5
        go_wp2_with (first
          | ((with_reducible refine (C1.out _).mono ?_); rintro e wn ⟨rfl, rfl⟩)
          | ((with_reducible refine (C2.out _ (HT.out.up hu)).mono ?_); rintro e wn ⟨rfl, hB⟩; replace hu := hu.next hB; clear hB)
          | ((with_reducible refine (C3.out _).mono ?_); rintro e wn ⟨rfl, rfl⟩)
          | ((with_reducible refine (C4.out _).mono ?_); rintro e wn ⟨rfl, rfl⟩)
          | ((with_reducible refine (CF.out _ (HT.out.up hu)).mono ?_); rintro e wn ⟨rfl, hB⟩; replace hu := hu.next hB; clear hB))
        go_ret
        exact ⟨rfl, hu⟩
      · skip
        cases g2
        · clear hok V1 V2 V3 V4
          go_enter Tryd.func5, Tryd.ntmps5
          go_wp2_with (first
            | ((with_reducible refine (C1.out _).mono ?_); rintro e wn ⟨rfl, rfl⟩)
            | ((with_reducible refine (C2.out _ (HT.out.up hu)).mono ?_); rintro e wn ⟨rfl, hB⟩; replace hu := hu.next hB; clear hB)
            | ((with_reducible refine (C3.out _).mono ?_); rintro e wn ⟨rfl, rfl⟩)
            | ((with_reducible refine (C4.out _).mono ?_); rintro e wn ⟨rfl, rfl⟩)
            | ((with_reducible refine (CF.out _ (HT.out.up hu)).mono ?_); rintro e wn ⟨rfl, hB⟩; replace hu := hu.next hB; clear hB))
          go_ret
          exact ⟨rfl, hu⟩
        · skip
          cases l2
          · clear hok V1 V2 V3 V4
            go_enter Tryd.func5, Tryd.ntmps5
            go_wp2_with (first
              | ((with_reducible refine (C1.out _).mono ?_); rintro e wn ⟨rfl, rfl⟩)
              | ((with_reducible refine (C2.out _ (HT.out.up hu)).mono ?_); rintro e wn ⟨rfl, hB⟩; replace hu := hu.next hB; clear hB)
              | ((with_reducible refine (C3.out _).mono ?_); rintro e wn ⟨rfl, rfl⟩)
              | ((with_reducible refine (C4.out _).mono ?_); rintro e wn ⟨rfl, rfl⟩)
              | ((with_reducible refine (CF.out _ (HT.out.up hu)).mono ?_); rintro e wn ⟨rfl, hB⟩; replace hu := hu.next hB; clear hB))
            go_ret
            exact ⟨rfl, hu⟩
          · skip
            cases e1
            · clear hok
              replace V1 := V1 rfl; clear V2 V4
              go_enter Tryd.func5, Tryd.ntmps5
              go_wp2_with (first
                | ((with_reducible refine (C1.out _).mono ?_); rintro e wn ⟨rfl, rfl⟩)
                | ((with_reducible refine (C2.out _ (HT.out.up hu)).mono ?_); rintro e wn ⟨rfl, hB⟩; replace hu := hu.next hB; clear hB)
                | ((with_reducible refine (C3.out _).mono ?_); rintro e wn ⟨rfl, rfl⟩)
                | ((with_reducible refine (C4.out _).mono ?_); rintro e wn ⟨rfl, rfl⟩)
                | ((with_reducible refine (CF.out _ (HT.out.up hu)).mono ?_); rintro e wn ⟨rfl, hB⟩; replace hu := hu.next hB; clear hB))
              go_ret
              exact ⟨rfl, hu⟩
            · skip
              cases e2
              · clear hok
                replace V1 := V1 rfl; replace V2 := V2 rfl
                go_enter Tryd.func5, Tryd.ntmps5
                go_wp2_with (first
                  | ((with_reducible refine (C1.out _).mono ?_); rintro e wn ⟨rfl, rfl⟩)
                  | ((with_reducible refine (C2.out _ (HT.out.up hu)).mono ?_); rintro e wn ⟨rfl, hB⟩; replace hu := hu.next hB; clear hB)
                  | ((with_reducible refine (C3.out _).mono ?_); rintro e wn ⟨rfl, rfl⟩)
                  | ((with_reducible refine (C4.out _).mono ?_); rintro e wn ⟨rfl, rfl⟩)
                  | ((with_reducible refine (CF.out _ (HT.out.up hu)).mono ?_); rintro e wn ⟨rfl, hB⟩; replace hu := hu.next hB; clear hB))
                go_ret
                exact ⟨rfl, hu⟩
              · skip
                exact absurd hok (by decide)
  · obtain ⟨o1, o2⟩ := Bool.and_eq_true_iff.1 hok
    obtain ⟨r1, n1, z1⟩ := okF_in o1
    obtain ⟨r2, n2, z2⟩ := okF_in o2
    obtain ⟨-, b0, b1⟩ := fI_in r1
    obtain ⟨-, b2, b3⟩ := fI_in r2
    replace V1 := V1 r1
    replace V2 := V2 r2
    have V5 := conv_fltF f r1
    have V6 := conv_fltF g r2
    have VA := add_one f g (fI f) (fI g) z1 z2 b0 b1 b2 b3
    rw [r1] at iF
    rw [r2] at iG
    rw [o1, r1] at oF
    rw [o2, r2] at oG
    obtain rfl : e1 = true := by rw [Bool.true_and] at oF; exact oF.symm
    obtain rfl : e2 = true := by rw [Bool.true_and] at oG; exact oG.symm
    obtain ⟨rfl, rfl⟩ : g1 = true ∧ l1 = true := Bool.and_eq_true_iff.1 iF.symm
    obtain ⟨rfl, rfl⟩ : g2 = true ∧ l2 = true := Bool.and_eq_true_iff.1 iG.symm
    have c1 := sf_Far f g
    have c2 := sf_Show f g
    have c3 := sf_Better f g (fltZ (fI f + 1)) (fltZ (fI g))
    have hne := showF_ne hok
    generalize showF f g = sh at *
    rw [show farF f g = fI f + fI g by unfold farF; rw [hok, n1, n2]; rfl] at c1
    have hb : betterF f g (fltZ (fI f + 1)) (fltZ (fI g)) = (FloatKind.f64.format.order f 4787326403894837248 == some .lt) := by
      have q1 : FloatKind.f64.format.order f (fltZ (fI f + 1)) = some .lt := by
        have := (isZ_order z1 (fI f + 1) (by omega)).1
        exact this.trans (by rw [Int.compare_eq_lt.2 (by omega)])
      have q2 := (isZ_order z1 1099511627776 (by decide)).1
      rw [c40] at q2
      have q3 : FloatKind.f64.format.order f 4787326403894837248 = some (compare (fI f) 1099511627776) := q2
      unfold betterF ordF
      rw [q1, q3, o1, o2, okF_flt (by omega), okF_flt (by omega), nF_flt (by omega), nF_flt (by omega), n1, n2]
      have e4 : okZ (fI g) = true := by simp [okZ]; omega
      rw [e4, nZ_ok e4, decide_eq_true (Int.le_refl _)]
      by_cases h : fI f < 1099511627776
      · have e3 : okZ (fI f + 1) = true := by simp [okZ]; omega
        rw [e3, nZ_ok e3, decide_eq_true (by omega), Int.compare_eq_lt.2 h]
        rfl
      · have e3 : okZ (fI f + 1) = false := by simp [okZ]; omega
        rw [e3, show fI f = 1099511627776 by omega, Int.compare_eq_eq.2 rfl]
        rfl
    rw [hb] at c3
    have C1 := Lib.hid c1; have C2 := Lib.hid c2; have C3 := Lib.hid c3
    clear c1 c2 c3 hb iF iG oF oG n1 n2 z1 z2 r1 r2 o1 o2 hok
    generalize LT : (FloatKind.f64.format.order f 4787326403894837248 == some .lt) = lt at *
    generalize fI f = zf at *
    generalize fI g = zg at *
    go_enter Tryd.func5, Tryd.ntmps5
    go_wp2_with (first
      | ((with_reducible refine (C1.out _).mono ?_); rintro e wn ⟨rfl, rfl⟩)
      | ((with_reducible refine (C2.out _ (HT.out.up hu)).mono ?_); rintro e wn ⟨rfl, hB⟩; replace hu := hu.next hB; clear hB)
      | ((with_reducible refine (C3.out _).mono ?_); rintro e wn ⟨rfl, rfl⟩)
      | ((with_reducible refine (CF.out _ (HT.out.up hu)).mono ?_); rintro e wn ⟨rfl, hB⟩; replace hu := hu.next hB; clear hB))
    go_ret
    exact ⟨rfl, hu⟩
end Go.Proofs.YthhbndepiofmeaaDoor
