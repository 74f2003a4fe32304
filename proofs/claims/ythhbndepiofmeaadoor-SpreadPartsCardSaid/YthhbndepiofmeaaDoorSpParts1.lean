/- Layer 18 at any floats: part, parts, Far, Show, Better. -/
import Derived.Test.YthhbndepiofmeaaDoorSpWalk5
import Derived.Test.YthhbndepiofmeaaDoorFlt2
namespace Bw
open Go Ieee
def ordF (f g : Nat) : Option Ordering := FloatKind.f64.format.order f g
def inR (f : Nat) : Bool := (ordF f 0 == some .gt || ordF f 0 == some .eq) && (ordF f 4787326403894837248 == some .lt || ordF f 4787326403894837248 == some .eq)
def fI (f : Nat) : Int := ((double.read f).toInt .zero).getD 0
def nF (f : Nat) : Int := if inR f = true then fI f else 0
def okF (f : Nat) : Bool := ordF f (fltZ (nF f)) == some .eq
theorem ord_of_beq {a : Option Ordering} {b : Ordering} (h : (a == some b) = true) : a = some b := eq_of_beq h
theorem inR_iff {f : Nat} : inR f = true ↔ (ordF f 0 = some .gt ∨ ordF f 0 = some .eq) ∧ (ordF f 4787326403894837248 = some .lt ∨ ordF f 4787326403894837248 = some .eq) := by
  unfold inR
  rw [Bool.and_eq_true, Bool.or_eq_true, Bool.or_eq_true, beq_iff_eq, beq_iff_eq, beq_iff_eq, beq_iff_eq]
theorem fI_in {f : Nat} (h : inR f = true) : (double.read f).toInt .zero = some (fI f) ∧ 0 ≤ fI f ∧ fI f ≤ 1099511627776 := by
  obtain ⟨h0, h1⟩ := inR_iff.1 h
  rw [← c40] at h1
  obtain ⟨z, hz, z0, z1⟩ := toInt_range h0 1099511627776 (by decide) h1
  have e : fI f = z := by unfold fI; rw [hz]; rfl
  rw [e]; exact ⟨hz, z0, z1⟩
theorem nF_in (f : Nat) : 0 ≤ nF f ∧ nF f ≤ 1099511627776 := by
  unfold nF
  split
  · rename_i h; exact (fI_in h).2
  · omega
theorem nF_small (f : Nat) : (nF f).natAbs < 2 ^ 53 := by have := nF_in f; omega
theorem okF_isZ {f : Nat} (h : okF f = true) : IsZ f (nF f) := isZ_of_eq (nF_small f) (ord_of_beq h)
theorem inR_of_isZ {f : Nat} {z : Int} (h : IsZ f z) (h0 : 0 ≤ z) (h1 : z ≤ 1099511627776) : inR f = true := by
  rw [inR_iff]
  have e0 := (isZ_order h 0 (by decide)).1
  have e1 := (isZ_order h 1099511627776 (by decide)).1
  rw [c0] at e0
  rw [c40] at e1
  constructor
  · by_cases hz : z = 0
    · right; subst hz; exact e0.trans (by rw [Int.compare_eq_eq.2 rfl])
    · left; exact e0.trans (by rw [Int.compare_eq_gt.2 (by omega)])
  · by_cases hz : z = 1099511627776
    · right; subst hz; exact e1.trans (by rw [Int.compare_eq_eq.2 rfl])
    · left; exact e1.trans (by rw [Int.compare_eq_lt.2 (by omega)])
theorem okF_in {f : Nat} (h : okF f = true) : inR f = true ∧ nF f = fI f ∧ IsZ f (fI f) := by
  have hz := okF_isZ h
  have h1 := nF_in f
  have hr := inR_of_isZ hz h1.1 h1.2
  have e : nF f = fI f := if_pos hr
  rw [e] at hz
  exact ⟨hr, e, hz⟩
/-- What the law asks of a part. -/
def lawF (f : Nat) : Bool := inR f && (ordF (fltZ (fI f)) f == some .eq)
theorem ord_symm {z : Int} {f : Nat} (hz : z.natAbs < 2 ^ 53) (h : ordF (fltZ z) f = some .eq) : ordF f (fltZ z) = some .eq := by
  unfold ordF at *
  have h' : double.order (fltZ z) f = some .eq := h
  show double.order f (fltZ z) = some .eq
  unfold Format.order Datum.order at *
  cases hf : double.read f with
  | nan s t => rw [hf] at h'; obtain ⟨c, hc, e1⟩ := read_fltZ z hz; rw [e1] at h'; simp at h'
  | infinity s => rw [hf] at h'; obtain ⟨c, hc, e1⟩ := read_fltZ z hz; rw [e1] at h'; cases s <;> simp at h'
  | number s m p =>
    rw [hf] at h'; obtain ⟨c, hc, e1⟩ := read_fltZ z hz; rw [e1] at h' ⊢
    simp only at h' ⊢
    rw [Int.min_comm] at h'
    have := Int.compare_eq_eq.1 (Option.some.inj h')
    rw [this, Int.compare_eq_eq.2 rfl]
theorem okF_law (f : Nat) : okF f = lawF f := by
  cases h : lawF f
  · cases h2 : okF f
    · rfl
    · obtain ⟨hr, e, hz⟩ := okF_in h2
      have h3 := (fI_in hr).2
      have := (isZ_order hz (fI f) (by omega)).2
      have e3 : ordF (fltZ (fI f)) f = some .eq := this.trans (by rw [Int.compare_eq_eq.2 rfl])
      unfold lawF at h
      rw [hr, e3] at h
      exact absurd h (by decide)
  · unfold lawF at h
    rw [Bool.and_eq_true] at h
    have h3 := (fI_in h.1).2
    have e : nF f = fI f := if_pos h.1
    unfold okF
    rw [e, ord_symm (by omega) (ord_of_beq h.2)]
    rfl
theorem isZ_flt {z : Int} (hz : z.natAbs < 2 ^ 53) : IsZ (fltZ z) z := isZ_of_eq hz (ford_eq hz)
theorem inR_flt {z : Int} (hz : z.natAbs < 2 ^ 53) : inR (fltZ z) = okZ z := by
  cases h : okZ z
  · cases h2 : inR (fltZ z)
    · rfl
    · obtain ⟨h0, h1⟩ := inR_iff.1 h2
      unfold ordF at *
      rw [← c0, ford hz small0] at h0
      rw [← c40, ford hz small40] at h1
      have a0 : 0 ≤ z := by
        rcases h0 with h | h
        · have := Int.compare_eq_gt.1 (Option.some.inj h); omega
        · have := Int.compare_eq_eq.1 (Option.some.inj h); omega
      have a1 : z ≤ 1099511627776 := by
        rcases h1 with h | h
        · have := Int.compare_eq_lt.1 (Option.some.inj h); omega
        · have := Int.compare_eq_eq.1 (Option.some.inj h); omega
      have : okZ z = true := by simp [okZ]; omega
      rw [h] at this; exact this.symm
  · obtain ⟨h0, h1⟩ : 0 ≤ z ∧ z ≤ 1099511627776 := by simpa [okZ] using h
    exact inR_of_isZ (isZ_flt hz) h0 h1
theorem fI_flt {z : Int} (hz : z.natAbs < 2 ^ 53) : fI (fltZ z) = z := by unfold fI; rw [toInt_fltZ z hz]; rfl
theorem nF_flt {z : Int} (hz : z.natAbs < 2 ^ 53) : nF (fltZ z) = nZ z := by unfold nF nZ; rw [inR_flt hz, fI_flt hz]
theorem okF_flt {z : Int} (hz : z.natAbs < 2 ^ 53) : okF (fltZ z) = okZ z := by
  rw [okF_law]
  unfold lawF
  rw [inR_flt hz, fI_flt hz]
  have : ordF (fltZ z) (fltZ z) = some .eq := ford_eq hz
  rw [this, show ((some Ordering.eq == some Ordering.eq) = true) from rfl, Bool.and_true]
def farF (f g : Nat) : Int := if (okF f && okF g) = true then nF f + nF g else 0
def showF (f g : Nat) : ByteArray := if (okF f && okF g) = true then itoaS (nF f) ++ ⟨#[43]⟩ ++ itoaS (nF g) ++ ⟨#[105]⟩ else ⟨#[]⟩
def betterF (f g h k : Nat) : Bool := okF f && okF g && (okF h && okF k) && decide (nF f ≤ nF h) && decide (nF g ≤ nF k) && !((ordF f h == some .eq) && (ordF g k == some .eq))
end Bw
namespace Go.Proofs.YthhbndepiofmeaaDoor
open Go.RowKit Bw
set_option linter.unusedVariables false
theorem conv_fltF (f : Nat) (h : inR f = true) (w : World) : (convert 48 3 (.float .f64 f)).run Tryd.prog w = .ok (.int .i64 (fI f)) w := by
  obtain ⟨e, h0, h1⟩ := fI_in h
  refine run_convert_float_int w 48 3 .f64 .i64 f (fI f) (by rw [Tryd.underlying48]; rfl) Tryd.underlying3 ?_
  unfold floatToIntVal
  rw [show (FloatKind.f64.decode f).toInt .zero = some (fI f) from e]
  simp only
  rw [if_pos ⟨show (-9223372036854775808 : Int) ≤ fI f by omega, show fI f ≤ (9223372036854775807 : Int) by omega⟩]
theorem sf_part (f : Nat) (w : World) : Calls Tryd.prog 29 #[.float .f64 f] w fun e w' => e = .returned (.tuple #[.int .i64 (nF f), .bool (okF f)]) ∧ w = w' := by
  have hc0 := conv_int 0
  rw [c0] at hc0
  cases hr : inR f
  · have e2 : nF f = 0 := by simp [nF, hr]
    have e1 : okF f = (FloatKind.f64.format.order f 0 == some .eq) := by unfold okF; rw [e2, c0]; rfl
    rw [e1, e2]
    clear e1 e2
    unfold inR ordF at hr
    cases g1 : FloatKind.f64.format.order f 0 with
    | none =>
      clear hr
      go_enter Tryd.func29, Tryd.ntmps29
      go_wp2_with fail
      go_ret2
      exact ⟨rfl, rfl⟩
    | some o =>
      cases o
      · clear hr
        go_enter Tryd.func29, Tryd.ntmps29
        go_wp2_with fail
        go_ret2
        exact ⟨rfl, rfl⟩
      all_goals
        rw [g1] at hr
        cases g2 : FloatKind.f64.format.order f 4787326403894837248 with
        | none =>
          clear hr
          go_enter Tryd.func29, Tryd.ntmps29
          go_wp2_with fail
          go_ret2
          exact ⟨rfl, rfl⟩
        | some o =>
          cases o
          · rw [g2] at hr; exact absurd hr (by decide)
          · rw [g2] at hr; exact absurd hr (by decide)
          · clear hr
            go_enter Tryd.func29, Tryd.ntmps29
            go_wp2_with fail
            go_ret2
            exact ⟨rfl, rfl⟩
  · have e2 : nF f = fI f := by simp [nF, hr]
    have e1 : okF f = (FloatKind.f64.format.order f (fltZ (fI f)) == some .eq) := by unfold okF; rw [e2]; rfl
    rw [e1, e2]
    have hcf := conv_fltF f hr
    have hci := conv_int (fI f)
    obtain ⟨g1, g2⟩ := inR_iff.1 hr
    unfold ordF at g1 g2
    clear e1 e2 hr
    generalize fI f = z at *
    generalize fltZ z = b at *
    rcases g1 with g1 | g1 <;> rcases g2 with g2 | g2
    all_goals
      go_enter Tryd.func29, Tryd.ntmps29
      go_wp2_with fail
      go_ret2
      exact ⟨rfl, rfl⟩
theorem sf_parts (x y : Nat) (w : World) : Calls Tryd.prog 26 #[.complex .f64 x y] w fun e w' => e = .returned (.tuple #[.int .i64 (nF x), .int .i64 (nF y), .bool (okF x && okF y)]) ∧ w = w' := by
  have C1 := Lib.hid (sf_part x)
  have C2 := Lib.hid (sf_part y)
  generalize nF x = nx at *
  generalize nF y = ny at *
  generalize okF x = ox at *
  generalize okF y = oy at *
  cases ox
  · go_enter Tryd.func26, Tryd.ntmps26
    go_wp2_with (first
      | ((with_reducible refine (C1.out _).mono ?_); rintro e w1 ⟨rfl, rfl⟩)
      | ((with_reducible refine (C2.out _).mono ?_); rintro e w1 ⟨rfl, rfl⟩))
    refine bodyPost_ret (v := .tuple #[.int .i64 nx, .int .i64 ny, .bool false]) (by simp [results, Tryd.results26, go_sem]) rfl ⟨rfl, rfl⟩
  · go_enter Tryd.func26, Tryd.ntmps26
    go_wp2_with (first
      | ((with_reducible refine (C1.out _).mono ?_); rintro e w1 ⟨rfl, rfl⟩)
      | ((with_reducible refine (C2.out _).mono ?_); rintro e w1 ⟨rfl, rfl⟩))
    refine bodyPost_ret (v := .tuple #[.int .i64 nx, .int .i64 ny, .bool oy]) (by simp [results, Tryd.results26, go_sem]) rfl ⟨rfl, rfl⟩
theorem sf_Far (x y : Nat) (w : World) : Calls Tryd.prog 20 #[.complex .f64 x y] w fun e w' => e = .returned (.int .i64 (farF x y)) ∧ w = w' := by
  have c1 := sf_parts x y
  obtain ⟨x0, x1⟩ := nF_in x
  obtain ⟨y0, y1⟩ := nF_in y
  unfold farF
  cases ho : (okF x && okF y)
  · rw [if_neg (by decide)]
    rw [ho] at c1
    have C1 := Lib.hid c1
    clear c1 ho
    go_enter Tryd.func20, Tryd.ntmps20
    go_wp2_with ((with_reducible refine (C1.out _).mono ?_); rintro e w1 ⟨rfl, rfl⟩)
    go_ret
    exact ⟨rfl, rfl⟩
  · rw [if_pos rfl]
    rw [ho] at c1
    have C1 := Lib.hid c1
    clear c1 ho
    generalize nF x = nx at *
    generalize nF y = ny at *
    go_enter Tryd.func20, Tryd.ntmps20
    go_wp2_with ((with_reducible refine (C1.out _).mono ?_); rintro e w1 ⟨rfl, rfl⟩)
    go_ret
    exact ⟨rfl, rfl⟩
set_option maxHeartbeats 1000000 in
theorem sf_Better (x y v u : Nat) (w : World) : Calls Tryd.prog 18 #[.complex .f64 x y, .complex .f64 v u] w fun e w' => e = .returned (.bool (betterF x y v u)) ∧ w = w' := by
  have c1 := sf_parts x y
  have c2 := sf_parts v u
  unfold betterF ordF
  cases ho : (okF x && okF y)
  · rw [Bool.false_and, Bool.false_and, Bool.false_and, Bool.false_and]
    rw [ho] at c1
    have C1 := Lib.hid c1; have C2 := Lib.hid c2
    clear c1 c2 ho
    go_enter Tryd.func18, Tryd.ntmps18
    go_wp2_with (first
      | ((with_reducible refine (C1.out _).mono ?_); rintro e w1 ⟨rfl, rfl⟩)
      | ((with_reducible refine (C2.out _).mono ?_); rintro e w1 ⟨rfl, rfl⟩))
    go_ret
    exact ⟨rfl, rfl⟩
  · cases ho2 : (okF v && okF u)
    · rw [Bool.true_and, Bool.false_and, Bool.false_and, Bool.false_and]
      rw [ho] at c1
      rw [ho2] at c2
      have C1 := Lib.hid c1; have C2 := Lib.hid c2
      clear c1 c2 ho ho2
      go_enter Tryd.func18, Tryd.ntmps18
      go_wp2_with (first
        | ((with_reducible refine (C1.out _).mono ?_); rintro e w1 ⟨rfl, rfl⟩)
        | ((with_reducible refine (C2.out _).mono ?_); rintro e w1 ⟨rfl, rfl⟩))
      go_ret
      exact ⟨rfl, rfl⟩
    · rw [ho] at c1
      rw [ho2] at c2
      have C1 := Lib.hid c1; have C2 := Lib.hid c2
      clear c1 c2 ho ho2
      generalize nF x = nx at *
      generalize nF y = ny at *
      generalize nF v = nv at *
      generalize nF u = nu at *
      by_cases h1 : nx ≤ nv
      · by_cases h2 : ny ≤ nu
        · rw [decide_eq_true h1, decide_eq_true h2, Bool.true_and, Bool.true_and, Bool.true_and]
          go_enter Tryd.func18, Tryd.ntmps18
          go_wp2_with (first
            | ((with_reducible refine (C1.out _).mono ?_); rintro e w1 ⟨rfl, rfl⟩)
            | ((with_reducible refine (C2.out _).mono ?_); rintro e w1 ⟨rfl, rfl⟩))
          go_ret
          exact ⟨by first | rfl | simp, rfl⟩
        · rw [decide_eq_false h2, Bool.and_false, Bool.false_and]
          go_enter Tryd.func18, Tryd.ntmps18
          go_wp2_with (first
            | ((with_reducible refine (C1.out _).mono ?_); rintro e w1 ⟨rfl, rfl⟩)
            | ((with_reducible refine (C2.out _).mono ?_); rintro e w1 ⟨rfl, rfl⟩))
          go_ret
          exact ⟨rfl, rfl⟩
      · rw [decide_eq_false h1, Bool.and_false, Bool.false_and, Bool.false_and]
        go_enter Tryd.func18, Tryd.ntmps18
        go_wp2_with (first
          | ((with_reducible refine (C1.out _).mono ?_); rintro e w1 ⟨rfl, rfl⟩)
          | ((with_reducible refine (C2.out _).mono ?_); rintro e w1 ⟨rfl, rfl⟩))
        go_ret
        exact ⟨rfl, rfl⟩
set_option maxHeartbeats 1000000 in
theorem sf_Show (x y : Nat) (w : World) (ht : Tab w) : Calls Tryd.prog 21 #[.complex .f64 x y] w fun e w' => e = .returned (.string (showF x y)) ∧ Below w.heap.size w w' := by
  have c1 := sf_parts x y
  obtain ⟨x0, x1⟩ := nF_in x
  obtain ⟨y0, y1⟩ := nF_in y
  unfold showF
  cases ho : (okF x && okF y)
  · rw [if_neg (by decide)]
    rw [ho] at c1
    have C1 := Lib.hid c1
    clear c1 ho
    go_enter Tryd.func21, Tryd.ntmps21
    go_wp2_with ((with_reducible refine (C1.out _).mono ?_); rintro e w1 ⟨rfl, rfl⟩)
    go_ret
    exact ⟨rfl, Below.refl _ _⟩
  · rw [if_pos rfl]
    rw [ho] at c1
    have C1 := Lib.hid c1
    have C2 := Lib.hid (sp_Itoa (nF x) x0 x1)
    have C3 := Lib.hid (sp_Itoa (nF y) y0 y1)
    have z1 := itoaS_size (nF x) x0 x1
    have z2 := itoaS_size (nF y) y0 y1
    have hu := Up.refl w
    have HT := Lib.hid ht
    have k1 : ¬ 9223372036854775807 < (itoaS (nF x)).size + (⟨#[43]⟩ : ByteArray).size := by rw [show (⟨#[43]⟩ : ByteArray).size = 1 from rfl]; omega
    have k2 : ¬ 9223372036854775807 < (itoaS (nF x) ++ ⟨#[43]⟩).size + (itoaS (nF y)).size := by rw [ByteArray.size_append, show (⟨#[43]⟩ : ByteArray).size = 1 from rfl]; omega
    have k3 : ¬ 9223372036854775807 < (itoaS (nF x) ++ ⟨#[43]⟩ ++ itoaS (nF y)).size + (⟨#[105]⟩ : ByteArray).size := by rw [ByteArray.size_append, ByteArray.size_append, show (⟨#[43]⟩ : ByteArray).size = 1 from rfl, show (⟨#[105]⟩ : ByteArray).size = 1 from rfl]; omega
    clear c1 ho ht z1 z2
    generalize nF x = nx at *
    generalize nF y = ny at *
    generalize itoaS nx = X at *
    generalize itoaS ny = Y at *
    go_enter Tryd.func21, Tryd.ntmps21
    go_wp2_with (first
      | ((with_reducible refine (C1.out _).mono ?_); rintro e w1 ⟨rfl, rfl⟩)
      | ((with_reducible refine (C2.out _ (HT.out.up hu)).mono ?_); rintro e w1 ⟨rfl, hB⟩; replace hu := hu.next hB; clear hB C2)
      | ((with_reducible refine (C3.out _ (HT.out.up hu)).mono ?_); rintro e w1 ⟨rfl, hB⟩; replace hu := hu.next hB; clear hB C3))
    go_ret
    exact ⟨rfl, hu⟩
end Go.Proofs.YthhbndepiofmeaaDoor
