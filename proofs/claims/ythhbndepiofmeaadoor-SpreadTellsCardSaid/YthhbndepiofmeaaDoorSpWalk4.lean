import Derived.Test.YthhbndepiofmeaaDoorSpWalk3
namespace Bw
open Go Ieee Go.RowKit
set_option linter.unusedVariables false
abbrev LeafZ := Int × Int
def leafOk (most : Int) (x : LeafZ) : Bool := inB x.1 0 1023 && inB x.2 0 most
def stepP (ahead : Int) (x : LeafZ) (most : Int) (s : Int × Int) (last : Bool) : Int × Int := (s.1 + oneP ahead x.1 x.2 most, s.2 + (if last = true then 0 else oneW ahead x.1 x.2 most))
def isLast (n i : Nat) : Bool := decide (0 < i) && decide (i + 1 = n)
/-- The spread of what is left, from leaf i on. -/
def ofFrom (most : Int) (n : Nat) : Nat → Int × Int → Int → List LeafZ → Option (Int × Int)
  | _, s, _, [] => some s
  | i, s, ahead, x :: l => if leafOk most x = true then ofFrom most n (i + 1) (stepP ahead x most s (isLast n i)) x.1 l else none
def ofO (l : List LeafZ) (most : Int) : Option (Int × Int) := if decide (l.length ≤ 1024) && inB most 0 1000 then ofFrom most l.length 0 (0, 0) (-1) l else none
def ofS (l : List LeafZ) (most : Int) : Int × Int := (ofO l most).getD (0, 0)
def ofZ (l : List LeafZ) (most : Int) : Int := if (ofO l most).isSome = true then 0 else 1
theorem one_bounds (a p q m : Int) : 0 ≤ oneP a p q m ∧ oneP a p q m ≤ 1024 ∧ 0 ≤ oneW a p q m ∧ oneW a p q m ≤ 1000 := by
  unfold oneP oneW
  split
  · rename_i h
    simp only [rightOne, inB, Bool.and_eq_true, decide_eq_true_eq] at h
    unfold farP
    split <;> omega
  · omega
/-- Where leaves lie. -/
def LeavesAt (w : World) (q : Option Addr) (l : List LeafZ) : Prop := ∀ k (hk : k < l.length), ∃ g o, q = some ⟨g, o, none⟩ ∧ w.cell? ⟨g, o + k * 2, none⟩ = some (.int .i64 l[k].1) ∧ w.cell? ⟨g, o + k * 2 + 1, none⟩ = some (.int .i64 l[k].2)
theorem LeavesAt.up {w w' : World} {q : Option Addr} {l : List LeafZ} (h : LeavesAt w q l) (hu : Up w w') : LeavesAt w' q l := fun k hk => by
  obtain ⟨g, o, e, h1, h2⟩ := h k hk
  exact ⟨g, o, e, (Below.cell hu (World.block_lt_of_cell? w _ h1)).trans h1, (Below.cell hu (World.block_lt_of_cell? w _ h2)).trans h2⟩
end Bw
namespace Go.Proofs.YthhbndepiofmeaaDoor
open Go.RowKit Bw
set_option linter.unusedVariables false
theorem add_complex (a b c d : Int) (ha : 0 ≤ a) (hb : 0 ≤ b) (hc : 0 ≤ c) (hd : 0 ≤ d) (h1 : a + c ≤ 9000000000000000) (h2 : b + d ≤ 9000000000000000) (w : World) :
    (binOp .add 25 (.complex .f64 (fltZ a) (fltZ b)) (.complex .f64 (fltZ c) (fltZ d))).run Tryd.prog w = .ok (.complex .f64 (fltZ (a + c)) (fltZ (b + d))) w := by
  refine run_complex_sum w .add (.inl rfl) 25 .f64 _ _ _ _ _ _ ?_
  have e1 : floatBits .add .f64 (fltZ a) (fltZ c) = some (fltZ (a + c)) := add_fltZ a c (by omega) (by omega) (by omega) ha
  have e2 : floatBits .add .f64 (fltZ b) (fltZ d) = some (fltZ (b + d)) := add_fltZ b d (by omega) (by omega) (by omega) hb
  unfold cSumBits
  rw [e1, e2]
  rfl
set_option maxHeartbeats 2000000 in
theorem sp_Of_in (l : List LeafZ) (q : Option Addr) (cap : Nat) (most : Int) (w : World) (hl : LeavesAt w q l) (hn : l.length ≤ 1024) (hm : inB most 0 1000 = true) :
    Calls Tryd.prog 10 #[.slice q l.length cap, .int .i64 most] w fun e w' => ∃ s r : Int, e = .returned (.tuple #[.complex .f64 (fltZ s) (fltZ r), .int .i64 (ofZ l most)]) ∧ (s, r) = ofS l most ∧ Below w.heap.size w w' := by
  have c0' := sp_in most 0 1000
  rw [hm] at c0'
  have C0 := Lib.hid c0'
  have HO := Lib.hid (show ofO l most = ofFrom most l.length 0 (0, 0) (-1) l by simp [ofO, hn, hm])
  obtain ⟨m0, m1⟩ : 0 ≤ most ∧ most ≤ 1000 := by simpa [inB] using hm
  have j0 : ¬ (1024 : Int) < (l.length : Int) := by omega
  have hu := Up.refl w
  clear c0' hm
  go_enter Tryd.func10, Tryd.ntmps10
  go_wp2_with ((with_reducible refine (C0.out _).mono ?_); rintro e w1 ⟨rfl, rfl⟩)
  go_loopw [6, 7, 21] (fun v6 v7 v21 wr => ∃ (k : Nat) (s r ahead : Int), k ≤ l.length ∧ v6 = .complex .f64 (fltZ s) (fltZ r) ∧ v7 = .int .i64 ahead ∧ v21 = .int .i64 k ∧ ofO l most = ofFrom most l.length k (s, r) ahead (l.drop k) ∧ 0 ≤ s ∧ s ≤ 1024 * k ∧ 0 ≤ r ∧ r ≤ 1024 * k ∧ Up w wr) (fun _ _ v _ => l.length - (intOf v).toNat)
  case atStart => exact ⟨0, 0, 0, -1, by omega, by rw [c0], rfl, rfl, HO.out, by omega, by omega, by omega, by omega, hu⟩
  case round =>
  clear hu
  obtain ⟨k, s, r, ahead, hk, rfl, rfl, rfl, hF, s0, s1, r0, r1, hu⟩ := hrel
  by_cases hlt : k < l.length
  · have i0 : (0 : Int) ≤ (k : Int) := by omega
    have i1 : (k : Int) < (l.length : Int) := by omega
    obtain ⟨g, o, rfl, a1, a2⟩ := (hl.up hu) k hlt
    rw [List.drop_eq_getElem_cons hlt] at hF
    generalize l[k] = x at *
    obtain ⟨p, q⟩ := x
    simp only at a1 a2
    have c1 := sp_in p 0 1023
    have c2 := sp_in q 0 most
    have C3 := Lib.hid (sp_One ahead p q most)
    cases hok : leafOk most (p, q)
    · have hF2 : ofO l most = none := by rw [hF]; simp [ofFrom, hok]
      have HF := Lib.hid (show ofS l most = (0, 0) ∧ ofZ l most = 1 by simp [ofS, ofZ, hF2])
      have HK := Lib.hid (show (inB p 0 1023 && inB q 0 most) = false from hok)
      clear hF hF2 hok
      generalize inB p 0 1023 = b1 at *
      generalize inB q 0 most = b2 at *
      have C1 := Lib.hid c1; have C2 := Lib.hid c2
      clear c1 c2
      cases b1 <;> cases b2
      all_goals first
        | (exfalso; have := HK.out; simp at this; done)
        | (clear HK
           go_wp2_with (first
             | ((with_reducible refine (C1.out _).mono ?_); rintro e w1 ⟨rfl, rfl⟩)
             | ((with_reducible refine (C2.out _).mono ?_); rintro e w1 ⟨rfl, rfl⟩))
           go_ret2
           exact ⟨0, 0, by rw [c0, HF.out.2]; rfl, HF.out.1.symm, hu.alloc _⟩)
    · obtain ⟨k1, k2⟩ := Bool.and_eq_true_iff.1 (show (inB p 0 1023 && inB q 0 most) = true from hok)
      rw [k1] at c1
      rw [k2] at c2
      obtain ⟨p0, p1⟩ : 0 ≤ p ∧ p ≤ 1023 := by simpa [inB] using k1
      have hF2 : ofO l most = ofFrom most l.length (k + 1) (stepP ahead (p, q) most (s, r) (isLast l.length k)) p (l.drop (k + 1)) := by rw [hF]; simp [ofFrom, hok]
      obtain ⟨b1, b2, b3, b4⟩ := one_bounds ahead p q most
      have C1 := Lib.hid c1; have C2 := Lib.hid c2
      clear c1 c2 hok k1 k2 hF
      cases hlast : isLast l.length k
      · have hF3 : ofO l most = ofFrom most l.length (k + 1) (s + oneP ahead p q most, r + oneW ahead p q most) p (l.drop (k + 1)) := by rw [hF2, hlast]; rfl
        have HA := add_complex s r (oneP ahead p q most) (oneW ahead p q most) (by omega) (by omega) (by omega) (by omega) (by omega) (by omega)
        have HF := Lib.hid hF3
        clear hF2 hF3
        have hcase : k = 0 ∨ (0 < k ∧ k + 1 ≠ l.length) := by
          simp only [isLast, Bool.and_eq_false_iff, decide_eq_false_iff_not] at hlast
          omega
        clear hlast
        generalize oneP ahead p q most = P at *
        generalize oneW ahead p q most = Q at *
        rcases hcase with hk0 | ⟨hk0, hk1⟩
        · have n0 : ¬ (0 : Int) < (k : Int) := by omega
          clear hk0
          go_wp2_with (first
            | ((with_reducible refine (C1.out _).mono ?_); rintro e w1 ⟨rfl, rfl⟩)
            | ((with_reducible refine (C2.out _).mono ?_); rintro e w1 ⟨rfl, rfl⟩)
            | ((with_reducible refine (C3.out _).mono ?_); rintro e w1 ⟨rfl, rfl⟩))
          exact ⟨⟨k + 1, s + P, r + Q, p, by omega, rfl, rfl, by go_num, HF.out, by omega, by omega, by omega, by omega, hu.alloc _⟩, by simp [intOf]; omega⟩
        · have n0 : (0 : Int) < (k : Int) := by omega
          have n1 : ((k : Int) == (l.length : Int) - 1) = false := beq_eq_false_iff_ne.2 (by omega)
          clear hk0 hk1
          go_wp2_with (first
            | ((with_reducible refine (C1.out _).mono ?_); rintro e w1 ⟨rfl, rfl⟩)
            | ((with_reducible refine (C2.out _).mono ?_); rintro e w1 ⟨rfl, rfl⟩)
            | ((with_reducible refine (C3.out _).mono ?_); rintro e w1 ⟨rfl, rfl⟩))
          exact ⟨⟨k + 1, s + P, r + Q, p, by omega, rfl, rfl, by go_num, HF.out, by omega, by omega, by omega, by omega, hu.alloc _⟩, by simp [intOf]; omega⟩
      · have hF3 : ofO l most = ofFrom most l.length (k + 1) (s + oneP ahead p q most, r) p (l.drop (k + 1)) := by rw [hF2, hlast]; simp [stepP]
        have HA := add_complex s r (oneP ahead p q most) 0 (by omega) (by omega) (by omega) (by omega) (by omega) (by omega)
        rw [c0] at HA
        have HF := Lib.hid hF3
        clear hF2 hF3
        obtain ⟨hk0, hk1⟩ : 0 < k ∧ k + 1 = l.length := by simpa [isLast] using hlast
        clear hlast
        have n0 : (0 : Int) < (k : Int) := by omega
        have n1 : ((k : Int) == (l.length : Int) - 1) = true := beq_iff_eq.2 (by omega)
        clear hk0 hk1
        generalize oneP ahead p q most = P at *
        generalize oneW ahead p q most = Q at *
        go_wp2_with (first
          | ((with_reducible refine (C1.out _).mono ?_); rintro e w1 ⟨rfl, rfl⟩)
          | ((with_reducible refine (C2.out _).mono ?_); rintro e w1 ⟨rfl, rfl⟩)
          | ((with_reducible refine (C3.out _).mono ?_); rintro e w1 ⟨rfl, rfl⟩))
        exact ⟨⟨k + 1, s + P, r, p, by omega, rfl, rfl, by go_num, HF.out, by omega, by omega, by omega, by omega, hu.alloc _⟩, by simp [intOf]; omega⟩
  · have i1 : ¬ (k : Int) < (l.length : Int) := by omega
    have hF2 : ofO l most = some (s, r) := by rw [hF, List.drop_of_length_le (by omega)]; rfl
    have HF := Lib.hid (show ofS l most = (s, r) ∧ ofZ l most = 0 by simp [ofS, ofZ, hF2])
    clear hF hF2 hlt
    go_wp2_with fail
    go_ret2
    exact ⟨s, r, by rw [HF.out.2]; rfl, HF.out.1.symm, hu⟩
end Go.Proofs.YthhbndepiofmeaaDoor
