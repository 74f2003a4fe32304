/- Layer 18: Of for any 'most'; the document's One. -/
import Derived.Test.YthhbndepiofmeaaDoorSpRef2
import Derived.Test.YthhbndepiofmeaaDoorSpWalk4
namespace Bw
open Go Ieee
theorem ofO_out (l : List LeafZ) {most : Int} (h : inB most 0 1000 = false) : ofS l most = (0, 0) ∧ ofZ l most = 1 := by
  have : ofO l most = none := by unfold ofO; rw [h, Bool.and_false, if_neg (by decide)]
  exact ⟨by simp [ofS, this], by simp [ofZ, this]⟩
end Bw
namespace Go.Proofs.YthhbndepiofmeaaDoor
open Go.RowKit Bw
set_option linter.unusedVariables false
theorem sp_Of (l : List LeafZ) (q : Option Addr) (cap : Nat) (most : Int) (w : World) (hl : LeavesAt w q l) (hn : l.length ≤ 1024) :
    Calls Tryd.prog 10 #[.slice q l.length cap, .int .i64 most] w fun e w' => e = .returned (.tuple #[.complex .f64 (fltZ (ofS l most).1) (fltZ (ofS l most).2), .int .i64 (ofZ l most)]) ∧ Below w.heap.size w w' := by
  cases hm : inB most 0 1000
  · obtain ⟨e1, e2⟩ := ofO_out l hm
    rw [e1, e2, c0]
    have c1 := sp_in most 0 1000
    rw [hm] at c1
    have C1 := Lib.hid c1
    have j0 : ¬ (1024 : Int) < (l.length : Int) := by omega
    clear c1 e1 e2 hm
    go_enter Tryd.func10, Tryd.ntmps10
    go_wp2_with ((with_reducible refine (C1.out _).mono ?_); rintro e w1 ⟨rfl, rfl⟩)
    go_ret2
    exact ⟨rfl, Below.refl _ _⟩
  · refine (sp_Of_in l q cap most w hl hn hm).mono fun e w' h => ?_
    obtain ⟨s, r, rfl, hs, hb⟩ := h
    rw [← hs]
    exact ⟨rfl, hb⟩
set_option maxHeartbeats 1000000 in
theorem r_One (a p q m : Int) (w : World) : Calls Tryd.prog 15 #[.int .i64 a, .int .i64 p, .int .i64 q, .int .i64 m] w fun e w' => e = .returned (spV (oneP a p q m) (oneW a p q m)) ∧ Below w.heap.size w w' := by
  have c1 := r_in a (-1) 1023
  have c2 := r_in p 0 1023
  have c3 := r_in q 0 1000
  have c4 := r_in m 0 1000
  unfold spV
  have hu := Up.refl w
  cases hr : rightOne a p q m
  · have e1 : oneP a p q m = 0 := by simp [oneP, hr]
    have e2 : oneW a p q m = 0 := by simp [oneW, hr]
    rw [e1, e2]
    unfold rightOne at hr
    clear e1 e2
    generalize inB a (-1) 1023 = b1 at *
    generalize inB p 0 1023 = b2 at *
    generalize inB q 0 1000 = b3 at *
    generalize inB m 0 1000 = b4 at *
    have C1 := Lib.hid c1; have C2 := Lib.hid c2; have C3 := Lib.hid c3; have C4 := Lib.hid c4
    clear c1 c2 c3 c4
    have hc : b1 = false ∨ b1 = true ∧ b2 = false ∨ b1 = true ∧ b2 = true ∧ b3 = false ∨ b1 = true ∧ b2 = true ∧ b3 = true ∧ b4 = false := by
      cases b1 <;> cases b2 <;> cases b3 <;> cases b4 <;> simp_all
    clear hr
    rcases hc with rfl | ⟨rfl, rfl⟩ | ⟨rfl, rfl, rfl⟩ | ⟨rfl, rfl, rfl, rfl⟩
    all_goals
      go_enter Tryd.func15, Tryd.ntmps15
      go_wp2_with (first
        | ((with_reducible refine (C1.out _).mono ?_); rintro e wn ⟨rfl, rfl⟩)
        | ((with_reducible refine (C2.out _).mono ?_); rintro e wn ⟨rfl, rfl⟩)
        | ((with_reducible refine (C3.out _).mono ?_); rintro e wn ⟨rfl, rfl⟩)
        | ((with_reducible refine (C4.out _).mono ?_); rintro e wn ⟨rfl, rfl⟩))
      · refine bodyPost_ret (v := .agg #[.int .i64 0, .int .i64 0]) (by simp [results, Tryd.results15, go_sem, *]) rfl ⟨rfl, ?_⟩
        repeat (first | refine Up.setCell ?_ _ _ _ (by first | omega | (simp; done) | (simp; omega)) | refine Up.alloc ?_ _)
        exact hu
  · have e1 : oneP a p q m = farP a p := by simp [oneP, hr]
    have e2 : oneW a p q m = max 0 (m - q) := by simp [oneW, hr]
    rw [e1, e2]
    unfold rightOne at hr
    obtain ⟨hr1, hr2⟩ := Bool.and_eq_true_iff.1 hr
    obtain ⟨r1, r2⟩ := Bool.and_eq_true_iff.1 hr1
    obtain ⟨r3, r4⟩ := Bool.and_eq_true_iff.1 hr2
    rw [r1] at c1
    rw [r2] at c2
    rw [r3] at c3
    rw [r4] at c4
    obtain ⟨a0, a1⟩ : -1 ≤ a ∧ a ≤ 1023 := by simpa [inB] using r1
    obtain ⟨p0, p1⟩ : 0 ≤ p ∧ p ≤ 1023 := by simpa [inB] using r2
    obtain ⟨q0, q1⟩ : 0 ≤ q ∧ q ≤ 1000 := by simpa [inB] using r3
    obtain ⟨m0, m1⟩ : 0 ≤ m ∧ m ≤ 1000 := by simpa [inB] using r4
    have C1 := Lib.hid c1; have C2 := Lib.hid c2; have C3 := Lib.hid c3; have C4 := Lib.hid c4
    clear c1 c2 c3 c4 hr hr1 hr2 r1 r2 r3 r4 e1 e2
    have hw : (¬ q < m ∧ max 0 (m - q) = 0) ∨ (q < m ∧ max 0 (m - q) = m - q) := by omega
    have ha : (¬ 0 ≤ a ∧ farP a p = 0) ∨ (0 ≤ a ∧ a < p ∧ ¬ p ≤ a ∧ farP a p = p - a - 1) ∨ (0 ≤ a ∧ ¬ a < p ∧ p ≤ a ∧ farP a p = a + 1 - p) := by
      unfold farP
      by_cases h : a = -1
      · left; rw [if_pos h]; omega
      · rw [if_neg h]; omega
    rcases ha with ⟨b1, b2⟩ | ⟨b1, b3, b4, b2⟩ | ⟨b1, b3, b4, b2⟩ <;> rcases hw with ⟨d1, d2⟩ | ⟨d1, d2⟩
    all_goals
      rw [b2, d2]
      clear b2 d2
      go_enter Tryd.func15, Tryd.ntmps15
      go_wp2_with (first
        | ((with_reducible refine (C1.out _).mono ?_); rintro e wn ⟨rfl, rfl⟩)
        | ((with_reducible refine (C2.out _).mono ?_); rintro e wn ⟨rfl, rfl⟩)
        | ((with_reducible refine (C3.out _).mono ?_); rintro e wn ⟨rfl, rfl⟩)
        | ((with_reducible refine (C4.out _).mono ?_); rintro e wn ⟨rfl, rfl⟩))
    · refine bodyPost_ret (v := .agg #[.int .i64 0, .int .i64 0]) (by simp [results, Tryd.results15, go_sem, *]) rfl ⟨rfl, ?_⟩
      repeat (first | refine Up.setCell ?_ _ _ _ (by first | omega | (simp; done) | (simp; omega)) | refine Up.alloc ?_ _)
      exact hu
    · refine bodyPost_ret (v := .agg #[.int .i64 0, .int .i64 (m - q)]) (by simp [results, Tryd.results15, go_sem, *]) rfl ⟨rfl, ?_⟩
      repeat (first | refine Up.setCell ?_ _ _ _ (by first | omega | (simp; done) | (simp; omega)) | refine Up.alloc ?_ _)
      exact hu
    · refine bodyPost_ret (v := .agg #[.int .i64 (p - a - 1), .int .i64 0]) (by simp [results, Tryd.results15, go_sem, *]) rfl ⟨rfl, ?_⟩
      repeat (first | refine Up.setCell ?_ _ _ _ (by first | omega | (simp; done) | (simp; omega)) | refine Up.alloc ?_ _)
      exact hu
    · refine bodyPost_ret (v := .agg #[.int .i64 (p - a - 1), .int .i64 (m - q)]) (by simp [results, Tryd.results15, go_sem, *]) rfl ⟨rfl, ?_⟩
      repeat (first | refine Up.setCell ?_ _ _ _ (by first | omega | (simp; done) | (simp; omega)) | refine Up.alloc ?_ _)
      exact hu
    · refine bodyPost_ret (v := .agg #[.int .i64 (a + 1 - p), .int .i64 0]) (by simp [results, Tryd.results15, go_sem, *]) rfl ⟨rfl, ?_⟩
      repeat (first | refine Up.setCell ?_ _ _ _ (by first | omega | (simp; done) | (simp; omega)) | refine Up.alloc ?_ _)
      exact hu
    · refine bodyPost_ret (v := .agg #[.int .i64 (a + 1 - p), .int .i64 (m - q)]) (by simp [results, Tryd.results15, go_sem, *]) rfl ⟨rfl, ?_⟩
      repeat (first | refine Up.setCell ?_ _ _ _ (by first | omega | (simp; done) | (simp; omega)) | refine Up.alloc ?_ _)
      exact hu
end Go.Proofs.YthhbndepiofmeaaDoor
