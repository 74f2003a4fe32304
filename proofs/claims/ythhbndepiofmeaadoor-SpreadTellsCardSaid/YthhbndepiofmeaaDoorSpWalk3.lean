import Derived.Test.YthhbndepiofmeaaDoorSpWalk2
namespace Bw
open Go Ieee
def inB (n l m : Int) : Bool := decide (l ≤ n) && decide (n ≤ m)
def rightOne (ahead page weight most : Int) : Bool := inB ahead (-1) 1023 && inB page 0 1023 && (inB weight 0 1000 && inB most 0 1000)
def farP (ahead page : Int) : Int := if ahead = -1 then 0 else max (page - ahead - 1) (-(page - ahead - 1))
def oneP (ahead page weight most : Int) : Int := if rightOne ahead page weight most = true then farP ahead page else 0
def oneW (ahead page weight most : Int) : Int := if rightOne ahead page weight most = true then max 0 (most - weight) else 0
end Bw
namespace Go.Proofs.YthhbndepiofmeaaDoor
open Go.RowKit Bw
set_option linter.unusedVariables false
theorem sp_in (n l m : Int) (w : World) : Calls Tryd.prog 23 #[.int .i64 n, .int .i64 l, .int .i64 m] w fun e w' => e = .returned (.bool (inB n l m)) ∧ w = w' := sp_within n l m w
set_option maxHeartbeats 1000000 in
theorem sp_One (ahead page weight most : Int) (w : World) : Calls Tryd.prog 14 #[.int .i64 ahead, .int .i64 page, .int .i64 weight, .int .i64 most] w fun e w' =>
    e = .returned (.complex .f64 (fltZ (oneP ahead page weight most)) (fltZ (oneW ahead page weight most))) ∧ w = w' := by
  have c1 := sp_in ahead (-1) 1023
  have c2 := sp_in page 0 1023
  have c3 := sp_in weight 0 1000
  have c4 := sp_in most 0 1000
  cases hr : rightOne ahead page weight most
  · have e1 : oneP ahead page weight most = 0 := by simp [oneP, hr]
    have e2 : oneW ahead page weight most = 0 := by simp [oneW, hr]
    rw [e1, e2, c0]
    unfold rightOne at hr
    generalize inB ahead (-1) 1023 = b1 at *
    generalize inB page 0 1023 = b2 at *
    generalize inB weight 0 1000 = b3 at *
    generalize inB most 0 1000 = b4 at *
    have C1 := Lib.hid c1; have C2 := Lib.hid c2; have C3 := Lib.hid c3; have C4 := Lib.hid c4
    clear c1 c2 c3 c4 e1 e2
    have HR := Lib.hid hr
    clear hr
    cases b1 <;> cases b2 <;> cases b3 <;> cases b4
    all_goals first
      | (exfalso; have := HR.out; simp at this; done)
      | (clear HR
         go_enter Tryd.func14, Tryd.ntmps14
         go_wp2_with (first
           | ((with_reducible refine (C1.out _).mono ?_); rintro e w1 ⟨rfl, rfl⟩)
           | ((with_reducible refine (C2.out _).mono ?_); rintro e w1 ⟨rfl, rfl⟩)
           | ((with_reducible refine (C3.out _).mono ?_); rintro e w1 ⟨rfl, rfl⟩)
           | ((with_reducible refine (C4.out _).mono ?_); rintro e w1 ⟨rfl, rfl⟩))
         go_ret
         exact ⟨rfl, rfl⟩)
  · have e1 : oneP ahead page weight most = farP ahead page := by simp [oneP, hr]
    have e2 : oneW ahead page weight most = max 0 (most - weight) := by simp [oneW, hr]
    rw [e1, e2]
    unfold rightOne at hr
    simp only [Bool.and_eq_true] at hr
    obtain ⟨⟨h1, h2⟩, h3, h4⟩ := hr
    rw [h1] at c1; rw [h2] at c2; rw [h3] at c3; rw [h4] at c4
    simp only [inB, Bool.and_eq_true, decide_eq_true_eq] at h1 h2 h3 h4
    obtain ⟨a0, a1⟩ := h1
    obtain ⟨p0, p1⟩ := h2
    obtain ⟨w0, w1⟩ := h3
    obtain ⟨m0, m1⟩ := h4
    have C1 := Lib.hid c1; have C2 := Lib.hid c2; have C3 := Lib.hid c3; have C4 := Lib.hid c4; have C5 := Lib.hid sp_whole
    clear c1 c2 c3 c4 e1 e2
    by_cases hm : ahead = -1
    · have e3 : farP ahead page = 0 := if_pos hm
      rw [e3]
      have hb : (ahead == -1) = true := by rw [hm]; rfl
      clear hm e3
      go_enter Tryd.func14, Tryd.ntmps14
      go_wp2_with (first
        | ((with_reducible refine (C1.out _).mono ?_); rintro e w1 ⟨rfl, rfl⟩)
        | ((with_reducible refine (C2.out _).mono ?_); rintro e w1 ⟨rfl, rfl⟩)
        | ((with_reducible refine (C3.out _).mono ?_); rintro e w1 ⟨rfl, rfl⟩)
        | ((with_reducible refine (C4.out _).mono ?_); rintro e w1 ⟨rfl, rfl⟩)
        | ((with_reducible refine (C5.out _ _ _).mono ?_); rintro e w1 ⟨rfl, rfl⟩))
      go_ret
      exact ⟨rfl, rfl⟩
    · have e3 : farP ahead page = max (page - ahead - 1) (-(page - ahead - 1)) := if_neg hm
      rw [e3]
      have hb : (ahead == -1) = false := beq_eq_false_iff_ne.2 hm
      clear hm e3
      go_enter Tryd.func14, Tryd.ntmps14
      go_wp2_with (first
        | ((with_reducible refine (C1.out _).mono ?_); rintro e w1 ⟨rfl, rfl⟩)
        | ((with_reducible refine (C2.out _).mono ?_); rintro e w1 ⟨rfl, rfl⟩)
        | ((with_reducible refine (C3.out _).mono ?_); rintro e w1 ⟨rfl, rfl⟩)
        | ((with_reducible refine (C4.out _).mono ?_); rintro e w1 ⟨rfl, rfl⟩)
        | ((with_reducible refine (C5.out _ _ _).mono ?_); rintro e w1 ⟨rfl, rfl⟩))
      go_ret
      exact ⟨rfl, rfl⟩
end Go.Proofs.YthhbndepiofmeaaDoor
