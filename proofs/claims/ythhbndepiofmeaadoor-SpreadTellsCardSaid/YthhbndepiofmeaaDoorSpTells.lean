import Derived.Test.YthhbndepiofmeaaDoorSpTell3
import Derived.Test.YthhbndepiofmeaaDoorSpOpen2
import Derived.Test.YthhbndepiofmeaaDoorSpFixed
namespace Bw
open Go Ieee
theorem ofFrom_bound (most : Int) (n : Nat) : ∀ (l : List LeafZ) (k : Nat) (s : Int × Int) (ahead : Int) (t : Int × Int), ofFrom most n k s ahead l = some t → s.1 ≤ t.1 ∧ t.1 ≤ s.1 + 1024 * l.length ∧ s.2 ≤ t.2 ∧ t.2 ≤ s.2 + 1024 * l.length
  | [], k, s, ahead, t, h => by
    simp only [ofFrom] at h
    injection h with h
    subst h
    simp
  | x :: l, k, s, ahead, t, h => by
    simp only [ofFrom] at h
    split at h
    · have ih := ofFrom_bound most n l _ _ _ _ h
      obtain ⟨b1, b2, b3, b4⟩ := one_bounds ahead x.1 x.2 most
      simp only [stepP] at ih
      simp only [List.length_cons]
      split at ih <;> omega
    · cases h
theorem ofS_bound (l : List LeafZ) (most : Int) (h : l.length ≤ 60) : 0 ≤ (ofS l most).1 ∧ (ofS l most).1 ≤ 70000 ∧ 0 ≤ (ofS l most).2 ∧ (ofS l most).2 ≤ 70000 := by
  unfold ofS ofO
  split
  · cases hF : ofFrom most l.length 0 (0, 0) (-1) l with
    | none => simp
    | some t =>
      have := ofFrom_bound _ _ _ _ _ _ _ hF
      simp only [Option.getD_some]
      omega
  · simp
end Bw
namespace Go.Proofs.YthhbndepiofmeaaDoor
open Go.RowKit Bw
set_option linter.unusedVariables false
set_option maxHeartbeats 4000000 in
set_option maxRecDepth 100000 in
theorem tells_law (a0 : Option Addr) (z0 : List LeafZ) (c0' : Nat) (n1 : Int) (x2 : Nat → Int) (w : World) (h0 : z0.length ≤ maxLen ∧ z0.length ≤ c0' ∧ (a0 = none → c0' = 0) ∧ LeavesAt w a0 z0) (h1 : (Lit.int .i64 n1).wf = true) (h2 : ∀ j, j < 4 → (Lit.int .i64 (x2 j)).wf = true) (ht : Tab w) :
    Calls Tryd.prog 3 #[.slice a0 z0.length c0', .int .i64 n1, .agg #[.int .i64 (x2 0), .int .i64 (x2 1), .int .i64 (x2 2), .int .i64 (x2 3)]] w fun e w' => e = .returned (.bool true) ∧ Below w.heap.size w w' := by
  obtain ⟨m0, m1, m2, m3⟩ := h0
  have HT := Lib.hid ht
  have CF := Lib.hid law18_fixed
  have CC := Lib.hid (fun w' h => law_Cut z0 a0 c0' w' (m3.up h) m1 m2 m0)
  have hu := Up.refl w
  clear ht h1 h2 m2 m3
  generalize x2 0 = y0 at *
  generalize x2 1 = y1 at *
  generalize x2 2 = y2 at *
  generalize x2 3 = y3 at *
  have hlen : (z0.take 60).length ≤ 60 := by rw [List.length_take]; omega
  generalize z0.take 60 = L at *
  have CO := Lib.hid (fun q c w' h => sp_Of L q c n1 w' h (by omega))
  have CR := Lib.hid (fun q c w' h => r_Of L q c n1 w' h (by omega))
  have CL := Lib.hid (fun q c w' h => law_leaves L q c w' h (by omega))
  go_enter Tryd.func3, Tryd.ntmps3
  go_upto_region 1 with fail
  have rr := RowAt.made w 23 [.int .i64 y0, .int .i64 y1, .int .i64 y2, .int .i64 y3]
  replace hu := hu.alloc (.cells #[.int .i64 y0, .int .i64 y1, .int .i64 y2, .int .i64 y3] 23)
  change RowAt (w.alloc (.cells #[.int .i64 y0, .int .i64 y1, .int .i64 y2, .int .i64 y3] 23)) _ _ at rr
  generalize w.heap.size = g at *
  generalize w.alloc (.cells #[.int .i64 y0, .int .i64 y1, .int .i64 y2, .int .i64 y3] 23) = w0 at *
  go_upto_region 2 with ((with_reducible refine (CC.out _ hu).mono ?_); rintro e w1 ⟨q1, cp1, rfl, hL1, hB⟩; replace rr := rr.up hB; replace hu := hu.next hB; clear hB)
  go_upto_region 3 with ((with_reducible refine (CO.out _ _ _ hL1).mono ?_); rintro e w2 ⟨rfl, hB⟩; replace rr := rr.up hB; replace hu := hu.next hB; replace hL1 := hL1.up hB; clear hB)
  obtain ⟨s, r, hsr, hs0, hs1, hr0, hr1⟩ : ∃ s r : Int, ofS L n1 = (s, r) ∧ 0 ≤ s ∧ s ≤ 70000 ∧ 0 ≤ r ∧ r ≤ 70000 := ⟨(ofS L n1).1, (ofS L n1).2, rfl, ofS_bound L n1 hlen⟩
  rw [hsr] at CR ⊢
  unfold spV at CR
  generalize ofZ L n1 = E at *
  go_upto_region 4 with (first
    | ((with_reducible refine (CL.out _ _ _ hL1).mono ?_); rintro e w3 ⟨q3, cp3, rfl, hL3, hB⟩; replace rr := rr.up hB; replace hu := hu.next hB; clear hB)
    | ((with_reducible refine (CR.out _ _ _ hL3).mono ?_); rintro e w4 ⟨rfl, hB⟩; replace rr := rr.up hB; replace hu := hu.next hB; clear hB))
  have rs := RowAt.made w4 30 [.int .i64 s, .int .i64 r]
  replace rr := rr.alloc (.cells #[.int .i64 s, .int .i64 r] 30)
  replace hu := hu.alloc (.cells #[.int .i64 s, .int .i64 r] 30)
  change RowAt (w4.alloc (.cells #[.int .i64 s, .int .i64 r] 30)) _ _ at rs
  generalize w4.heap.size = g5 at *
  generalize w4.alloc (.cells #[.int .i64 s, .int .i64 r] 30) = w5 at *
  have f1 := ford_eq (show Small s by unfold Small; omega)
  have f2 := ford_eq (show Small r by unfold Small; omega)
  obtain ⟨b1, b2, b3, b4⟩ := one_bounds y0 y1 y2 y3
  have f3 := ford_eq (show Small (oneP y0 y1 y2 y3) by unfold Small; omega)
  have f4 := ford_eq (show Small (oneW y0 y1 y2 y3) by unfold Small; omega)
  have D1 := Lib.hid (sp_One y0 y1 y2 y3)
  have D2 := r_One y0 y1 y2 y3
  have D3 := fun w => (law_Of s r w).mono fun e w' h => (⟨h.1, by rw [h.2]; exact (Up.refl w).alloc _⟩ : e = .returned (.complex .f64 (fltZ s) (fltZ r)) ∧ Below w.heap.size w w')
  have D4 := fun w => (law_Of (oneP y0 y1 y2 y3) (oneW y0 y1 y2 y3) w).mono fun e w' h => (⟨h.1, by rw [h.2]; exact (Up.refl w).alloc _⟩ : e = .returned (.complex .f64 (fltZ (oneP y0 y1 y2 y3)) (fltZ (oneW y0 y1 y2 y3))) ∧ Below w.heap.size w w')
  unfold spV at D2 D3 D4
  replace D2 := Lib.hid D2; replace D3 := Lib.hid D3; replace D4 := Lib.hid D4
  generalize oneP y0 y1 y2 y3 = P at *
  generalize oneW y0 y1 y2 y3 = U at *
  obtain ⟨p0, p1, -, -⟩ := rs.c2
  have l0 := Later.cell_of p0; have l1 := Later.cell_of p1
  have l2 := Later.cell_of (rr.cell 0 (by simp)); have l3 := Later.cell_of (rr.cell 1 (by simp)); have l4 := Later.cell_of (rr.cell 2 (by simp)); have l5 := Later.cell_of (rr.cell 3 (by simp))
  simp only [List.getElem_cons_zero, List.getElem_cons_succ] at l2 l3 l4 l5
  have hne := later_ne w5
  have HU := Lib.hid hu
  clear hu p0 p1 rr rs CC CL CO CR hL1 hL3 b1 b2 b3 b4
  refine wp_region_later (by kernel_rfl) (by kernel_rfl) ?_
  repeat (go_big_quiet_step (first
    | (go_at_call 13; with_reducible first | exact Calls.later (D3.out _) | exact Calls.later (D4.out _))
    | (go_at_call 14; with_reducible exact Calls.later_same (D1.out _))
    | (go_at_call 15; with_reducible exact Calls.later (D2.out _))
    | (go_at_call 16; rename_i ul; exact Calls.later (CF.out _ (HT.out.up (HU.out.next ul.up))))))
  refine wpQuiet_nil ?_
  intro w9 hw9
  obtain ⟨u9, rfl⟩ := hw9
  have hu9 := HU.out.next u9.up
  clear l0 l1 l2 l3 l4 l5 hne
  generalize u9.world = w9 at *
  go_wp2_with fail
  go_ret
  exact ⟨rfl, hu9⟩
end Go.Proofs.YthhbndepiofmeaaDoor
