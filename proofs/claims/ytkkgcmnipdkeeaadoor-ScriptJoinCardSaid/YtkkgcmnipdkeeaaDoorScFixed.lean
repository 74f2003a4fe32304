/- Layer 24: the law's fixed calls. -/
import Derived.Test.YtkkgcmnipdkeeaaDoorScWalk11
import Derived.Test.YtkkgcmnipdkeeaaDoorScWalk7
import Derived.Test.YtkkgcmnipdkeeaaDoorScWalk8
import Derived.Test.YtkkgcmnipdkeeaaDoorScWalk4
namespace Bw
def xP : ActD := ⟨2, 2, ⟨#[107]⟩, ⟨#[]⟩, 0, []⟩
def xC : ActD := ⟨11, 0, ⟨#[]⟩, ⟨#[]⟩, 0, [0, 2]⟩
def xS : ActD := ⟨7, 0, ⟨#[]⟩, ⟨#[]⟩, 0, []⟩
def xN : ActD := ⟨4, 8, ⟨#[]⟩, ⟨#[]⟩, 255, []⟩
def xG : ActD := ⟨1, 1, ⟨#[]⟩, ⟨#[]⟩, 0, []⟩
def xs5 : ByteArray := ⟨#[2, 2, 1, 107, 0]⟩
def xs3 : ByteArray := ⟨#[2, 2, 1, 107, 0, 11, 2, 0, 2, 7]⟩
theorem xP_enc : xP.enc = ⟨#[2, 2, 1, 107, 0]⟩ := by decide +kernel
theorem xC_enc : xC.enc = ⟨#[11, 2, 0, 2]⟩ := by decide +kernel
theorem xP_show : xP.show' = ⟨#[112, 117, 116, 32, 50, 32, 58, 54, 98, 32, 58]⟩ := by decide +kernel
theorem xC_show : xC.show' = ⟨#[99, 114, 97, 115, 104, 32, 58, 48, 50]⟩ := by decide +kernel
theorem xN_show : xN.show' = ⟨#[115, 99, 97, 110, 32, 56, 32, 58, 32, 50, 53, 53]⟩ := by decide +kernel
theorem xN_right : xN.right = true := by decide +kernel
theorem xG_right : xG.right = false := by decide +kernel
theorem xPC : decide (xP = xC) = false := by decide +kernel
theorem x3_D : actsD ⟨#[2, 2, 1, 107, 0, 11, 2, 0, 2, 7]⟩ = [xP, xC, xS] := by decide +kernel
theorem x3_E : actsE ⟨#[2, 2, 1, 107, 0, 11, 2, 0, 2, 7]⟩ = 0 := by decide +kernel
theorem x4_D : actsD ⟨#[2, 2, 1, 107]⟩ = [] := by decide +kernel
theorem x4_E : actsE ⟨#[2, 2, 1, 107]⟩ = 12 := by decide +kernel
theorem x1_D : actsD ⟨#[12]⟩ = [] := by decide +kernel
theorem x1_E : actsE ⟨#[12]⟩ = 12 := by decide +kernel
theorem x0_D : actsD ⟨#[]⟩ = [] := by decide +kernel
theorem x0_E : actsE ⟨#[]⟩ = 0 := by decide +kernel
end Bw
namespace Go.Proofs.YtkkgcmnipdkeeaaDoor
open Go.RowKit Bw
set_option linter.unusedVariables false
theorem own_capZ {w : World} {e : TypeId} {size : Nat} {q : Option Addr} {n c : Nat} {xs : List Value} (h : (ownZ e size (.slice q n c) n xs).holds w) : n ≤ c := by
  have h' : w.ownsRow 0 e size (.slice q n c) n xs := h
  rcases h'.2 with ⟨h1, h2⟩ | ⟨g, cap, cur, h1, -, -, h2, -⟩
  · injection h1 with e1 e2 e3
    subst e1 e3
    omega
  · injection h1 with e1 e2 e3
    subst e1 e3
    exact h2
theorem ints_two {w : World} {g : Nat} {a b : Int} (h : RowAt w g [.int .i64 a, .int .i64 b]) : IntsAt w (some ⟨g, 0, none⟩) [a, b] := fun i hi => by
  refine ⟨g, 0, rfl, ?_⟩
  have : i = 0 ∨ i = 1 := by simp at hi; omega
  rcases this with rfl | rfl
  · exact h.cell 0 (by simp)
  · exact h.cell 1 (by simp)
theorem dec_bad (s : ByteArray) (hs : s.size ≤ 1000000) {E : Int} (hD : actsD s = []) (hE : actsE s = E) (w : World) : Calls Tryd.prog 19 #[.string s] w fun e w' => ∃ q c, e = .returned (.tuple #[.slice q 0 c, .int .i64 E]) ∧ Below w.heap.size w w' := by
  refine (script_Decode s hs w).mono fun e w' ⟨q, c, I, h1, h2, h3⟩ => ?_
  rw [hD] at h1
  have : I = [] := List.map_eq_nil_iff.1 h1
  subst this
  rw [hE] at h2
  exact ⟨q, c, h2, h3.up⟩
theorem dec_three (w : World) : Calls Tryd.prog 19 #[.string ⟨#[2, 2, 1, 107, 0, 11, 2, 0, 2, 7]⟩] w fun e w' => ∃ (g c : Nat) (q1 q2 q3 : Option Addr) (c1 c2 c3 : Nat), e = .returned (.tuple #[.slice (some ⟨g, 0, none⟩) 3 c, .int .i64 0]) ∧
    (∀ j v, [Value.int .i64 2, .int .i64 2, .string ⟨#[107]⟩, .string ⟨#[]⟩, .int .i64 0, .slice q1 0 c1, .int .i64 11, .int .i64 0, .string ⟨#[]⟩, .string ⟨#[]⟩, .int .i64 0, .slice q2 2 c2, .int .i64 7, .int .i64 0, .string ⟨#[]⟩, .string ⟨#[]⟩, .int .i64 0, .slice q3 0 c3][j]? = some v → w'.cell? ⟨g, j, none⟩ = some v) ∧ 3 ≤ c ∧ IntsAt w' q2 [0, 2] ∧ Below w.heap.size w w' := by
  refine (script_Decode _ (by decide) w).mono fun e w' ⟨q, c, I, h1, h2, h3⟩ => ?_
  rw [x3_D] at h1
  rw [x3_E] at h2
  match I, h1 with
  | [(a1, q1, c1), (a2, q2, c2), (a3, q3, c3)], h1 =>
    simp only [List.map_cons, List.map_nil, List.cons.injEq, and_true] at h1
    obtain ⟨rfl, rfl, rfl⟩ := h1
    obtain ⟨q', cap, e1, -, hb⟩ := ownZ_form (h3.get 0 rfl)
    obtain ⟨b, rfl, hb1, hb2⟩ := hb (by simp)
    injection e1 with e2 e3 e4
    subst e2 e4
    refine ⟨b, c, q1, q2, q3, c1, c2, c3, h2, fun j v hj => ?_, own_capZ (h3.get 0 rfl), ((h3.get 1 rfl) (xC, q2, c2) (by simp)).1, h3.up⟩
    have hjl := (List.getElem?_eq_some_iff.1 hj).1
    rw [hb2 j (by simpa using hjl)]
    exact hj
-- WALK
set_option maxHeartbeats 4000000 in
set_option maxRecDepth 100000 in
theorem law24_fixed (w : World) (ht : Tab w) : Calls Tryd.prog 18 #[] w fun e w' => e = .returned (.bool true) ∧ Below w.heap.size w w' := by
  have E1 := Lib.hid (show ∀ w, Calls Tryd.prog 12 #[.agg #[.int .i64 2, .int .i64 2, .string ⟨#[107]⟩, .string ⟨#[]⟩, .int .i64 0, .slice none 0 0]] w fun e w' => e = .returned (.string ⟨#[2, 2, 1, 107, 0]⟩) ∧ Below w.heap.size w w' from fun w => by have := script_Encode xP (by decide) none 0 w (IntsAt.nil _ _); rw [xP_enc] at this; exact this)
  have E2 := Lib.hid (show ∀ w g, IntsAt w (some ⟨g, 0, none⟩) [0, 2] → Calls Tryd.prog 12 #[.agg #[.int .i64 11, .int .i64 0, .string ⟨#[]⟩, .string ⟨#[]⟩, .int .i64 0, .slice (some ⟨g, 0, none⟩) 2 2]] w fun e w' => e = .returned (.string ⟨#[11, 2, 0, 2]⟩) ∧ Below w.heap.size w w' from fun w g h => by have := script_Encode xC (by decide) (some ⟨g, 0, none⟩) 2 w h; rw [xC_enc] at this; exact this)
  have D1 := Lib.hid dec_three
  have D2 := Lib.hid (fun w => dec_bad ⟨#[2, 2, 1, 107]⟩ (by decide) x4_D x4_E w)
  have D3 := Lib.hid (fun w => dec_bad ⟨#[12]⟩ (by decide) x1_D x1_E w)
  have D4 := Lib.hid (fun w => dec_bad ⟨#[]⟩ (by decide) x0_D x0_E w)
  have Q1 := Lib.hid (show ∀ w q c, Calls Tryd.prog 16 #[.agg #[.int .i64 2, .int .i64 2, .string ⟨#[107]⟩, .string ⟨#[]⟩, .int .i64 0, .slice q 0 c], .agg #[.int .i64 2, .int .i64 2, .string ⟨#[107]⟩, .string ⟨#[]⟩, .int .i64 0, .slice none 0 0]] w fun e w' => e = .returned (.bool true) ∧ Below w.heap.size w w' from fun w q c => by have := script_Same xP xP q none c 0 w (IntsAt.nil _ _) (IntsAt.nil _ _) (by decide) (by decide); rw [decide_eq_true rfl] at this; exact this)
  have Q2 := Lib.hid (show ∀ w q c g, IntsAt w q [0, 2] → IntsAt w (some ⟨g, 0, none⟩) [0, 2] → Calls Tryd.prog 16 #[.agg #[.int .i64 11, .int .i64 0, .string ⟨#[]⟩, .string ⟨#[]⟩, .int .i64 0, .slice q 2 c], .agg #[.int .i64 11, .int .i64 0, .string ⟨#[]⟩, .string ⟨#[]⟩, .int .i64 0, .slice (some ⟨g, 0, none⟩) 2 2]] w fun e w' => e = .returned (.bool true) ∧ Below w.heap.size w w' from fun w q c g h1 h2 => by have := script_Same xC xC q (some ⟨g, 0, none⟩) c 2 w h1 h2 (by decide) (by decide); rw [decide_eq_true rfl] at this; exact this)
  have Q3 := Lib.hid (show ∀ w g, IntsAt w (some ⟨g, 0, none⟩) [0, 2] → Calls Tryd.prog 16 #[.agg #[.int .i64 2, .int .i64 2, .string ⟨#[107]⟩, .string ⟨#[]⟩, .int .i64 0, .slice none 0 0], .agg #[.int .i64 11, .int .i64 0, .string ⟨#[]⟩, .string ⟨#[]⟩, .int .i64 0, .slice (some ⟨g, 0, none⟩) 2 2]] w fun e w' => e = .returned (.bool false) ∧ Below w.heap.size w w' from fun w g h2 => by have := script_Same xP xC none (some ⟨g, 0, none⟩) 0 2 w (IntsAt.nil _ _) h2 (by decide) (by decide); rw [xPC] at this; exact this)
  have T1 := Lib.hid (show ∀ w, Calls Tryd.prog 9 #[.agg #[.int .i64 4, .int .i64 8, .string ⟨#[]⟩, .string ⟨#[]⟩, .int .i64 255, .slice none 0 0]] w fun e w' => e = .returned (.bool true) ∧ Below w.heap.size w w' from fun w => by have := script_Right xN (by decide) none 0 w (IntsAt.nil _ _); rw [xN_right] at this; exact this)
  have T2 := Lib.hid (show ∀ w, Calls Tryd.prog 9 #[.agg #[.int .i64 1, .int .i64 1, .string ⟨#[]⟩, .string ⟨#[]⟩, .int .i64 0, .slice none 0 0]] w fun e w' => e = .returned (.bool false) ∧ Below w.heap.size w w' from fun w => by have := script_Right xG (by decide) none 0 w (IntsAt.nil _ _); rw [xG_right] at this; exact this)
  have W1 := Lib.hid (show ∀ w, Tab w → Calls Tryd.prog 14 #[.agg #[.int .i64 2, .int .i64 2, .string ⟨#[107]⟩, .string ⟨#[]⟩, .int .i64 0, .slice none 0 0]] w fun e w' => e = .returned (.string ⟨#[112, 117, 116, 32, 50, 32, 58, 54, 98, 32, 58]⟩) ∧ Below w.heap.size w w' from fun w h => by have := script_Show xP (by decide) none 0 w (IntsAt.nil _ _) h; rw [xP_show] at this; exact this)
  have W2 := Lib.hid (show ∀ w g, IntsAt w (some ⟨g, 0, none⟩) [0, 2] → Tab w → Calls Tryd.prog 14 #[.agg #[.int .i64 11, .int .i64 0, .string ⟨#[]⟩, .string ⟨#[]⟩, .int .i64 0, .slice (some ⟨g, 0, none⟩) 2 2]] w fun e w' => e = .returned (.string ⟨#[99, 114, 97, 115, 104, 32, 58, 48, 50]⟩) ∧ Below w.heap.size w w' from fun w g h h2 => by have := script_Show xC (by decide) (some ⟨g, 0, none⟩) 2 w h h2; rw [xC_show] at this; exact this)
  have W3 := Lib.hid (show ∀ w, Tab w → Calls Tryd.prog 14 #[.agg #[.int .i64 4, .int .i64 8, .string ⟨#[]⟩, .string ⟨#[]⟩, .int .i64 255, .slice none 0 0]] w fun e w' => e = .returned (.string ⟨#[115, 99, 97, 110, 32, 56, 32, 58, 32, 50, 53, 53]⟩) ∧ Below w.heap.size w w' from fun w h => by have := script_Show xN (by decide) none 0 w (IntsAt.nil _ _) h; rw [xN_show] at this; exact this)
  have HT := Lib.hid ht
  clear ht
  go_enter Tryd.func18, Tryd.ntmps18
  go_upto_region 2 with fail
  have hD := (((Hold.start w).madeRow (.int .i64 0) [.int .i64 2] 3).madeRow (.int .i64 2) [.int .i64 2, .string ⟨#[107]⟩, .string ⟨#[]⟩, .int .i64 0, .slice none 0 0] 24).madeRow (.int .i64 11) [.int .i64 0, .string ⟨#[]⟩, .string ⟨#[]⟩, .int .i64 0, .slice (some ⟨w.heap.size, 0, none⟩) 2 2] 24
  simp only [World.size_alloc, List.nil_append, List.cons_append] at hD
  generalize ((w.alloc _).alloc _).alloc _ = wa at *
  replace hD : Hold w wa [rowR w.heap.size (.int .i64 0) [.int .i64 2], rowR (w.heap.size + 1) (.int .i64 2) [.int .i64 2, .string ⟨#[107]⟩, .string ⟨#[]⟩, .int .i64 0, .slice none 0 0], rowR (w.heap.size + 1 + 1) (.int .i64 11) [.int .i64 0, .string ⟨#[]⟩, .string ⟨#[]⟩, .int .i64 0, .slice (some ⟨w.heap.size, 0, none⟩) 2 2]] := hD
  obtain ⟨⟨p0, p1, p2, p3, p4, p5⟩, -⟩ := RowAt.c6 (hD.get 1 rfl)
  go_upto_region 3 with ((with_reducible refine (E1.out _).mono ?_); rintro e wn ⟨rfl, hb⟩; replace hD := hD.next hb; clear hb)
  clear p0 p1 p2 p3 p4 p5
  obtain ⟨⟨c0, c1, c2, c3, c4, c5⟩, -⟩ := RowAt.c6 (hD.get 2 rfl)
  have hcat : (⟨#[2, 2, 1, 107, 0]⟩ : ByteArray) ++ ⟨#[11, 2, 0, 2]⟩ = ⟨#[2, 2, 1, 107, 0, 11, 2, 0, 2]⟩ := by decide +kernel
  have hcat2 : (⟨#[2, 2, 1, 107, 0, 11, 2, 0, 2]⟩ : ByteArray) ++ ⟨#[7]⟩ = ⟨#[2, 2, 1, 107, 0, 11, 2, 0, 2, 7]⟩ := by decide +kernel
  have hcut : (⟨#[2, 2, 1, 107, 0]⟩ : ByteArray).extract 0 4 = ⟨#[2, 2, 1, 107]⟩ := by decide +kernel
  go_upto_region 6 with (first
    | ((with_reducible refine (E2.out _ _ (ints_two (hD.get 0 rfl))).mono ?_); rintro e wm ⟨rfl, hb⟩; replace hD := hD.next hb; clear hb)
    | ((with_reducible refine (D1.out _).mono ?_); rintro e wn ⟨g, cz, q1, q2, q3, k1, k2, k3, rfl, hc, hcz, hi2, hb⟩; replace hD := hD.next hb; clear hb))
  have hU := Up.refl wn
  clear c0 c1 c2 c3 c4 c5
  go_upto_region 7 with ((with_reducible refine (D2.out _).mono ?_); rintro e wb ⟨z1, z2, rfl, hb⟩; replace hD := hD.next hb; replace hU := hU.next hb; clear hb)
  go_upto_region 8 with ((with_reducible refine (D3.out _).mono ?_); rintro e wc ⟨z3, z4, rfl, hb⟩; replace hD := hD.next hb; replace hU := hU.next hb; clear hb)
  go_upto_region 11 with ((with_reducible refine (D4.out _).mono ?_); rintro e wd ⟨z5, z6, rfl, hb⟩; replace hD := hD.next hb; replace hU := hU.next hb; clear hb)
  go_upto_region 12 with fail
  replace hD := hD.madeRow (.int .i64 4) [.int .i64 8, .string ⟨#[]⟩, .string ⟨#[]⟩, .int .i64 255, .slice none 0 0] 24
  replace hU := hU.alloc (.cells #[.int .i64 4, .int .i64 8, .string ⟨#[]⟩, .string ⟨#[]⟩, .int .i64 255, .slice none 0 0] 24)
  simp only [List.cons_append, List.nil_append] at hD
  have HI2 := Lib.hid (hi2.up hU)
  have x0 := (Below.cell (p := ⟨g, 0, none⟩) hU (World.block_lt_of_cell? wn _ (hc 0 _ rfl))).trans (hc 0 _ rfl)
  have x1 := (Below.cell (p := ⟨g, 1, none⟩) hU (World.block_lt_of_cell? wn _ (hc 1 _ rfl))).trans (hc 1 _ rfl)
  have x2 := (Below.cell (p := ⟨g, 2, none⟩) hU (World.block_lt_of_cell? wn _ (hc 2 _ rfl))).trans (hc 2 _ rfl)
  have x3 := (Below.cell (p := ⟨g, 3, none⟩) hU (World.block_lt_of_cell? wn _ (hc 3 _ rfl))).trans (hc 3 _ rfl)
  have x4 := (Below.cell (p := ⟨g, 4, none⟩) hU (World.block_lt_of_cell? wn _ (hc 4 _ rfl))).trans (hc 4 _ rfl)
  have x5 := (Below.cell (p := ⟨g, 5, none⟩) hU (World.block_lt_of_cell? wn _ (hc 5 _ rfl))).trans (hc 5 _ rfl)
  have x6 := (Below.cell (p := ⟨g, 6, none⟩) hU (World.block_lt_of_cell? wn _ (hc 6 _ rfl))).trans (hc 6 _ rfl)
  have x7 := (Below.cell (p := ⟨g, 7, none⟩) hU (World.block_lt_of_cell? wn _ (hc 7 _ rfl))).trans (hc 7 _ rfl)
  have x8 := (Below.cell (p := ⟨g, 8, none⟩) hU (World.block_lt_of_cell? wn _ (hc 8 _ rfl))).trans (hc 8 _ rfl)
  have x9 := (Below.cell (p := ⟨g, 9, none⟩) hU (World.block_lt_of_cell? wn _ (hc 9 _ rfl))).trans (hc 9 _ rfl)
  have x10 := (Below.cell (p := ⟨g, 10, none⟩) hU (World.block_lt_of_cell? wn _ (hc 10 _ rfl))).trans (hc 10 _ rfl)
  have x11 := (Below.cell (p := ⟨g, 11, none⟩) hU (World.block_lt_of_cell? wn _ (hc 11 _ rfl))).trans (hc 11 _ rfl)
  have x12 := (Below.cell (p := ⟨g, 12, none⟩) hU (World.block_lt_of_cell? wn _ (hc 12 _ rfl))).trans (hc 12 _ rfl)
  clear hc hi2 hU hcat hcat2 hcut
  generalize wd.heap.size = gn at *
  generalize wd.alloc _ = we at *
  have HU := Lib.hid hD.up
  have HIC := Lib.hid (ints_two (hD.get 0 rfl))
  obtain ⟨⟨p0, p1, p2, p3, p4, p5⟩, -⟩ := RowAt.c6 (hD.get 1 rfl)
  obtain ⟨⟨c0, c1, c2, c3, c4, c5⟩, -⟩ := RowAt.c6 (hD.get 2 rfl)
  obtain ⟨⟨n0, n1, n2, n3, n4, n5⟩, -⟩ := RowAt.c6 (hD.get 3 rfl)
  clear hD
  simp only [List.append]
  refine wp_region_ssa (by kernel_rfl) (by kernel_rfl) (by kernel_rfl) ?_
  refine wpAnyS_quiet 0 75 0 122 (by kernel_rfl) (by kernel_rfl) (fun _ _ _ _ _ h => h) (by kernel_rfl) (by kernel_rfl) ?_
  apply Exists.intro
  refine ⟨fun w1 hw1 => ?_, ?_⟩
  · skip
    have l_x0 := Later.of_base x0 hw1
    have l_x1 := Later.of_base x1 hw1
    have l_x2 := Later.of_base x2 hw1
    have l_x3 := Later.of_base x3 hw1
    have l_x4 := Later.of_base x4 hw1
    have l_x5 := Later.of_base x5 hw1
    have l_x6 := Later.of_base x6 hw1
    have l_x7 := Later.of_base x7 hw1
    have l_x8 := Later.of_base x8 hw1
    have l_x9 := Later.of_base x9 hw1
    have l_x10 := Later.of_base x10 hw1
    have l_x11 := Later.of_base x11 hw1
    have l_x12 := Later.of_base x12 hw1
    have l_p0 := Later.of_base p0 hw1
    have l_p1 := Later.of_base p1 hw1
    have l_p2 := Later.of_base p2 hw1
    have l_p3 := Later.of_base p3 hw1
    have l_p4 := Later.of_base p4 hw1
    have l_p5 := Later.of_base p5 hw1
    have l_c0 := Later.of_base c0 hw1
    have l_c1 := Later.of_base c1 hw1
    have l_c2 := Later.of_base c2 hw1
    have l_c3 := Later.of_base c3 hw1
    have l_c4 := Later.of_base c4 hw1
    have l_c5 := Later.of_base c5 hw1
    have l_n0 := Later.of_base n0 hw1
    have l_n1 := Later.of_base n1 hw1
    have l_n2 := Later.of_base n2 hw1
    have l_n3 := Later.of_base n3 hw1
    have l_n4 := Later.of_base n4 hw1
    have l_n5 := Later.of_base n5 hw1
    have hne := later_ne w1
    have KQ1 := Lib.hid (show ∀ u : Later w1, _ from fun u => Q1.out u.world q1 k1)
    have KQ2 := Lib.hid (show ∀ u : Later w1, _ from fun u => Q2.out u.world q2 k2 w.heap.size (HI2.out.up (hw1.trans u.up)) (HIC.out.up (hw1.trans u.up)))
    have KQ3 := Lib.hid (show ∀ u : Later w1, _ from fun u => Q3.out u.world w.heap.size (HIC.out.up (hw1.trans u.up)))
    have KT1 := Lib.hid (show ∀ u : Later w1, _ from fun u => T1.out u.world)
    have KT2 := Lib.hid (show ∀ u : Later w1, _ from fun u => T2.out u.world)
    have KW1 := Lib.hid (show ∀ u : Later w1, _ from fun u => W1.out u.world (HT.out.up (HU.out.trans (hw1.trans u.up))))
    have KW2 := Lib.hid (show ∀ u : Later w1, _ from fun u => W2.out u.world w.heap.size (HIC.out.up (hw1.trans u.up)) (HT.out.up (HU.out.trans (hw1.trans u.up))))
    have KW3 := Lib.hid (show ∀ u : Later w1, _ from fun u => W3.out u.world (HT.out.up (HU.out.trans (hw1.trans u.up))))
    simp only [List.drop_zero, List.take_succ_cons, List.take_zero]
    repeat (go_big_quiet_step (first
      | (go_at_call 16; first | with_reducible exact Calls.later (KQ1.out _) | with_reducible exact Calls.later (KQ2.out _) | with_reducible exact Calls.later (KQ3.out _))
      | (go_at_call 9; first | with_reducible exact Calls.later (KT1.out _) | with_reducible exact Calls.later (KT2.out _))
      | (go_at_call 14; first | with_reducible exact Calls.later (KW1.out _) | with_reducible exact Calls.later (KW2.out _) | with_reducible exact Calls.later (KW3.out _))
      ))
    exact wpQuiet_nil rfl
  refine wpAnyS_done (by kernel_rfl) ?_
  intro w5 hw5
  go_wp2_with fail
  go_ret
  exact ⟨rfl, HU.out.trans hw5⟩
end Go.Proofs.YtkkgcmnipdkeeaaDoor
