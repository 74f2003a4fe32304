import Derived.Test.YtbjnklgicakndaaPgWalk8
import Derived.Test.YtbjnklgicakndaaUpRegion
namespace Go.Proofs.Ytbjnklgicakndaa
open Go.RowKit Bw
set_option linter.unusedVariables false

theorem recs_two (w : World) (e : TypeId) (a b : RecB) : RecsAt (w.alloc (.cells #[.int .i64 a.r.k, .int .i64 a.r.t, .string a.r.key, .string a.r.val, .int .i64 a.r.p, .int .i64 a.r.u, .int .i64 a.r.n, .slice a.pa a.r.l.length a.ca,
    .int .i64 b.r.k, .int .i64 b.r.t, .string b.r.key, .string b.r.val, .int .i64 b.r.p, .int .i64 b.r.u, .int .i64 b.r.n, .slice b.pa b.r.l.length b.ca] e)) (some ⟨w.heap.size, 0, none⟩) [a, b] := fun i hi => by
  have hc := fun j => World.cell?_alloc_mark w #[.int .i64 a.r.k, .int .i64 a.r.t, .string a.r.key, .string a.r.val, .int .i64 a.r.p, .int .i64 a.r.u, .int .i64 a.r.n, .slice a.pa a.r.l.length a.ca,
    .int .i64 b.r.k, .int .i64 b.r.t, .string b.r.key, .string b.r.val, .int .i64 b.r.p, .int .i64 b.r.u, .int .i64 b.r.n, .slice b.pa b.r.l.length b.ca] e (0, 0) j
  refine ⟨_, 0, rfl, ?_⟩
  have : i = 0 ∨ i = 1 := by simp at hi; omega
  rcases this with rfl | rfl
  · exact ⟨hc 0, hc 1, hc 2, hc 3, hc 4, hc 5, hc 6, hc 7⟩
  · exact ⟨hc 8, hc 9, hc 10, hc 11, hc 12, hc 13, hc 14, hc 15⟩

theorem latest_two (w w2 : World) (g : Nat) (hg : w.heap.size = g) (e : TypeId) (hu : Up (w.alloc (.cells #[.int .i64 6, .int .i64 0, .string ⟨#[]⟩, .string ⟨#[]⟩, .int .i64 1, .int .i64 0, .int .i64 1, .slice none 0 0, .int .i64 1, .int .i64 1, .string ⟨#[]⟩, .string ⟨#[]⟩, .int .i64 0, .int .i64 0, .int .i64 0, .slice none 0 0] e)) w2) :
    Calls Try.prog 27 #[.slice (some ⟨g, 0, none⟩) 2 2] w2 fun e' w' => e' = .returned (.agg #[.int .i64 1, .int .i64 0, .int .i64 1]) ∧ Below w2.heap.size w2 w' := by
  subst hg
  have h := prog_Latest [⟨⟨6, 0, ByteArray.empty, ByteArray.empty, 1, 0, 1, []⟩, none, 0⟩, ⟨⟨1, 1, ByteArray.empty, ByteArray.empty, 0, 0, 0, []⟩, none, 0⟩] (some ⟨w.heap.size, 0, none⟩) 2 w2 ((recs_two w e _ _).up hu)
    (by intro x hx; simp at hx; rcases hx with rfl | rfl <;> exact ⟨PairsAt.nil _ _, by simp, by simp⟩) (by simp)
  refine h.mono fun e' w' ⟨h1, h2⟩ => ⟨?_, h2⟩
  rw [h1, show latest (0, 0, 0) [⟨⟨6, 0, ByteArray.empty, ByteArray.empty, 1, 0, 1, []⟩, none, 0⟩, ⟨⟨1, 1, ByteArray.empty, ByteArray.empty, 0, 0, 0, []⟩, none, 0⟩] = (1, 0, 1) by decide +kernel]
  rfl

theorem latest_none (w : World) : Calls Try.prog 27 #[.slice none 0 0] w fun e' w' => e' = .returned (.agg #[.int .i64 0, .int .i64 0, .int .i64 0]) ∧ Below w.heap.size w w' :=
  prog_Latest [] none 0 w (fun i hi => absurd hi (by simp)) (fun x hx => absurd hx (by simp)) (by simp)

set_option maxHeartbeats 4000000 in
set_option maxRecDepth 100000 in
theorem law20_fixed (w : World) :
    Calls Try.prog 20 #[] w fun e w' => e = .returned (.bool true) ∧ Below w.heap.size w w' := by
  have c1 := fun w => prog_Next 0 0 0 w (by decide)
  rw [show nextE 0 0 0 = 0 by decide +kernel, show nextV 0 0 0 = progV 1 0 0 from rfl] at c1
  have c2 := fun w => prog_Begin 1 0 0 w (by decide)
  rw [show beginE 1 0 0 = 0 by decide +kernel, show beginV 1 0 0 = progV 1 0 1 from rfl] at c2
  have c3 := fun w => prog_Forward 1 0 1 w (by decide)
  rw [show fwdE 1 0 1 = 0 by decide +kernel, show fwdB 1 0 1 = true by decide +kernel, show fwdV 1 0 1 = progV 1 1 0 from rfl] at c3
  have c4 := fun w => prog_Forward 1 0 0 w (by decide)
  rw [show fwdE 1 0 0 = 0 by decide +kernel, show fwdB 1 0 0 = false by decide +kernel, show fwdV 1 0 0 = progV 1 0 0 from rfl] at c4
  have c5 := fun w => prog_Next 1 0 1 w (by decide)
  rw [show nextE 1 0 1 = 9 by decide +kernel, show nextV 1 0 1 = progV 0 0 0 from rfl] at c5
  have c6 := fun w => prog_Begin 0 0 0 w (by decide)
  rw [show beginE 0 0 0 = 9 by decide +kernel, show beginV 0 0 0 = progV 0 0 0 from rfl] at c6
  have c7 := fun w => prog_End 1 0 0 w (by decide)
  rw [show endE 1 0 0 = 9 by decide +kernel, show endV 1 0 0 = progV 0 0 0 from rfl] at c7
  have c8 := fun w => prog_Next 4 0 0 w (by decide)
  rw [show nextE 4 0 0 = 9 by decide +kernel, show nextV 4 0 0 = progV 0 0 0 from rfl] at c8
  have c9 := fun w => prog_Next 5 0 0 w (by decide)
  rw [show nextE 5 0 0 = 1 by decide +kernel, show nextV 5 0 0 = progV 0 0 0 from rfl] at c9
  have c10 := fun w => prog_Rec 1 0 1 w (by decide)
  rw [show fwdE 1 0 1 = 0 by decide +kernel, show progRec 1 0 1 = ⟨6, 0, ByteArray.empty, ByteArray.empty, 1, 0, 1, []⟩ from rfl] at c10
  have c11 := fun w => prog_Of ⟨6, 0, ByteArray.empty, ByteArray.empty, 1, 0, 1, []⟩ none 0 w (PairsAt.nil _ _) (by simp) (by simp)
  rw [show ofE ⟨6, 0, ByteArray.empty, ByteArray.empty, 1, 0, 1, []⟩ = 0 by decide +kernel, show ofV ⟨6, 0, ByteArray.empty, ByteArray.empty, 1, 0, 1, []⟩ = progV 1 0 1 by rw [ofV, if_pos (by decide +kernel)]] at c11
  have c12 := fun w => prog_Of ⟨1, 1, ByteArray.empty, ByteArray.empty, 0, 0, 0, []⟩ none 0 w (PairsAt.nil _ _) (by simp) (by simp)
  rw [show ofE ⟨1, 1, ByteArray.empty, ByteArray.empty, 0, 0, 0, []⟩ = 4 by decide +kernel, show ofV ⟨1, 1, ByteArray.empty, ByteArray.empty, 0, 0, 0, []⟩ = progV 0 0 0 by rw [ofV, if_neg (by decide +kernel)]] at c12
  have c13 := fun w => rec_Same ⟨6, 0, ByteArray.empty, ByteArray.empty, 1, 0, 1, []⟩ ⟨6, 0, ByteArray.empty, ByteArray.empty, 1, 0, 1, []⟩ none none 0 0 w (PairsAt.nil _ _) (PairsAt.nil _ _) (by simp) (by simp)
  rw [RecD.same_refl] at c13
  have c14 := fun w => prog_Less 1 0 0 1 0 1 w (by decide) (by decide)
  rw [show lessB 1 0 0 1 0 1 = true by decide +kernel] at c14
  have c15 := fun w => prog_Less 1 0 1 1 1 0 w (by decide) (by decide)
  rw [show lessB 1 0 1 1 1 0 = true by decide +kernel] at c15
  have c16 := fun w => prog_Less 1 1 0 1 1 0 w (by decide) (by decide)
  rw [show lessB 1 1 0 1 1 0 = false by decide +kernel] at c16
  have c18 := fun w => latest_none w
  simp only [recV, progV, List.length_nil] at c1 c2 c3 c4 c5 c6 c7 c8 c9 c10 c11 c12 c13 c14 c15 c16 c18
  rw [show ByteArray.empty = ⟨#[]⟩ from rfl] at c10 c11 c12 c13
  have C1 := Lib.hid c1; clear c1
  have C2 := Lib.hid c2; clear c2
  have C3 := Lib.hid c3; clear c3
  have C4 := Lib.hid c4; clear c4
  have C5 := Lib.hid c5; clear c5
  have C6 := Lib.hid c6; clear c6
  have C7 := Lib.hid c7; clear c7
  have C8 := Lib.hid c8; clear c8
  have C9 := Lib.hid c9; clear c9
  have C10 := Lib.hid c10; clear c10
  have C11 := Lib.hid c11; clear c11
  have C12 := Lib.hid c12; clear c12
  have C13 := Lib.hid c13; clear c13
  have C14 := Lib.hid c14; clear c14
  have C15 := Lib.hid c15; clear c15
  have C16 := Lib.hid c16; clear c16
  have C18 := Lib.hid c18; clear c18
  have hu := Up.refl w
  go_enter Try.func20, Try.ntmps20
  go_upto_region 2 with ((with_reducible refine (C1.out _).mono ?_); rintro e w1 ⟨rfl, hw⟩; replace hu := hu.next hw; clear hw)
  replace hu := hu.alloc (.cells #[.int .i64 1, .int .i64 0, .int .i64 0] 23)
  have r1 := RowAt.made w1 23 [.int .i64 1, .int .i64 0, .int .i64 0]
  generalize hg1 : w1.heap.size = g1 at *; clear hg1
  generalize hx1 : w1.alloc (.cells #[.int .i64 1, .int .i64 0, .int .i64 0] 23) = x1 at *; clear hx1
  obtain ⟨r1_0, r1_1, r1_2, -⟩ := r1.c3
  go_upto_region 3 with ((with_reducible refine (C2.out _).mono ?_); rintro e w2 ⟨rfl, hw⟩; replace r1 := r1.up hw; replace hu := hu.next hw; clear hw)
  clear r1_0 r1_1 r1_2
  replace hu := hu.alloc (.cells #[.int .i64 1, .int .i64 0, .int .i64 1] 23)
  replace r1 := r1.alloc (.cells #[.int .i64 1, .int .i64 0, .int .i64 1] 23)
  have r3 := RowAt.made w2 23 [.int .i64 1, .int .i64 0, .int .i64 1]
  generalize hg2 : w2.heap.size = g2 at *; clear hg2
  generalize hx2 : w2.alloc (.cells #[.int .i64 1, .int .i64 0, .int .i64 1] 23) = x2 at *; clear hx2
  obtain ⟨r1_0, r1_1, r1_2, -⟩ := r1.c3
  obtain ⟨r3_0, r3_1, r3_2, -⟩ := r3.c3
  go_upto_region 4 with ((with_reducible refine (C3.out _).mono ?_); rintro e w3 ⟨rfl, hw⟩; replace r1 := r1.up hw; replace r3 := r3.up hw; replace hu := hu.next hw; clear hw)
  clear r1_0 r1_1 r1_2
  clear r3_0 r3_1 r3_2
  replace hu := hu.alloc (.cells #[.int .i64 1, .int .i64 1, .int .i64 0] 23)
  replace r1 := r1.alloc (.cells #[.int .i64 1, .int .i64 1, .int .i64 0] 23)
  replace r3 := r3.alloc (.cells #[.int .i64 1, .int .i64 1, .int .i64 0] 23)
  have r5 := RowAt.made w3 23 [.int .i64 1, .int .i64 1, .int .i64 0]
  generalize hg3 : w3.heap.size = g3 at *; clear hg3
  generalize hx3 : w3.alloc (.cells #[.int .i64 1, .int .i64 1, .int .i64 0] 23) = x3 at *; clear hx3
  obtain ⟨r1_0, r1_1, r1_2, -⟩ := r1.c3
  obtain ⟨r3_0, r3_1, r3_2, -⟩ := r3.c3
  obtain ⟨r5_0, r5_1, r5_2, -⟩ := r5.c3
  go_upto_region 5 with ((with_reducible refine (C4.out _).mono ?_); rintro e w4 ⟨rfl, hw⟩; replace r1 := r1.up hw; replace r3 := r3.up hw; replace r5 := r5.up hw; replace hu := hu.next hw; clear hw)
  clear r1_0 r1_1 r1_2
  clear r3_0 r3_1 r3_2
  clear r5_0 r5_1 r5_2
  replace hu := hu.alloc (.cells #[.int .i64 1, .int .i64 0, .int .i64 0] 23)
  replace r1 := r1.alloc (.cells #[.int .i64 1, .int .i64 0, .int .i64 0] 23)
  replace r3 := r3.alloc (.cells #[.int .i64 1, .int .i64 0, .int .i64 0] 23)
  replace r5 := r5.alloc (.cells #[.int .i64 1, .int .i64 0, .int .i64 0] 23)
  generalize hx4 : w4.alloc (.cells #[.int .i64 1, .int .i64 0, .int .i64 0] 23) = x4 at *; clear hx4
  obtain ⟨r1_0, r1_1, r1_2, -⟩ := r1.c3
  obtain ⟨r3_0, r3_1, r3_2, -⟩ := r3.c3
  obtain ⟨r5_0, r5_1, r5_2, -⟩ := r5.c3
  go_upto_region 6 with ((with_reducible refine (C5.out _).mono ?_); rintro e w5 ⟨rfl, hw⟩; replace r1 := r1.up hw; replace r3 := r3.up hw; replace r5 := r5.up hw; replace hu := hu.next hw; clear hw)
  clear r1_0 r1_1 r1_2
  clear r3_0 r3_1 r3_2
  clear r5_0 r5_1 r5_2
  replace hu := hu.alloc (.cells #[.int .i64 0, .int .i64 0, .int .i64 0] 23)
  replace r1 := r1.alloc (.cells #[.int .i64 0, .int .i64 0, .int .i64 0] 23)
  replace r3 := r3.alloc (.cells #[.int .i64 0, .int .i64 0, .int .i64 0] 23)
  replace r5 := r5.alloc (.cells #[.int .i64 0, .int .i64 0, .int .i64 0] 23)
  generalize hx5 : w5.alloc (.cells #[.int .i64 0, .int .i64 0, .int .i64 0] 23) = x5 at *; clear hx5
  obtain ⟨r1_0, r1_1, r1_2, -⟩ := r1.c3
  obtain ⟨r3_0, r3_1, r3_2, -⟩ := r3.c3
  obtain ⟨r5_0, r5_1, r5_2, -⟩ := r5.c3
  go_upto_region 7 with ((with_reducible refine (C6.out _).mono ?_); rintro e w6 ⟨rfl, hw⟩; replace r1 := r1.up hw; replace r3 := r3.up hw; replace r5 := r5.up hw; replace hu := hu.next hw; clear hw)
  clear r1_0 r1_1 r1_2
  clear r3_0 r3_1 r3_2
  clear r5_0 r5_1 r5_2
  replace hu := hu.alloc (.cells #[.int .i64 0, .int .i64 0, .int .i64 0] 23)
  replace r1 := r1.alloc (.cells #[.int .i64 0, .int .i64 0, .int .i64 0] 23)
  replace r3 := r3.alloc (.cells #[.int .i64 0, .int .i64 0, .int .i64 0] 23)
  replace r5 := r5.alloc (.cells #[.int .i64 0, .int .i64 0, .int .i64 0] 23)
  generalize hx6 : w6.alloc (.cells #[.int .i64 0, .int .i64 0, .int .i64 0] 23) = x6 at *; clear hx6
  obtain ⟨r1_0, r1_1, r1_2, -⟩ := r1.c3
  obtain ⟨r3_0, r3_1, r3_2, -⟩ := r3.c3
  obtain ⟨r5_0, r5_1, r5_2, -⟩ := r5.c3
  go_upto_region 8 with ((with_reducible refine (C7.out _).mono ?_); rintro e w7 ⟨rfl, hw⟩; replace r1 := r1.up hw; replace r3 := r3.up hw; replace r5 := r5.up hw; replace hu := hu.next hw; clear hw)
  clear r1_0 r1_1 r1_2
  clear r3_0 r3_1 r3_2
  clear r5_0 r5_1 r5_2
  replace hu := hu.alloc (.cells #[.int .i64 0, .int .i64 0, .int .i64 0] 23)
  replace r1 := r1.alloc (.cells #[.int .i64 0, .int .i64 0, .int .i64 0] 23)
  replace r3 := r3.alloc (.cells #[.int .i64 0, .int .i64 0, .int .i64 0] 23)
  replace r5 := r5.alloc (.cells #[.int .i64 0, .int .i64 0, .int .i64 0] 23)
  generalize hx7 : w7.alloc (.cells #[.int .i64 0, .int .i64 0, .int .i64 0] 23) = x7 at *; clear hx7
  obtain ⟨r1_0, r1_1, r1_2, -⟩ := r1.c3
  obtain ⟨r3_0, r3_1, r3_2, -⟩ := r3.c3
  obtain ⟨r5_0, r5_1, r5_2, -⟩ := r5.c3
  go_upto_region 9 with ((with_reducible refine (C8.out _).mono ?_); rintro e w8 ⟨rfl, hw⟩; replace r1 := r1.up hw; replace r3 := r3.up hw; replace r5 := r5.up hw; replace hu := hu.next hw; clear hw)
  clear r1_0 r1_1 r1_2
  clear r3_0 r3_1 r3_2
  clear r5_0 r5_1 r5_2
  replace hu := hu.alloc (.cells #[.int .i64 0, .int .i64 0, .int .i64 0] 23)
  replace r1 := r1.alloc (.cells #[.int .i64 0, .int .i64 0, .int .i64 0] 23)
  replace r3 := r3.alloc (.cells #[.int .i64 0, .int .i64 0, .int .i64 0] 23)
  replace r5 := r5.alloc (.cells #[.int .i64 0, .int .i64 0, .int .i64 0] 23)
  generalize hx8 : w8.alloc (.cells #[.int .i64 0, .int .i64 0, .int .i64 0] 23) = x8 at *; clear hx8
  obtain ⟨r1_0, r1_1, r1_2, -⟩ := r1.c3
  obtain ⟨r3_0, r3_1, r3_2, -⟩ := r3.c3
  obtain ⟨r5_0, r5_1, r5_2, -⟩ := r5.c3
  go_upto_region 10 with ((with_reducible refine (C9.out _).mono ?_); rintro e w9 ⟨rfl, hw⟩; replace r1 := r1.up hw; replace r3 := r3.up hw; replace r5 := r5.up hw; replace hu := hu.next hw; clear hw)
  clear r1_0 r1_1 r1_2
  clear r3_0 r3_1 r3_2
  clear r5_0 r5_1 r5_2
  replace hu := hu.alloc (.cells #[.int .i64 0, .int .i64 0, .int .i64 0] 23)
  replace r1 := r1.alloc (.cells #[.int .i64 0, .int .i64 0, .int .i64 0] 23)
  replace r3 := r3.alloc (.cells #[.int .i64 0, .int .i64 0, .int .i64 0] 23)
  replace r5 := r5.alloc (.cells #[.int .i64 0, .int .i64 0, .int .i64 0] 23)
  generalize hx9 : w9.alloc (.cells #[.int .i64 0, .int .i64 0, .int .i64 0] 23) = x9 at *; clear hx9
  obtain ⟨r1_0, r1_1, r1_2, -⟩ := r1.c3
  obtain ⟨r3_0, r3_1, r3_2, -⟩ := r3.c3
  obtain ⟨r5_0, r5_1, r5_2, -⟩ := r5.c3
  go_upto_region 11 with ((with_reducible refine (C10.out _).mono ?_); rintro e w10 ⟨rfl, hw⟩; replace r1 := r1.up hw; replace r3 := r3.up hw; replace r5 := r5.up hw; replace hu := hu.next hw; clear hw)
  clear r1_0 r1_1 r1_2
  clear r3_0 r3_1 r3_2
  clear r5_0 r5_1 r5_2
  replace hu := hu.alloc (.cells #[.int .i64 6, .int .i64 0, .string ⟨#[]⟩, .string ⟨#[]⟩, .int .i64 1, .int .i64 0, .int .i64 1, .slice none 0 0] 41)
  replace r1 := r1.alloc (.cells #[.int .i64 6, .int .i64 0, .string ⟨#[]⟩, .string ⟨#[]⟩, .int .i64 1, .int .i64 0, .int .i64 1, .slice none 0 0] 41)
  replace r3 := r3.alloc (.cells #[.int .i64 6, .int .i64 0, .string ⟨#[]⟩, .string ⟨#[]⟩, .int .i64 1, .int .i64 0, .int .i64 1, .slice none 0 0] 41)
  replace r5 := r5.alloc (.cells #[.int .i64 6, .int .i64 0, .string ⟨#[]⟩, .string ⟨#[]⟩, .int .i64 1, .int .i64 0, .int .i64 1, .slice none 0 0] 41)
  have r21 := RowAt.made w10 41 [.int .i64 6, .int .i64 0, .string ⟨#[]⟩, .string ⟨#[]⟩, .int .i64 1, .int .i64 0, .int .i64 1, .slice none 0 0]
  generalize hg10 : w10.heap.size = g10 at *; clear hg10
  generalize hx10 : w10.alloc (.cells #[.int .i64 6, .int .i64 0, .string ⟨#[]⟩, .string ⟨#[]⟩, .int .i64 1, .int .i64 0, .int .i64 1, .slice none 0 0] 41) = x10 at *; clear hx10
  obtain ⟨r1_0, r1_1, r1_2, -⟩ := r1.c3
  obtain ⟨r3_0, r3_1, r3_2, -⟩ := r3.c3
  obtain ⟨r5_0, r5_1, r5_2, -⟩ := r5.c3
  obtain ⟨r21_0, r21_1, r21_2, r21_3, r21_4, r21_5, r21_6, r21_7, -⟩ := r21.c8
  go_upto_region 12 with ((with_reducible refine (C11.out _).mono ?_); rintro e w11 ⟨rfl, hw⟩; replace r1 := r1.up hw; replace r3 := r3.up hw; replace r5 := r5.up hw; replace r21 := r21.up hw; replace hu := hu.next hw; clear hw)
  clear r1_0 r1_1 r1_2
  clear r3_0 r3_1 r3_2
  clear r5_0 r5_1 r5_2
  clear r21_0 r21_1 r21_2 r21_3 r21_4 r21_5 r21_6 r21_7
  replace hu := hu.alloc (.cells #[.int .i64 1, .int .i64 0, .int .i64 1] 23)
  replace r1 := r1.alloc (.cells #[.int .i64 1, .int .i64 0, .int .i64 1] 23)
  replace r3 := r3.alloc (.cells #[.int .i64 1, .int .i64 0, .int .i64 1] 23)
  replace r5 := r5.alloc (.cells #[.int .i64 1, .int .i64 0, .int .i64 1] 23)
  replace r21 := r21.alloc (.cells #[.int .i64 1, .int .i64 0, .int .i64 1] 23)
  have r23 := RowAt.made w11 23 [.int .i64 1, .int .i64 0, .int .i64 1]
  generalize hg11 : w11.heap.size = g11 at *; clear hg11
  generalize hx11 : w11.alloc (.cells #[.int .i64 1, .int .i64 0, .int .i64 1] 23) = x11 at *; clear hx11
  obtain ⟨r1_0, r1_1, r1_2, -⟩ := r1.c3
  obtain ⟨r3_0, r3_1, r3_2, -⟩ := r3.c3
  obtain ⟨r5_0, r5_1, r5_2, -⟩ := r5.c3
  obtain ⟨r21_0, r21_1, r21_2, r21_3, r21_4, r21_5, r21_6, r21_7, -⟩ := r21.c8
  obtain ⟨r23_0, r23_1, r23_2, -⟩ := r23.c3
  go_upto_region 13 with ((with_reducible refine (C12.out _).mono ?_); rintro e wa ⟨rfl, hw⟩; replace r1 := r1.up hw; replace r3 := r3.up hw; replace r5 := r5.up hw; replace r21 := r21.up hw; replace r23 := r23.up hw; replace hu := (hu.next hw).alloc (.cells #[.int .i64 0, .int .i64 0, .int .i64 0] 23); clear hw)
  replace r1 := (r1.alloc (.cells #[.int .i64 0, .int .i64 0, .int .i64 0] 23))
  replace r3 := (r3.alloc (.cells #[.int .i64 0, .int .i64 0, .int .i64 0] 23))
  replace r5 := (r5.alloc (.cells #[.int .i64 0, .int .i64 0, .int .i64 0] 23))
  replace r21 := (r21.alloc (.cells #[.int .i64 0, .int .i64 0, .int .i64 0] 23))
  replace r23 := (r23.alloc (.cells #[.int .i64 0, .int .i64 0, .int .i64 0] 23))
  clear r1_0 r1_1 r1_2
  clear r3_0 r3_1 r3_2
  clear r5_0 r5_1 r5_2
  clear r21_0 r21_1 r21_2 r21_3 r21_4 r21_5 r21_6 r21_7
  clear r23_0 r23_1 r23_2
  obtain ⟨r1a0, r1a1, r1a2, -⟩ := r1.c3; obtain ⟨r3a0, r3a1, r3a2, -⟩ := r3.c3; obtain ⟨r5a0, r5a1, r5a2, -⟩ := r5.c3; obtain ⟨r21a0, r21a1, r21a2, r21a3, r21a4, r21a5, r21a6, r21a7, -⟩ := r21.c8; obtain ⟨r23a0, r23a1, r23a2, -⟩ := r23.c3
  generalize hxx : wa.alloc (.cells #[.int .i64 0, .int .i64 0, .int .i64 0] 23) = xa at *; clear hxx
  simp only [List.append]
  refine wp_region_ssa (by kernel_rfl) (by kernel_rfl) (by kernel_rfl) ?_
  refine wpAnyS_quiet 0 97 11 196 (by kernel_rfl) (by kernel_rfl) (fun _ _ _ _ _ h => h) (by kernel_rfl) (by kernel_rfl) ?_
  apply Exists.intro
  refine ⟨fun w1 hw1 => ?_, ?_⟩
  · skip
    have l_r1a0 := Later.of_base r1a0 hw1
    have l_r1a1 := Later.of_base r1a1 hw1
    have l_r1a2 := Later.of_base r1a2 hw1
    have l_r3a0 := Later.of_base r3a0 hw1
    have l_r3a1 := Later.of_base r3a1 hw1
    have l_r3a2 := Later.of_base r3a2 hw1
    have l_r5a0 := Later.of_base r5a0 hw1
    have l_r5a1 := Later.of_base r5a1 hw1
    have l_r5a2 := Later.of_base r5a2 hw1
    have l_r21a0 := Later.of_base r21a0 hw1
    have l_r21a1 := Later.of_base r21a1 hw1
    have l_r21a2 := Later.of_base r21a2 hw1
    have l_r21a3 := Later.of_base r21a3 hw1
    have l_r21a4 := Later.of_base r21a4 hw1
    have l_r21a5 := Later.of_base r21a5 hw1
    have l_r21a6 := Later.of_base r21a6 hw1
    have l_r21a7 := Later.of_base r21a7 hw1
    have l_r23a0 := Later.of_base r23a0 hw1
    have l_r23a1 := Later.of_base r23a1 hw1
    have l_r23a2 := Later.of_base r23a2 hw1
    have hne := later_ne w1
    simp only [List.drop_succ_cons, List.drop_zero, List.take_succ_cons, List.take_zero]
    repeat (go_big_quiet_step ((first | (go_at_call 33; with_reducible exact Calls.later (C13.out _)) | (go_at_call 18; with_reducible exact Calls.later (C14.out _)) | (go_at_call 18; with_reducible exact Calls.later (C15.out _)) | (go_at_call 18; with_reducible exact Calls.later (C16.out _)) | (go_at_call 27; with_reducible exact Calls.later (C18.out _)) | (go_at_call 27; with_reducible exact Calls.later (C17.out _)))))
    exact wpQuiet_nil rfl
  refine wpAnyS_quiet 99 1 10 196 (by kernel_rfl) (by kernel_rfl) (fun _ _ _ _ _ h => h) (by kernel_rfl) (by kernel_rfl) ?_
  apply Exists.intro
  refine ⟨fun w1 hw1 => ?_, ?_⟩
  · skip
    have l_r1a0 := Later.of_base r1a0 hw1
    have l_r1a1 := Later.of_base r1a1 hw1
    have l_r1a2 := Later.of_base r1a2 hw1
    have l_r3a0 := Later.of_base r3a0 hw1
    have l_r3a1 := Later.of_base r3a1 hw1
    have l_r3a2 := Later.of_base r3a2 hw1
    have l_r5a0 := Later.of_base r5a0 hw1
    have l_r5a1 := Later.of_base r5a1 hw1
    have l_r5a2 := Later.of_base r5a2 hw1
    have l_r21a0 := Later.of_base r21a0 hw1
    have l_r21a1 := Later.of_base r21a1 hw1
    have l_r21a2 := Later.of_base r21a2 hw1
    have l_r21a3 := Later.of_base r21a3 hw1
    have l_r21a4 := Later.of_base r21a4 hw1
    have l_r21a5 := Later.of_base r21a5 hw1
    have l_r21a6 := Later.of_base r21a6 hw1
    have l_r21a7 := Later.of_base r21a7 hw1
    have l_r23a0 := Later.of_base r23a0 hw1
    have l_r23a1 := Later.of_base r23a1 hw1
    have l_r23a2 := Later.of_base r23a2 hw1
    have hne := later_ne w1
    simp only [List.drop_succ_cons, List.drop_zero, List.take_succ_cons, List.take_zero]
    repeat (go_big_quiet_step ((first | (go_at_call 33; with_reducible exact Calls.later (C13.out _)) | (go_at_call 18; with_reducible exact Calls.later (C14.out _)) | (go_at_call 18; with_reducible exact Calls.later (C15.out _)) | (go_at_call 18; with_reducible exact Calls.later (C16.out _)) | (go_at_call 27; with_reducible exact Calls.later (C18.out _)) | (go_at_call 27; with_reducible exact Calls.later (C17.out _)))))
    exact wpQuiet_nil rfl
  refine wpAnyS_one 97 9 (by kernel_rfl) (by kernel_rfl) (by kernel_rfl) ?_
  intro w1 hw1
  simp only [List.drop_succ_cons, List.drop_zero, List.take_succ_cons, List.take_zero]
  go_wp2_with fail
  refine ⟨(Up.refl w1).alloc _, ?_⟩
  have hwa := hw1.alloc (.cells #[.int .i64 6, .int .i64 0, .string ⟨#[]⟩, .string ⟨#[]⟩, .int .i64 1, .int .i64 0, .int .i64 1, .slice none 0 0, .int .i64 1, .int .i64 1, .string ⟨#[]⟩, .string ⟨#[]⟩, .int .i64 0, .int .i64 0, .int .i64 0, .slice none 0 0] 41)
  have C19 := Lib.hid (fun w2 hu => latest_two w1 w2 _ rfl 41 hu)
  replace hu := hu.trans hwa
  have b_r1a0 := Later.of_base r1a0 hwa ⟨_, Up.refl _⟩
  have b_r1a1 := Later.of_base r1a1 hwa ⟨_, Up.refl _⟩
  have b_r1a2 := Later.of_base r1a2 hwa ⟨_, Up.refl _⟩
  have b_r3a0 := Later.of_base r3a0 hwa ⟨_, Up.refl _⟩
  have b_r3a1 := Later.of_base r3a1 hwa ⟨_, Up.refl _⟩
  have b_r3a2 := Later.of_base r3a2 hwa ⟨_, Up.refl _⟩
  have b_r5a0 := Later.of_base r5a0 hwa ⟨_, Up.refl _⟩
  have b_r5a1 := Later.of_base r5a1 hwa ⟨_, Up.refl _⟩
  have b_r5a2 := Later.of_base r5a2 hwa ⟨_, Up.refl _⟩
  have b_r21a0 := Later.of_base r21a0 hwa ⟨_, Up.refl _⟩
  have b_r21a1 := Later.of_base r21a1 hwa ⟨_, Up.refl _⟩
  have b_r21a2 := Later.of_base r21a2 hwa ⟨_, Up.refl _⟩
  have b_r21a3 := Later.of_base r21a3 hwa ⟨_, Up.refl _⟩
  have b_r21a4 := Later.of_base r21a4 hwa ⟨_, Up.refl _⟩
  have b_r21a5 := Later.of_base r21a5 hwa ⟨_, Up.refl _⟩
  have b_r21a6 := Later.of_base r21a6 hwa ⟨_, Up.refl _⟩
  have b_r21a7 := Later.of_base r21a7 hwa ⟨_, Up.refl _⟩
  have b_r23a0 := Later.of_base r23a0 hwa ⟨_, Up.refl _⟩
  have b_r23a1 := Later.of_base r23a1 hwa ⟨_, Up.refl _⟩
  have b_r23a2 := Later.of_base r23a2 hwa ⟨_, Up.refl _⟩
  clear r1a0 r1a1 r1a2 r3a0 r3a1 r3a2 r5a0 r5a1 r5a2 r21a0 r21a1 r21a2 r21a3 r21a4 r21a5 r21a6 r21a7 r23a0 r23a1 r23a2
  simp only at b_r1a0 b_r1a1 b_r1a2 b_r3a0 b_r3a1 b_r3a2 b_r5a0 b_r5a1 b_r5a2 b_r21a0 b_r21a1 b_r21a2 b_r21a3 b_r21a4 b_r21a5 b_r21a6 b_r21a7 b_r23a0 b_r23a1 b_r23a2
  generalize w1.heap.size = g17 at *
  generalize w1.alloc (.cells #[.int .i64 6, .int .i64 0, .string ⟨#[]⟩, .string ⟨#[]⟩, .int .i64 1, .int .i64 0, .int .i64 1, .slice none 0 0, .int .i64 1, .int .i64 1, .string ⟨#[]⟩, .string ⟨#[]⟩, .int .i64 0, .int .i64 0, .int .i64 0, .slice none 0 0] 41) = wb at *
  refine wpAnyS_quiet 98 1 8 196 (by kernel_rfl) (by kernel_rfl) (fun _ _ _ _ _ h => h) (by kernel_rfl) (by kernel_rfl) ?_
  apply Exists.intro
  refine ⟨fun w1 hw1 => ?_, ?_⟩
  · skip
    have l_b_r1a0 := Later.of_base b_r1a0 hw1
    have l_b_r1a1 := Later.of_base b_r1a1 hw1
    have l_b_r1a2 := Later.of_base b_r1a2 hw1
    have l_b_r3a0 := Later.of_base b_r3a0 hw1
    have l_b_r3a1 := Later.of_base b_r3a1 hw1
    have l_b_r3a2 := Later.of_base b_r3a2 hw1
    have l_b_r5a0 := Later.of_base b_r5a0 hw1
    have l_b_r5a1 := Later.of_base b_r5a1 hw1
    have l_b_r5a2 := Later.of_base b_r5a2 hw1
    have l_b_r21a0 := Later.of_base b_r21a0 hw1
    have l_b_r21a1 := Later.of_base b_r21a1 hw1
    have l_b_r21a2 := Later.of_base b_r21a2 hw1
    have l_b_r21a3 := Later.of_base b_r21a3 hw1
    have l_b_r21a4 := Later.of_base b_r21a4 hw1
    have l_b_r21a5 := Later.of_base b_r21a5 hw1
    have l_b_r21a6 := Later.of_base b_r21a6 hw1
    have l_b_r21a7 := Later.of_base b_r21a7 hw1
    have l_b_r23a0 := Later.of_base b_r23a0 hw1
    have l_b_r23a1 := Later.of_base b_r23a1 hw1
    have l_b_r23a2 := Later.of_base b_r23a2 hw1
    have hne := later_ne w1
    have C17 := Lib.hid (show ∀ u : Later w1, _ from fun u => C19.out u.world (hw1.trans u.up))
    simp only [List.drop_succ_cons, List.drop_zero, List.take_succ_cons, List.take_zero]
    repeat (go_big_quiet_step ((first | (go_at_call 33; with_reducible exact Calls.later (C13.out _)) | (go_at_call 18; with_reducible exact Calls.later (C14.out _)) | (go_at_call 18; with_reducible exact Calls.later (C15.out _)) | (go_at_call 18; with_reducible exact Calls.later (C16.out _)) | (go_at_call 27; with_reducible exact Calls.later (C18.out _)) | (go_at_call 27; with_reducible exact Calls.later (C17.out _)))))
    exact wpQuiet_nil rfl
  refine wpAnyS_quiet 100 8 0 196 (by kernel_rfl) (by kernel_rfl) (fun _ _ _ _ _ h => h) (by kernel_rfl) (by kernel_rfl) ?_
  apply Exists.intro
  refine ⟨fun w1 hw1 => ?_, ?_⟩
  · skip
    have l_b_r1a0 := Later.of_base b_r1a0 hw1
    have l_b_r1a1 := Later.of_base b_r1a1 hw1
    have l_b_r1a2 := Later.of_base b_r1a2 hw1
    have l_b_r3a0 := Later.of_base b_r3a0 hw1
    have l_b_r3a1 := Later.of_base b_r3a1 hw1
    have l_b_r3a2 := Later.of_base b_r3a2 hw1
    have l_b_r5a0 := Later.of_base b_r5a0 hw1
    have l_b_r5a1 := Later.of_base b_r5a1 hw1
    have l_b_r5a2 := Later.of_base b_r5a2 hw1
    have l_b_r21a0 := Later.of_base b_r21a0 hw1
    have l_b_r21a1 := Later.of_base b_r21a1 hw1
    have l_b_r21a2 := Later.of_base b_r21a2 hw1
    have l_b_r21a3 := Later.of_base b_r21a3 hw1
    have l_b_r21a4 := Later.of_base b_r21a4 hw1
    have l_b_r21a5 := Later.of_base b_r21a5 hw1
    have l_b_r21a6 := Later.of_base b_r21a6 hw1
    have l_b_r21a7 := Later.of_base b_r21a7 hw1
    have l_b_r23a0 := Later.of_base b_r23a0 hw1
    have l_b_r23a1 := Later.of_base b_r23a1 hw1
    have l_b_r23a2 := Later.of_base b_r23a2 hw1
    have hne := later_ne w1
    simp only [List.drop_succ_cons, List.drop_zero, List.take_succ_cons, List.take_zero]
    repeat (go_big_quiet_step ((first | (go_at_call 33; with_reducible exact Calls.later (C13.out _)) | (go_at_call 18; with_reducible exact Calls.later (C14.out _)) | (go_at_call 18; with_reducible exact Calls.later (C15.out _)) | (go_at_call 18; with_reducible exact Calls.later (C16.out _)) | (go_at_call 27; with_reducible exact Calls.later (C18.out _)) | (go_at_call 27; with_reducible exact Calls.later (C17.out _)))))
    exact wpQuiet_nil rfl
  refine wpAnyS_done (by kernel_rfl) ?_
  intro w5 hw5
  replace hu := hu.trans hw5
  go_wp2_with fail
  go_ret
  exact ⟨rfl, hu⟩
end Go.Proofs.Ytbjnklgicakndaa
