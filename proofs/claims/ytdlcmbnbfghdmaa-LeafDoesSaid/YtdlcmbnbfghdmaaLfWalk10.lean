/- Layer 10: slices.Grow of nothing, slices.Concat of two. -/
import Derived.Test.YtdlcmbnbfghdmaaLfWalk3
import Derived.Lib.AppendZerosOnto
import Derived.Lib.AppendZeros
import Derived.LoopN
namespace Bw
open Go
theorem zeroCells_size (z : Array Value) (n : Nat) : (Builtin.zeroCells z n).size = n * z.size := by simp [Builtin.zeroCells]
end Bw
namespace Go.Proofs.Ytdlcmbnbfghdmaa
open Go.RowKit Bw
set_option linter.unusedVariables false
set_option maxHeartbeats 2000000 in
set_option maxRecDepth 100000 in
theorem slices_Grow (n : Nat) (hn : n ≤ 4000) (w : World) : Calls Try.prog 66 #[.slice none 0 0, .int .i64 n] w fun e w' =>
    ∃ q cap, e = .returned (.slice q 0 cap) ∧ (ownZ 44 2 (.slice q 0 cap) 0 []).holds w' ∧ NewQ w q ∧ Below w.heap.size w w' := by
  obtain ⟨inf, hi0', hz0, hz1, hz2⟩ := infoPair
  by_cases h0 : n = 0
  · subst h0
    clear hi0' hz0 hz1 hz2
    show Calls _ _ #[.slice none 0 0, .int .i64 0] w _
    go_enter Try.func66, Try.ntmps66
    go_wp2_with fail
    go_ret
    exact ⟨none, 0, rfl, World.ownsRow_nil _ _ _ _, fun a h => (by cases h), Below.refl _ _⟩
  · have hold : (Builtin.firstCells inf.size 0 (.slice none 0 0)).run Try.prog w.drew = .ok ([] : List Value).toArray w.drew := by
      rw [hz1]; rfl
    have hrz : ∀ ty, (Builtin.append_ #[22, 3] ty #[.slice none 0 0, .int .i64 (n : Int)]).run Try.prog w =
        .ok (.slice (some ⟨w.heap.size, 0, none⟩) n (grownCap w n 0 44)) (w.drew.alloc (.cells (Builtin.zeroCells #[.string ⟨#[]⟩, .string ⟨#[]⟩] n ++ Builtin.zeroCells #[.string ⟨#[]⟩, .string ⟨#[]⟩] (grownCap w n 0 44 - n)) 44)) := fun ty => by
      have h := Lib.run_append_grow_zeros w 22 3 ty 44 inf (.agg #[.string ⟨#[]⟩, .string ⟨#[]⟩]) .i64 .i64 (by kernel_rfl) (by kernel_rfl) hi0' hz0 none 0 0 [] hold n (by omega) (by omega) (by omega) (by omega) (by rw [hz2]; omega)
        (growslice_fits (by omega) (by rw [hz2]; omega))
      have hz : (Value.agg #[.string ⟨#[]⟩, .string ⟨#[]⟩]).cells = #[.string ⟨#[]⟩, .string ⟨#[]⟩] := rfl
      rw [hz] at h
      simpa using h
    have hge : n ≤ grownCap w n 0 44 := grownCap_ge w _ _ _
    have hle := grownCap_le_maxLen w n 0 44 (by unfold maxLen; omega)
    generalize grownCap w n 0 44 = G at *
    have hsz : (Builtin.zeroCells #[.string ⟨#[]⟩, .string ⟨#[]⟩] n ++ Builtin.zeroCells #[.string ⟨#[]⟩, .string ⟨#[]⟩] (G - n)).size = G * 2 := by
      rw [Array.size_append, zeroCells_size, zeroCells_size]
      show n * 2 + (G - n) * 2 = G * 2
      omega
    generalize Builtin.zeroCells #[.string ⟨#[]⟩, .string ⟨#[]⟩] n ++ Builtin.zeroCells #[.string ⟨#[]⟩, .string ⟨#[]⟩] (G - n) = C at *
    have HF := Lib.hid (show (ownZ 44 2 (.slice (some ⟨w.heap.size, 0, none⟩) 0 G) 0 []).holds (w.drew.alloc (.cells C 44)) from
      World.ownsRow_made (base := 0) (e := 44) (size := 2) w.drew C G (Nat.zero_le _) hle hsz)
    have h1 : ¬ ((n : Int) < 0) := by omega
    have h4 : (0 : Int) < (n : Int) := by omega
    have h5 : (n : Int) ≤ 4000 := by omega
    have h6 : (0 : Int) ≤ (G : Int) := by omega
    have h7 : (G : Int) ≤ 9223372036854775807 := by unfold maxLen at hle; omega
    clear hold hi0' hz0 hz1 hz2 hsz hle h0
    go_enter Try.func66, Try.ntmps66
    go_wp2_with (at_builtin; refine Lib.wpList_append_run _ rfl _ _ _ _ rfl _ _ rfl rfl _ _ (hrz _) ?_)
    go_ret
    exact ⟨_, _, rfl, HF.out, fun a h => (by cases h; exact Nat.le_refl _), ((Below.refl _ w).drew).alloc (Nat.le_refl _) _⟩
theorem cells_two {w : World} {g : Nat} {a b : Value} (h : RowAt w g [a, b]) : w.cell? ⟨g, 0, none⟩ = some a ∧ w.cell? ⟨g, 1, none⟩ = some b := ⟨h.c2.1, h.c2.2.1⟩
set_option maxHeartbeats 4000000 in
set_option maxRecDepth 100000 in
theorem slices_Concat (A B : List PairD) (la : A.length ≤ 1000) (lb : B.length ≤ 1000) (qa qb : Option Addr) (ca cb g : Nat) (w : World) (hA : SlAt w qa ca A) (hB : SlAt w qb cb B) (hg : RowAt w g [.slice qa A.length ca, .slice qb B.length cb]) :
    Calls Try.prog 56 #[.slice (some ⟨g, 0, none⟩) 2 2] w fun e w' => ∃ q c, e = .returned (.slice q (A ++ B).length c) ∧ (slR q c (A ++ B)).holds w' ∧ NewQ w q ∧ Below w.heap.size w w' := by
  have HA := Lib.hid hA
  have HB := Lib.hid hB
  have hca := hA.2.1
  have hcb := hB.2.1
  have hX := Lib.hid (show cellsP (A ++ B) = cellsP A ++ cellsP B from cellsP_append A B)
  have u1 := Lib.hid (cellsP_one A)
  have u2 := Lib.hid (cellsP_one B)
  have k1 := Lib.hid (cellsP_length A)
  have k2 := Lib.hid (cellsP_length B)
  rw [List.length_append]
  have HL := Lib.hid (show (A ++ B).length = A.length + B.length from List.length_append)
  obtain ⟨c0, c1⟩ := cells_two hg
  have HN1 := Lib.hid hA.2.2
  have HN2 := Lib.hid hB.2.2
  clear hA hB hg
  have CG := slices_Grow (A.length + B.length) (by omega) w
  rw [show ((A.length + B.length : Nat) : Int) = (A.length : Int) + (B.length : Int) from by omega] at CG
  have CGH := Lib.hid CG
  clear CG
  have HZ1 := Lib.hid (rfl : A.length = A.length)
  generalize hla : A.length = n at *
  generalize hlb : B.length = m at *
  have i1 : (0 : Int) ≤ (n : Int) := by omega
  have i2 : (0 : Int) ≤ (m : Int) := by omega
  have i3 : (n : Int) ≤ 1000 := by omega
  have i4 : (m : Int) ≤ 1000 := by omega
  have HLA := Lib.hid hla
  have HLB := Lib.hid hlb
  clear hla hlb hca hcb HZ1
  obtain ⟨inf, hi0', hz0, hz1, hz2⟩ := infoPair
  go_enter Try.func56, Try.ntmps56
  go_wp2_with fail
  refine wp_loop_rounds 3 ?_
  rw [rounds_succ]
  go_wp2_with fail
  rw [rounds_succ]
  go_wp2_with fail
  rw [rounds_succ]
  go_wp2_with ((with_reducible refine CGH.out.mono ?_); rintro e w1 ⟨q1, cap1, rfl, hO, hN, hb⟩)
  have hD := (Hold.start w).add hb (ownZ 44 2 (.slice q1 0 cap1) 0 []) hO (fun k hk => by
    cases q1 with
    | none => cases hk
    | some a =>
      have h2 : (Value.slice (some a) 0 cap1).ownBlock = some k := hk
      injection h2 with h2
      exact h2 ▸ hN a rfl)
  rw [List.nil_append] at hD
  have CC := Lib.hid (show ∀ W, Up w W → W.cell? ⟨g, 0, none⟩ = some (.slice qa n ca) ∧ W.cell? ⟨g, 1, none⟩ = some (.slice qb m cb) from fun W hW =>
    ⟨(Below.cell hW (World.block_lt_of_cell? w _ c0)).trans c0, (Below.cell hW (World.block_lt_of_cell? w _ c1)).trans c1⟩)
  clear c0 c1 hb hO hN CGH
  obtain ⟨d0, d1⟩ := CC.out w1 hD.up
  refine wp_loop_rounds 3 ?_
  rw [rounds_succ]
  go_wp2_with ((with_reducible refine wpList_at 33 ?_); refine wpList_appendIn rfl _ _ 22 rfl 44 inf (.agg #[.string ⟨#[]⟩, .string ⟨#[]⟩]) 2 32 (by kernel_rfl) hi0' hz0 hz1 hz2 rfl (by decide) hD 0 0 _ [] rfl rfl qa n ca (cellsP A) rfl k1.out (fun h => by have := HN1.out h; have := HA.out.2.1; have := HLA.out; omega) (fun ad i u h hu => (HA.out.up hD.up).cells h i u hu) u1.out (by unfold maxLen; omega) (by omega) ?_; intro q2 c2 w2 h1 h2 hD2)
  rw [List.nil_append, Nat.zero_add] at hD2
  clear hD d0 d1 h1 h2
  have hD : Hold w w2 [ownZ 44 2 (.slice q2 n c2) n (cellsP A)] := hD2
  clear hD2
  obtain ⟨d0, d1⟩ := CC.out w2 hD.up
  rw [rounds_succ]
  go_wp2_with ((with_reducible refine wpList_at 33 ?_); refine wpList_appendIn rfl _ _ 22 rfl 44 inf (.agg #[.string ⟨#[]⟩, .string ⟨#[]⟩]) 2 32 (by kernel_rfl) hi0' hz0 hz1 hz2 rfl (by decide) hD 0 n _ (cellsP A) rfl rfl qb m cb (cellsP B) rfl k2.out (fun h => by have := HN2.out h; have := HB.out.2.1; have := HLB.out; omega) (fun ad i u h hu => (HB.out.up hD.up).cells h i u hu) u2.out (by unfold maxLen; omega) (by omega) ?_; intro q3 c3 w3 h1 h2 hD2)
  have HF := Lib.hid (show (slR q3 c3 (A ++ B)).holds w3 ∧ NewQ w q3 ∧ Below w.heap.size w w3 from by
    have h3 : Hold w w3 [ownZ 44 2 (.slice q3 (n + m) c3) (n + m) (cellsP (A ++ B))] := by rw [hX.out]; exact hD2
    obtain ⟨y1, y2⟩ := slR_own h3 (j := 0) rfl HL.out.symm h1 h2
    exact ⟨y1, y2, h3.up⟩)
  clear hD hD2 d0 d1 h1 h2
  rw [rounds_succ]
  go_wp2_with fail
  go_ret
  exact ⟨q3, c3, rfl, HF.out⟩
end Go.Proofs.Ytdlcmbnbfghdmaa
