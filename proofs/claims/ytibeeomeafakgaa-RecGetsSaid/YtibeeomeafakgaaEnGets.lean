import Derived.Test.YtibeeomeafakgaaEnGuess3
namespace Go.Proofs.Ytibeeomeafakgaa
open Go.RowKit Bw
set_option linter.unusedVariables false

set_option maxHeartbeats 1000000 in
set_option maxRecDepth 100000 in
theorem gets_walk (s : ByteArray) (w : World) :
    Calls Try.prog 4 #[.string s] w fun e w' => e = .returned (.bool true) ∧ Below w.heap.size w w' := by
  have hu := Up.refl w
  go_enter Try.func4, Try.ntmps4
  go_upto_region 2 with fail
  have h2 : (s.extract 0 (min (s.size : Int) 600).toNat).size ≤ 600 := by rw [ByteArray.size_extract]; omega
  generalize s.extract 0 (min (s.size : Int) 600).toNat = s2 at *
  have k1 : ∀ w, Calls Try.prog 23 #[.string s2] w fun e w' => ∃ q c, e = .returned (.tuple #[.agg #[.int .i64 (decD s2).k, .int .i64 (decD s2).t, .string (decD s2).key, .string (decD s2).val, .int .i64 (decD s2).p, .int .i64 (decD s2).u, .int .i64 (decD s2).n, .slice q (decD s2).l.length c], .int .i64 (decE s2)]) ∧ PairsAt w' q (decD s2).l ∧ Below w.heap.size w w' := fun w => cDec s2 (by omega) w
  have k2 : ∀ w, Calls Try.prog 24 #[.string s2] w fun e w' => ∃ q c, e = .returned (.tuple #[.agg #[.int .i64 (decD s2).k, .int .i64 (decD s2).t, .string (decD s2).key, .string (decD s2).val, .int .i64 (decD s2).p, .int .i64 (decD s2).u, .int .i64 (decD s2).n, .slice q (decD s2).l.length c], .int .i64 (decE s2)]) ∧ PairsAt w' q (decD s2).l ∧ Below w.heap.size w w' := fun w => ref5_Decode s2 (by omega) w
  have hl := decD_len s2
  generalize decD s2 = F at *
  generalize decE s2 = E at *
  have k3 : ∀ w q d, Calls Try.prog 13 #[.agg #[.int .i64 (F).k, .int .i64 (F).t, .string (F).key, .string (F).val, .int .i64 (F).p, .int .i64 (F).u, .int .i64 (F).n, .slice q F.l.length d]] w fun e w' => e = .returned (.agg #[.int .i64 (F).k, .int .i64 (F).t, .string (F).key, .string (F).val, .int .i64 (F).p, .int .i64 (F).u, .int .i64 (F).n, .slice q F.l.length d]) ∧ Below w.heap.size w w' := fun w q d => law5_Ref F q F.l.length d w
  have k4 : ∀ w q q' d d', PairsAt w q F.l → PairsAt w q' F.l → Calls Try.prog 17 #[.agg #[.int .i64 (F).k, .int .i64 (F).t, .string (F).key, .string (F).val, .int .i64 (F).p, .int .i64 (F).u, .int .i64 (F).n, .slice q F.l.length d], .agg #[.int .i64 (F).k, .int .i64 (F).t, .string (F).key, .string (F).val, .int .i64 (F).p, .int .i64 (F).u, .int .i64 (F).n, .slice q' F.l.length d']] w fun e w' => e = .returned (.bool true) ∧ Below w.heap.size w w' := fun w q q' d d' h1 h2 => by
    have := ref5_Same F F q q' d d' w h1 h2 (by omega) (by omega)
    rw [RecD.same_refl] at this
    exact this
  have K1 := Lib.hid k1; have K2 := Lib.hid k2; have K3 := Lib.hid k3; have K4 := Lib.hid k4
  clear k1 k2 k3 k4
  have C9 := Lib.hid law5_fixed
  go_upto_region 3 with ((with_reducible refine (K1.out _).mono ?_); rintro e w1 ⟨q, d, rfl, hP, hw⟩; replace hu := hu.next hw; clear hw)
  have r3 : RowAt (w1.alloc (.cells #[.int .i64 (F).k, .int .i64 (F).t, .string (F).key, .string (F).val, .int .i64 (F).p, .int .i64 (F).u, .int .i64 (F).n, .slice q F.l.length d] 24)) w1.heap.size [.int .i64 (F).k, .int .i64 (F).t, .string (F).key, .string (F).val, .int .i64 (F).p, .int .i64 (F).u, .int .i64 (F).n, .slice q F.l.length d] := RowAt.made w1 _ _
  replace hP := PairsAt.up hP ((Up.refl _).alloc (.cells #[.int .i64 (F).k, .int .i64 (F).t, .string (F).key, .string (F).val, .int .i64 (F).p, .int .i64 (F).u, .int .i64 (F).n, .slice q F.l.length d] 24))
  replace hu := hu.alloc (.cells #[.int .i64 (F).k, .int .i64 (F).t, .string (F).key, .string (F).val, .int .i64 (F).p, .int .i64 (F).u, .int .i64 (F).n, .slice q F.l.length d] 24)
  generalize w1.heap.size = g3 at *
  generalize w1.alloc (.cells #[.int .i64 (F).k, .int .i64 (F).t, .string (F).key, .string (F).val, .int .i64 (F).p, .int .i64 (F).u, .int .i64 (F).n, .slice q F.l.length d] 24) = w2 at *
  go_upto_region 4 with ((with_reducible refine (K2.out _).mono ?_); rintro e w4 ⟨q', d', rfl, hQ, hw⟩; replace r3 := r3.up hw; replace hP := PairsAt.up hP hw; replace hu := hu.next hw; clear hw)
  have r5 : RowAt (w4.alloc (.cells #[.int .i64 (F).k, .int .i64 (F).t, .string (F).key, .string (F).val, .int .i64 (F).p, .int .i64 (F).u, .int .i64 (F).n, .slice q' F.l.length d'] 28)) w4.heap.size [.int .i64 (F).k, .int .i64 (F).t, .string (F).key, .string (F).val, .int .i64 (F).p, .int .i64 (F).u, .int .i64 (F).n, .slice q' F.l.length d'] := RowAt.made w4 _ _
  replace r3 := r3.alloc (.cells #[.int .i64 (F).k, .int .i64 (F).t, .string (F).key, .string (F).val, .int .i64 (F).p, .int .i64 (F).u, .int .i64 (F).n, .slice q' F.l.length d'] 28)
  replace hP := PairsAt.up hP ((Up.refl _).alloc (.cells #[.int .i64 (F).k, .int .i64 (F).t, .string (F).key, .string (F).val, .int .i64 (F).p, .int .i64 (F).u, .int .i64 (F).n, .slice q' F.l.length d'] 28))
  replace hQ := PairsAt.up hQ ((Up.refl _).alloc (.cells #[.int .i64 (F).k, .int .i64 (F).t, .string (F).key, .string (F).val, .int .i64 (F).p, .int .i64 (F).u, .int .i64 (F).n, .slice q' F.l.length d'] 28))
  replace hu := hu.alloc (.cells #[.int .i64 (F).k, .int .i64 (F).t, .string (F).key, .string (F).val, .int .i64 (F).p, .int .i64 (F).u, .int .i64 (F).n, .slice q' F.l.length d'] 28)
  generalize w4.heap.size = g5 at *
  generalize w4.alloc (.cells #[.int .i64 (F).k, .int .i64 (F).t, .string (F).key, .string (F).val, .int .i64 (F).p, .int .i64 (F).u, .int .i64 (F).n, .slice q' F.l.length d'] 28) = w5 at *
  obtain ⟨x0, x1, x2, x3, x4, x5, x6, x7, -⟩ := r3.c8
  obtain ⟨s0, s1, s2', s3, s4, s5, s6, s7, -⟩ := r5.c8
  have HP := Lib.hid (show ∀ u : Later w5, PairsAt u.world q F.l from fun u => PairsAt.up hP u.up)
  have HQ := Lib.hid (show ∀ u : Later w5, PairsAt u.world q' F.l from fun u => PairsAt.up hQ u.up)
  have a0 := Later.cell_of x0; have a1 := Later.cell_of x1; have a2 := Later.cell_of x2; have a3 := Later.cell_of x3; have a4 := Later.cell_of x4; have a5 := Later.cell_of x5; have a6 := Later.cell_of x6; have a7 := Later.cell_of x7
  have b0 := Later.cell_of s0; have b1 := Later.cell_of s1; have b2 := Later.cell_of s2'; have b3 := Later.cell_of s3; have b4 := Later.cell_of s4; have b5 := Later.cell_of s5; have b6 := Later.cell_of s6; have b7 := Later.cell_of s7
  clear x0 x1 x2 x3 x4 x5 x6 x7 s0 s1 s2' s3 s4 s5 s6 s7 hP hQ
  have hne := later_ne w5
  refine wp_region_later (by kernel_rfl) (by kernel_rfl) ?_
  repeat (go_big_quiet_step (first
    | (go_at_call 13; with_reducible exact Calls.later (K3.out _ _ _))
    | (go_at_call 17; with_reducible exact Calls.later (K4.out _ _ _ _ _ (HP.out _) (HQ.out _)))
    | (go_at_call 22; with_reducible exact Calls.later (C9.out _))))
  refine wpQuiet_nil ?_
  intro w9 hw9
  obtain ⟨u9, rfl⟩ := hw9
  replace hu := hu.trans u9.up
  generalize u9.world = w9 at *
  go_wp2_with fail
  go_ret
  exact ⟨rfl, hu⟩

theorem gets_law (s : ByteArray) (hs : s.size ≤ maxLen) (w : World) :
    Calls Try.prog 4 #[.string s] w fun e w' => e = .returned (.bool true) ∧ Below w.heap.size w w' := gets_walk s w
end Go.Proofs.Ytibeeomeafakgaa
