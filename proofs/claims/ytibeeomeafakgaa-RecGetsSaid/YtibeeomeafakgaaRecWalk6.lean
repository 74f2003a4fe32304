import Derived.Test.YtibeeomeafakgaaRecWalk5
namespace Go.Proofs.Ytibeeomeafakgaa
open Go.RowKit Bw
set_option linter.unusedVariables false

theorem rightR_form (r : RecD) : r.rightR = (inB r.k 1 7 && r.same r.bare && (!txnB r.k || inB r.t 1 1099511627776) && (!hkeyB r.k || keyB r.key) && (valB r.val && inB r.p 0 4 && inB r.u 0 1099511627776 && inB r.n 0 1099511627776 && rowB r.l)) := rfl

theorem rec_Same_bare (r : RecD) (pa : Option Addr) (ca : Nat) (w : World) (hA : PairsAt w pa r.l) (la : r.l.length ≤ 1099511627776) :
    Calls Try.prog 16 #[recV r (.slice pa r.l.length ca), recV r.bare (if pairsB r.k then .slice pa r.l.length ca else .slice none 0 0)] w fun e w' => e = .returned (.bool (r.same r.bare)) ∧ Below w.heap.size w w' := by
  cases h : pairsB r.k
  · have hb : r.bare.l = [] := by simp [RecD.bare, h]
    have := rec_Same r r.bare pa none ca 0 w hA (by rw [hb]; exact PairsAt.nil _ _) la (by rw [hb]; simp)
    rw [hb] at this
    exact this
  · have hb : r.bare.l = r.l := by simp [RecD.bare, h]
    have := rec_Same r r.bare pa pa ca ca w hA (by rw [hb]; exact hA) la (by rw [hb]; exact la)
    rw [hb] at this
    exact this

set_option maxHeartbeats 2000000 in
theorem right1 (t : Int) (key val : ByteArray) (p u n : Int) (l : List PairD) (pa : Option Addr) (ca : Nat) (w : World) (hA : PairsAt w pa l) (la : l.length ≤ 1099511627776) :
    Calls Try.prog 11 #[.agg #[.int .i64 1, .int .i64 t, .string key, .string val, .int .i64 p, .int .i64 u, .int .i64 n, .slice pa l.length ca]] w fun e w' => e = .returned (.bool (RecD.rightR ⟨1, t, key, val, p, u, n, l⟩)) ∧ Below w.heap.size w w' := by
  have HF := Lib.hid (rightR_form ⟨1, t, key, val, p, u, n, l⟩)
  have c1 := fun w => rec_within 1 1 7 w
  rw [show inB 1 1 7 = true from rfl] at c1
  have C1 := Lib.hid c1; clear c1
  have c2 := fun w => rec_bare ⟨1, t, key, val, p, u, n, l⟩ (by simp) pa l.length ca w
  have c3 := fun w1 (h : Up w w1) => rec_Same_bare ⟨1, t, key, val, p, u, n, l⟩ pa ca w1 (hA.up h) la
  have C6 := Lib.hid (fun w1 (h : Up w w1) => rec_row l pa ca w1 (hA.up h) la)
  generalize recV (RecD.bare ⟨1, t, key, val, p, u, n, l⟩) (if pairsB 1 = true then .slice pa l.length ca else .slice none 0 0) = BV at *
  generalize RecD.same ⟨1, t, key, val, p, u, n, l⟩ (RecD.bare ⟨1, t, key, val, p, u, n, l⟩) = S at *
  generalize RecD.rightR ⟨1, t, key, val, p, u, n, l⟩ = R at *
  simp only [recV] at c2 c3
  have C2 := Lib.hid c2; clear c2
  have C4 := Lib.hid rec_kinds
  have hu := Up.refl w
  have hix : ∀ w, (Instr.index 51 (.agg kindsA) (.int .i64 1)).run Try.prog w = .ok (.agg #[.bool true, .bool false, .bool false, .bool false, .bool false]) w := fun _ => by kernel_rfl
  clear hA la
  cases S
  · have C3 := Lib.hid c3; clear c3
    go_enter Try.func11, Try.ntmps11
    go_upto_region 1 with fail
    have rp := (RowAt.made w 24 [.int .i64 1, .int .i64 t, .string key, .string val, .int .i64 p, .int .i64 u, .int .i64 n, .slice pa l.length ca])
    replace hu := hu.alloc (.cells #[.int .i64 1, .int .i64 t, .string key, .string val, .int .i64 p, .int .i64 u, .int .i64 n, .slice pa l.length ca] 24)
    have C5 := Lib.hid (show ∀ u : Later (w.alloc (.cells #[.int .i64 1, .int .i64 t, .string key, .string val, .int .i64 p, .int .i64 u, .int .i64 n, .slice pa l.length ca] 24)), Up w u.world from fun u => hu.trans u.up)
    obtain ⟨p0, p1, p2, p3, p4, p5, p6, p7, -⟩ := rp.c8
    have l0 := Later.cell_of p0; have l1 := Later.cell_of p1; have l2 := Later.cell_of p2; have l3 := Later.cell_of p3
    have l4 := Later.cell_of p4; have l5 := Later.cell_of p5; have l6 := Later.cell_of p6; have l7 := Later.cell_of p7
    clear p0 p1 p2 p3 p4 p5 p6 p7
    have hne := later_ne (w.alloc (.cells #[.int .i64 1, .int .i64 t, .string key, .string val, .int .i64 p, .int .i64 u, .int .i64 n, .slice pa l.length ca] 24))
    refine wp_region_later (by kernel_rfl) (by kernel_rfl) ?_
    repeat (go_big_quiet_step (first
      | (go_at_call 25; exact Calls.later_same (C1.out _))
      | (go_at_call 26; exact Calls.later (C2.out _))
      | (go_at_call 16; exact Calls.later (C3.out _ (C5.out _)))))
    refine wpQuiet_nil ?_
    intro w9 hw9
    obtain ⟨u9, rfl⟩ := hw9
    replace rp := rp.up u9.up
    replace hu := hu.trans u9.up
    clear l0 l1 l2 l3 l4 l5 l6 l7 hne C5
    generalize u9.world = w9 at *
    obtain ⟨p0, -⟩ := rp.c8
    go_wp2_with fail
    go_ret
    exact ⟨by rw [HF.out]; rfl, hu⟩
  · have C3 := Lib.hid c3; clear c3
    go_enter Try.func11, Try.ntmps11
    go_upto_region 1 with fail
    have rp := (RowAt.made w 24 [.int .i64 1, .int .i64 t, .string key, .string val, .int .i64 p, .int .i64 u, .int .i64 n, .slice pa l.length ca])
    replace hu := hu.alloc (.cells #[.int .i64 1, .int .i64 t, .string key, .string val, .int .i64 p, .int .i64 u, .int .i64 n, .slice pa l.length ca] 24)
    have C5 := Lib.hid (show ∀ u : Later (w.alloc (.cells #[.int .i64 1, .int .i64 t, .string key, .string val, .int .i64 p, .int .i64 u, .int .i64 n, .slice pa l.length ca] 24)), Up w u.world from fun u => hu.trans u.up)
    obtain ⟨p0, p1, p2, p3, p4, p5, p6, p7, -⟩ := rp.c8
    have l0 := Later.cell_of p0; have l1 := Later.cell_of p1; have l2 := Later.cell_of p2; have l3 := Later.cell_of p3
    have l4 := Later.cell_of p4; have l5 := Later.cell_of p5; have l6 := Later.cell_of p6; have l7 := Later.cell_of p7
    clear p0 p1 p2 p3 p4 p5 p6 p7
    have hne := later_ne (w.alloc (.cells #[.int .i64 1, .int .i64 t, .string key, .string val, .int .i64 p, .int .i64 u, .int .i64 n, .slice pa l.length ca] 24))
    refine wp_region_later (by kernel_rfl) (by kernel_rfl) ?_
    repeat (go_big_quiet_step (first
      | (go_at_call 25; exact Calls.later_same (C1.out _))
      | (go_at_call 26; exact Calls.later (C2.out _))
      | (go_at_call 16; exact Calls.later (C3.out _ (C5.out _)))))
    refine wpQuiet_nil ?_
    intro w9 hw9
    obtain ⟨u9, rfl⟩ := hw9
    replace rp := rp.up u9.up
    replace hu := hu.trans u9.up
    clear l0 l1 l2 l3 l4 l5 l6 l7 hne C5
    generalize u9.world = w9 at *
    obtain ⟨p0, -⟩ := rp.c8
    go_upto_region 3 with fail
    have rp2 := rp.drew
    replace hu := hu.drew
    have hlt := rp.lt
    go_cut [3] (fun v3 wx => ∃ h : Nat, v3 = .pointer (some ⟨h, 0, none⟩) ∧ RowAt wx h [.bool true, .bool false, .bool false, .bool false, .bool false] ∧ RowAt wx w.heap.size [.int .i64 1, .int .i64 t, .string key, .string val, .int .i64 p, .int .i64 u, .int .i64 n, .slice pa l.length ca] ∧ Up w wx)
    case first =>
      have ha := (RowAt.made w9.drew 50 [.bool false, .bool false, .bool false, .bool false, .bool false])
      simp at ha
      have n2 : ¬ w9.heap.size = w.heap.size := by omega
      have n3 : ¬ w.heap.size = w9.heap.size := by omega
      go_region_held3 (fun w' => w'.cell? ⟨w.heap.size, 0, none⟩ = some (.int .i64 1)) (go_keep)
        (first
          | ((with_reducible refine (C4.out _).mono ?_); rintro e w1 ⟨rfl, hw1⟩; replace rp2 := rp2.up hw1; obtain ⟨q0, -⟩ := rp2.c8; replace hu := hu.next hw1; clear hw1)
          | ((with_reducible refine (C4.out _).mono ?_); rintro e w1 ⟨rfl, hw1⟩; replace ha := ha.up hw1; obtain ⟨y0, y1, y2, y3, y4, x0, x1, x2, x3, x4⟩ := ha.c5; replace rp2 := (rp2.alloc _).up hw1; obtain ⟨q0, -⟩ := rp2.c8; replace hu := (hu.alloc _).next hw1; clear hw1))
      all_goals (go_wp2_with fail; go_meet)
      iterate 2
        · exact ⟨w1.heap.size, rfl, RowAt.made w1 50 [.bool true, .bool false, .bool false, .bool false, .bool false], rp2.alloc _, hu.alloc _⟩
      · refine ⟨w9.heap.size, rfl, ?_, ?_, ?_⟩
        · exact ((((ha.set 0 _ (by simp)).set 1 _ (by simp)).set 2 _ (by simp)).set 3 _ (by simp)).set 4 _ (by simp)
        · exact ((((rp2.other _ 0 _ n2).other _ 1 _ n2).other _ 2 _ n2).other _ 3 _ n2).other _ 4 _ n2
        · have := hu.out.size
          have := (Up.refl w).out.size
          repeat (refine Up.setCell ?_ _ _ _ (by omega))
          exact hu
    case rest =>
    clear rp rp2 hu hlt p0
    obtain ⟨h, rfl, rh, rp, hu⟩ := hcut
    obtain ⟨y0, y1, y2, y3, y4, -⟩ := rh.c5
    obtain ⟨p0, p1, p2, p3, p4, p5, p6, p7, -⟩ := rp.c8
    have C7 := Lib.hid rec_within
    have C8 := Lib.hid (rec_Key key)
    have C9 := Lib.hid (rec_Value val)
    go_wp2_with (first
      | ((with_reducible refine (C8.out _).mono ?_); rintro e wn ⟨rfl, rfl⟩)
      | ((with_reducible refine (C9.out _).mono ?_); rintro e wn ⟨rfl, rfl⟩)
      | ((with_reducible refine (C7.out _ _ _ _).mono ?_); rintro e wn ⟨rfl, rfl⟩)
      | ((with_reducible refine (C6.out _ ?_).mono ?_); (· exact hu); rintro e wn ⟨rfl, hwn⟩; replace hu := hu.next hwn; clear hwn))
    all_goals go_ret
    all_goals (refine ⟨?_, hu⟩)
    all_goals
      rw [HF.out]
      have hin : inB 1 1 7 = true := rfl
      try (have q1 := ‹(!inB t 1 1099511627776) = true›; simp only [Bool.not_eq_true'] at q1)
      try (have q1 := ‹(!inB t 1 1099511627776) = false›; simp only [Bool.not_eq_false'] at q1)
      try (have q2 := ‹(!keyB key) = true›; simp only [Bool.not_eq_true'] at q2)
      try (have q2 := ‹(!keyB key) = false›; simp only [Bool.not_eq_false'] at q2)
      simp [txnB, hkeyB, *]
set_option maxHeartbeats 2000000 in
theorem right2 (t : Int) (key val : ByteArray) (p u n : Int) (l : List PairD) (pa : Option Addr) (ca : Nat) (w : World) (hA : PairsAt w pa l) (la : l.length ≤ 1099511627776) :
    Calls Try.prog 11 #[.agg #[.int .i64 2, .int .i64 t, .string key, .string val, .int .i64 p, .int .i64 u, .int .i64 n, .slice pa l.length ca]] w fun e w' => e = .returned (.bool (RecD.rightR ⟨2, t, key, val, p, u, n, l⟩)) ∧ Below w.heap.size w w' := by
  have HF := Lib.hid (rightR_form ⟨2, t, key, val, p, u, n, l⟩)
  have c1 := fun w => rec_within 2 1 7 w
  rw [show inB 2 1 7 = true from rfl] at c1
  have C1 := Lib.hid c1; clear c1
  have c2 := fun w => rec_bare ⟨2, t, key, val, p, u, n, l⟩ (by simp) pa l.length ca w
  have c3 := fun w1 (h : Up w w1) => rec_Same_bare ⟨2, t, key, val, p, u, n, l⟩ pa ca w1 (hA.up h) la
  have C6 := Lib.hid (fun w1 (h : Up w w1) => rec_row l pa ca w1 (hA.up h) la)
  generalize recV (RecD.bare ⟨2, t, key, val, p, u, n, l⟩) (if pairsB 2 = true then .slice pa l.length ca else .slice none 0 0) = BV at *
  generalize RecD.same ⟨2, t, key, val, p, u, n, l⟩ (RecD.bare ⟨2, t, key, val, p, u, n, l⟩) = S at *
  generalize RecD.rightR ⟨2, t, key, val, p, u, n, l⟩ = R at *
  simp only [recV] at c2 c3
  have C2 := Lib.hid c2; clear c2
  have C4 := Lib.hid rec_kinds
  have hu := Up.refl w
  have hix : ∀ w, (Instr.index 51 (.agg kindsA) (.int .i64 2)).run Try.prog w = .ok (.agg #[.bool true, .bool true, .bool true, .bool false, .bool false]) w := fun _ => by kernel_rfl
  clear hA la
  cases S
  · have C3 := Lib.hid c3; clear c3
    go_enter Try.func11, Try.ntmps11
    go_upto_region 1 with fail
    have rp := (RowAt.made w 24 [.int .i64 2, .int .i64 t, .string key, .string val, .int .i64 p, .int .i64 u, .int .i64 n, .slice pa l.length ca])
    replace hu := hu.alloc (.cells #[.int .i64 2, .int .i64 t, .string key, .string val, .int .i64 p, .int .i64 u, .int .i64 n, .slice pa l.length ca] 24)
    have C5 := Lib.hid (show ∀ u : Later (w.alloc (.cells #[.int .i64 2, .int .i64 t, .string key, .string val, .int .i64 p, .int .i64 u, .int .i64 n, .slice pa l.length ca] 24)), Up w u.world from fun u => hu.trans u.up)
    obtain ⟨p0, p1, p2, p3, p4, p5, p6, p7, -⟩ := rp.c8
    have l0 := Later.cell_of p0; have l1 := Later.cell_of p1; have l2 := Later.cell_of p2; have l3 := Later.cell_of p3
    have l4 := Later.cell_of p4; have l5 := Later.cell_of p5; have l6 := Later.cell_of p6; have l7 := Later.cell_of p7
    clear p0 p1 p2 p3 p4 p5 p6 p7
    have hne := later_ne (w.alloc (.cells #[.int .i64 2, .int .i64 t, .string key, .string val, .int .i64 p, .int .i64 u, .int .i64 n, .slice pa l.length ca] 24))
    refine wp_region_later (by kernel_rfl) (by kernel_rfl) ?_
    repeat (go_big_quiet_step (first
      | (go_at_call 25; exact Calls.later_same (C1.out _))
      | (go_at_call 26; exact Calls.later (C2.out _))
      | (go_at_call 16; exact Calls.later (C3.out _ (C5.out _)))))
    refine wpQuiet_nil ?_
    intro w9 hw9
    obtain ⟨u9, rfl⟩ := hw9
    replace rp := rp.up u9.up
    replace hu := hu.trans u9.up
    clear l0 l1 l2 l3 l4 l5 l6 l7 hne C5
    generalize u9.world = w9 at *
    obtain ⟨p0, -⟩ := rp.c8
    go_wp2_with fail
    go_ret
    exact ⟨by rw [HF.out]; rfl, hu⟩
  · have C3 := Lib.hid c3; clear c3
    go_enter Try.func11, Try.ntmps11
    go_upto_region 1 with fail
    have rp := (RowAt.made w 24 [.int .i64 2, .int .i64 t, .string key, .string val, .int .i64 p, .int .i64 u, .int .i64 n, .slice pa l.length ca])
    replace hu := hu.alloc (.cells #[.int .i64 2, .int .i64 t, .string key, .string val, .int .i64 p, .int .i64 u, .int .i64 n, .slice pa l.length ca] 24)
    have C5 := Lib.hid (show ∀ u : Later (w.alloc (.cells #[.int .i64 2, .int .i64 t, .string key, .string val, .int .i64 p, .int .i64 u, .int .i64 n, .slice pa l.length ca] 24)), Up w u.world from fun u => hu.trans u.up)
    obtain ⟨p0, p1, p2, p3, p4, p5, p6, p7, -⟩ := rp.c8
    have l0 := Later.cell_of p0; have l1 := Later.cell_of p1; have l2 := Later.cell_of p2; have l3 := Later.cell_of p3
    have l4 := Later.cell_of p4; have l5 := Later.cell_of p5; have l6 := Later.cell_of p6; have l7 := Later.cell_of p7
    clear p0 p1 p2 p3 p4 p5 p6 p7
    have hne := later_ne (w.alloc (.cells #[.int .i64 2, .int .i64 t, .string key, .string val, .int .i64 p, .int .i64 u, .int .i64 n, .slice pa l.length ca] 24))
    refine wp_region_later (by kernel_rfl) (by kernel_rfl) ?_
    repeat (go_big_quiet_step (first
      | (go_at_call 25; exact Calls.later_same (C1.out _))
      | (go_at_call 26; exact Calls.later (C2.out _))
      | (go_at_call 16; exact Calls.later (C3.out _ (C5.out _)))))
    refine wpQuiet_nil ?_
    intro w9 hw9
    obtain ⟨u9, rfl⟩ := hw9
    replace rp := rp.up u9.up
    replace hu := hu.trans u9.up
    clear l0 l1 l2 l3 l4 l5 l6 l7 hne C5
    generalize u9.world = w9 at *
    obtain ⟨p0, -⟩ := rp.c8
    go_upto_region 3 with fail
    have rp2 := rp.drew
    replace hu := hu.drew
    have hlt := rp.lt
    go_cut [3] (fun v3 wx => ∃ h : Nat, v3 = .pointer (some ⟨h, 0, none⟩) ∧ RowAt wx h [.bool true, .bool true, .bool true, .bool false, .bool false] ∧ RowAt wx w.heap.size [.int .i64 2, .int .i64 t, .string key, .string val, .int .i64 p, .int .i64 u, .int .i64 n, .slice pa l.length ca] ∧ Up w wx)
    case first =>
      have ha := (RowAt.made w9.drew 50 [.bool false, .bool false, .bool false, .bool false, .bool false])
      simp at ha
      have n2 : ¬ w9.heap.size = w.heap.size := by omega
      have n3 : ¬ w.heap.size = w9.heap.size := by omega
      go_region_held3 (fun w' => w'.cell? ⟨w.heap.size, 0, none⟩ = some (.int .i64 2)) (go_keep)
        (first
          | ((with_reducible refine (C4.out _).mono ?_); rintro e w1 ⟨rfl, hw1⟩; replace rp2 := rp2.up hw1; obtain ⟨q0, -⟩ := rp2.c8; replace hu := hu.next hw1; clear hw1)
          | ((with_reducible refine (C4.out _).mono ?_); rintro e w1 ⟨rfl, hw1⟩; replace ha := ha.up hw1; obtain ⟨y0, y1, y2, y3, y4, x0, x1, x2, x3, x4⟩ := ha.c5; replace rp2 := (rp2.alloc _).up hw1; obtain ⟨q0, -⟩ := rp2.c8; replace hu := (hu.alloc _).next hw1; clear hw1))
      all_goals (go_wp2_with fail; go_meet)
      iterate 2
        · exact ⟨w1.heap.size, rfl, RowAt.made w1 50 [.bool true, .bool true, .bool true, .bool false, .bool false], rp2.alloc _, hu.alloc _⟩
      · refine ⟨w9.heap.size, rfl, ?_, ?_, ?_⟩
        · exact ((((ha.set 0 _ (by simp)).set 1 _ (by simp)).set 2 _ (by simp)).set 3 _ (by simp)).set 4 _ (by simp)
        · exact ((((rp2.other _ 0 _ n2).other _ 1 _ n2).other _ 2 _ n2).other _ 3 _ n2).other _ 4 _ n2
        · have := hu.out.size
          have := (Up.refl w).out.size
          repeat (refine Up.setCell ?_ _ _ _ (by omega))
          exact hu
    case rest =>
    clear rp rp2 hu hlt p0
    obtain ⟨h, rfl, rh, rp, hu⟩ := hcut
    obtain ⟨y0, y1, y2, y3, y4, -⟩ := rh.c5
    obtain ⟨p0, p1, p2, p3, p4, p5, p6, p7, -⟩ := rp.c8
    have C7 := Lib.hid rec_within
    have C8 := Lib.hid (rec_Key key)
    have C9 := Lib.hid (rec_Value val)
    go_wp2_with (first
      | ((with_reducible refine (C8.out _).mono ?_); rintro e wn ⟨rfl, rfl⟩)
      | ((with_reducible refine (C9.out _).mono ?_); rintro e wn ⟨rfl, rfl⟩)
      | ((with_reducible refine (C7.out _ _ _ _).mono ?_); rintro e wn ⟨rfl, rfl⟩)
      | ((with_reducible refine (C6.out _ ?_).mono ?_); (· exact hu); rintro e wn ⟨rfl, hwn⟩; replace hu := hu.next hwn; clear hwn))
    all_goals go_ret
    all_goals (refine ⟨?_, hu⟩)
    all_goals
      rw [HF.out]
      have hin : inB 2 1 7 = true := rfl
      try (have q1 := ‹(!inB t 1 1099511627776) = true›; simp only [Bool.not_eq_true'] at q1)
      try (have q1 := ‹(!inB t 1 1099511627776) = false›; simp only [Bool.not_eq_false'] at q1)
      try (have q2 := ‹(!keyB key) = true›; simp only [Bool.not_eq_true'] at q2)
      try (have q2 := ‹(!keyB key) = false›; simp only [Bool.not_eq_false'] at q2)
      simp [txnB, hkeyB, *]
set_option maxHeartbeats 2000000 in
theorem right3 (t : Int) (key val : ByteArray) (p u n : Int) (l : List PairD) (pa : Option Addr) (ca : Nat) (w : World) (hA : PairsAt w pa l) (la : l.length ≤ 1099511627776) :
    Calls Try.prog 11 #[.agg #[.int .i64 3, .int .i64 t, .string key, .string val, .int .i64 p, .int .i64 u, .int .i64 n, .slice pa l.length ca]] w fun e w' => e = .returned (.bool (RecD.rightR ⟨3, t, key, val, p, u, n, l⟩)) ∧ Below w.heap.size w w' := by
  have HF := Lib.hid (rightR_form ⟨3, t, key, val, p, u, n, l⟩)
  have c1 := fun w => rec_within 3 1 7 w
  rw [show inB 3 1 7 = true from rfl] at c1
  have C1 := Lib.hid c1; clear c1
  have c2 := fun w => rec_bare ⟨3, t, key, val, p, u, n, l⟩ (by simp) pa l.length ca w
  have c3 := fun w1 (h : Up w w1) => rec_Same_bare ⟨3, t, key, val, p, u, n, l⟩ pa ca w1 (hA.up h) la
  have C6 := Lib.hid (fun w1 (h : Up w w1) => rec_row l pa ca w1 (hA.up h) la)
  generalize recV (RecD.bare ⟨3, t, key, val, p, u, n, l⟩) (if pairsB 3 = true then .slice pa l.length ca else .slice none 0 0) = BV at *
  generalize RecD.same ⟨3, t, key, val, p, u, n, l⟩ (RecD.bare ⟨3, t, key, val, p, u, n, l⟩) = S at *
  generalize RecD.rightR ⟨3, t, key, val, p, u, n, l⟩ = R at *
  simp only [recV] at c2 c3
  have C2 := Lib.hid c2; clear c2
  have C4 := Lib.hid rec_kinds
  have hu := Up.refl w
  have hix : ∀ w, (Instr.index 51 (.agg kindsA) (.int .i64 3)).run Try.prog w = .ok (.agg #[.bool true, .bool true, .bool false, .bool false, .bool false]) w := fun _ => by kernel_rfl
  clear hA la
  cases S
  · have C3 := Lib.hid c3; clear c3
    go_enter Try.func11, Try.ntmps11
    go_upto_region 1 with fail
    have rp := (RowAt.made w 24 [.int .i64 3, .int .i64 t, .string key, .string val, .int .i64 p, .int .i64 u, .int .i64 n, .slice pa l.length ca])
    replace hu := hu.alloc (.cells #[.int .i64 3, .int .i64 t, .string key, .string val, .int .i64 p, .int .i64 u, .int .i64 n, .slice pa l.length ca] 24)
    have C5 := Lib.hid (show ∀ u : Later (w.alloc (.cells #[.int .i64 3, .int .i64 t, .string key, .string val, .int .i64 p, .int .i64 u, .int .i64 n, .slice pa l.length ca] 24)), Up w u.world from fun u => hu.trans u.up)
    obtain ⟨p0, p1, p2, p3, p4, p5, p6, p7, -⟩ := rp.c8
    have l0 := Later.cell_of p0; have l1 := Later.cell_of p1; have l2 := Later.cell_of p2; have l3 := Later.cell_of p3
    have l4 := Later.cell_of p4; have l5 := Later.cell_of p5; have l6 := Later.cell_of p6; have l7 := Later.cell_of p7
    clear p0 p1 p2 p3 p4 p5 p6 p7
    have hne := later_ne (w.alloc (.cells #[.int .i64 3, .int .i64 t, .string key, .string val, .int .i64 p, .int .i64 u, .int .i64 n, .slice pa l.length ca] 24))
    refine wp_region_later (by kernel_rfl) (by kernel_rfl) ?_
    repeat (go_big_quiet_step (first
      | (go_at_call 25; exact Calls.later_same (C1.out _))
      | (go_at_call 26; exact Calls.later (C2.out _))
      | (go_at_call 16; exact Calls.later (C3.out _ (C5.out _)))))
    refine wpQuiet_nil ?_
    intro w9 hw9
    obtain ⟨u9, rfl⟩ := hw9
    replace rp := rp.up u9.up
    replace hu := hu.trans u9.up
    clear l0 l1 l2 l3 l4 l5 l6 l7 hne C5
    generalize u9.world = w9 at *
    obtain ⟨p0, -⟩ := rp.c8
    go_wp2_with fail
    go_ret
    exact ⟨by rw [HF.out]; rfl, hu⟩
  · have C3 := Lib.hid c3; clear c3
    go_enter Try.func11, Try.ntmps11
    go_upto_region 1 with fail
    have rp := (RowAt.made w 24 [.int .i64 3, .int .i64 t, .string key, .string val, .int .i64 p, .int .i64 u, .int .i64 n, .slice pa l.length ca])
    replace hu := hu.alloc (.cells #[.int .i64 3, .int .i64 t, .string key, .string val, .int .i64 p, .int .i64 u, .int .i64 n, .slice pa l.length ca] 24)
    have C5 := Lib.hid (show ∀ u : Later (w.alloc (.cells #[.int .i64 3, .int .i64 t, .string key, .string val, .int .i64 p, .int .i64 u, .int .i64 n, .slice pa l.length ca] 24)), Up w u.world from fun u => hu.trans u.up)
    obtain ⟨p0, p1, p2, p3, p4, p5, p6, p7, -⟩ := rp.c8
    have l0 := Later.cell_of p0; have l1 := Later.cell_of p1; have l2 := Later.cell_of p2; have l3 := Later.cell_of p3
    have l4 := Later.cell_of p4; have l5 := Later.cell_of p5; have l6 := Later.cell_of p6; have l7 := Later.cell_of p7
    clear p0 p1 p2 p3 p4 p5 p6 p7
    have hne := later_ne (w.alloc (.cells #[.int .i64 3, .int .i64 t, .string key, .string val, .int .i64 p, .int .i64 u, .int .i64 n, .slice pa l.length ca] 24))
    refine wp_region_later (by kernel_rfl) (by kernel_rfl) ?_
    repeat (go_big_quiet_step (first
      | (go_at_call 25; exact Calls.later_same (C1.out _))
      | (go_at_call 26; exact Calls.later (C2.out _))
      | (go_at_call 16; exact Calls.later (C3.out _ (C5.out _)))))
    refine wpQuiet_nil ?_
    intro w9 hw9
    obtain ⟨u9, rfl⟩ := hw9
    replace rp := rp.up u9.up
    replace hu := hu.trans u9.up
    clear l0 l1 l2 l3 l4 l5 l6 l7 hne C5
    generalize u9.world = w9 at *
    obtain ⟨p0, -⟩ := rp.c8
    go_upto_region 3 with fail
    have rp2 := rp.drew
    replace hu := hu.drew
    have hlt := rp.lt
    go_cut [3] (fun v3 wx => ∃ h : Nat, v3 = .pointer (some ⟨h, 0, none⟩) ∧ RowAt wx h [.bool true, .bool true, .bool false, .bool false, .bool false] ∧ RowAt wx w.heap.size [.int .i64 3, .int .i64 t, .string key, .string val, .int .i64 p, .int .i64 u, .int .i64 n, .slice pa l.length ca] ∧ Up w wx)
    case first =>
      have ha := (RowAt.made w9.drew 50 [.bool false, .bool false, .bool false, .bool false, .bool false])
      simp at ha
      have n2 : ¬ w9.heap.size = w.heap.size := by omega
      have n3 : ¬ w.heap.size = w9.heap.size := by omega
      go_region_held3 (fun w' => w'.cell? ⟨w.heap.size, 0, none⟩ = some (.int .i64 3)) (go_keep)
        (first
          | ((with_reducible refine (C4.out _).mono ?_); rintro e w1 ⟨rfl, hw1⟩; replace rp2 := rp2.up hw1; obtain ⟨q0, -⟩ := rp2.c8; replace hu := hu.next hw1; clear hw1)
          | ((with_reducible refine (C4.out _).mono ?_); rintro e w1 ⟨rfl, hw1⟩; replace ha := ha.up hw1; obtain ⟨y0, y1, y2, y3, y4, x0, x1, x2, x3, x4⟩ := ha.c5; replace rp2 := (rp2.alloc _).up hw1; obtain ⟨q0, -⟩ := rp2.c8; replace hu := (hu.alloc _).next hw1; clear hw1))
      all_goals (go_wp2_with fail; go_meet)
      iterate 2
        · exact ⟨w1.heap.size, rfl, RowAt.made w1 50 [.bool true, .bool true, .bool false, .bool false, .bool false], rp2.alloc _, hu.alloc _⟩
      · refine ⟨w9.heap.size, rfl, ?_, ?_, ?_⟩
        · exact ((((ha.set 0 _ (by simp)).set 1 _ (by simp)).set 2 _ (by simp)).set 3 _ (by simp)).set 4 _ (by simp)
        · exact ((((rp2.other _ 0 _ n2).other _ 1 _ n2).other _ 2 _ n2).other _ 3 _ n2).other _ 4 _ n2
        · have := hu.out.size
          have := (Up.refl w).out.size
          repeat (refine Up.setCell ?_ _ _ _ (by omega))
          exact hu
    case rest =>
    clear rp rp2 hu hlt p0
    obtain ⟨h, rfl, rh, rp, hu⟩ := hcut
    obtain ⟨y0, y1, y2, y3, y4, -⟩ := rh.c5
    obtain ⟨p0, p1, p2, p3, p4, p5, p6, p7, -⟩ := rp.c8
    have C7 := Lib.hid rec_within
    have C8 := Lib.hid (rec_Key key)
    have C9 := Lib.hid (rec_Value val)
    go_wp2_with (first
      | ((with_reducible refine (C8.out _).mono ?_); rintro e wn ⟨rfl, rfl⟩)
      | ((with_reducible refine (C9.out _).mono ?_); rintro e wn ⟨rfl, rfl⟩)
      | ((with_reducible refine (C7.out _ _ _ _).mono ?_); rintro e wn ⟨rfl, rfl⟩)
      | ((with_reducible refine (C6.out _ ?_).mono ?_); (· exact hu); rintro e wn ⟨rfl, hwn⟩; replace hu := hu.next hwn; clear hwn))
    all_goals go_ret
    all_goals (refine ⟨?_, hu⟩)
    all_goals
      rw [HF.out]
      have hin : inB 3 1 7 = true := rfl
      try (have q1 := ‹(!inB t 1 1099511627776) = true›; simp only [Bool.not_eq_true'] at q1)
      try (have q1 := ‹(!inB t 1 1099511627776) = false›; simp only [Bool.not_eq_false'] at q1)
      try (have q2 := ‹(!keyB key) = true›; simp only [Bool.not_eq_true'] at q2)
      try (have q2 := ‹(!keyB key) = false›; simp only [Bool.not_eq_false'] at q2)
      simp [txnB, hkeyB, *]
set_option maxHeartbeats 2000000 in
theorem right4 (t : Int) (key val : ByteArray) (p u n : Int) (l : List PairD) (pa : Option Addr) (ca : Nat) (w : World) (hA : PairsAt w pa l) (la : l.length ≤ 1099511627776) :
    Calls Try.prog 11 #[.agg #[.int .i64 4, .int .i64 t, .string key, .string val, .int .i64 p, .int .i64 u, .int .i64 n, .slice pa l.length ca]] w fun e w' => e = .returned (.bool (RecD.rightR ⟨4, t, key, val, p, u, n, l⟩)) ∧ Below w.heap.size w w' := by
  have HF := Lib.hid (rightR_form ⟨4, t, key, val, p, u, n, l⟩)
  have c1 := fun w => rec_within 4 1 7 w
  rw [show inB 4 1 7 = true from rfl] at c1
  have C1 := Lib.hid c1; clear c1
  have c2 := fun w => rec_bare ⟨4, t, key, val, p, u, n, l⟩ (by simp) pa l.length ca w
  have c3 := fun w1 (h : Up w w1) => rec_Same_bare ⟨4, t, key, val, p, u, n, l⟩ pa ca w1 (hA.up h) la
  have C6 := Lib.hid (fun w1 (h : Up w w1) => rec_row l pa ca w1 (hA.up h) la)
  generalize recV (RecD.bare ⟨4, t, key, val, p, u, n, l⟩) (if pairsB 4 = true then .slice pa l.length ca else .slice none 0 0) = BV at *
  generalize RecD.same ⟨4, t, key, val, p, u, n, l⟩ (RecD.bare ⟨4, t, key, val, p, u, n, l⟩) = S at *
  generalize RecD.rightR ⟨4, t, key, val, p, u, n, l⟩ = R at *
  simp only [recV] at c2 c3
  have C2 := Lib.hid c2; clear c2
  have C4 := Lib.hid rec_kinds
  have hu := Up.refl w
  have hix : ∀ w, (Instr.index 51 (.agg kindsA) (.int .i64 4)).run Try.prog w = .ok (.agg #[.bool true, .bool false, .bool false, .bool false, .bool false]) w := fun _ => by kernel_rfl
  clear hA la
  cases S
  · have C3 := Lib.hid c3; clear c3
    go_enter Try.func11, Try.ntmps11
    go_upto_region 1 with fail
    have rp := (RowAt.made w 24 [.int .i64 4, .int .i64 t, .string key, .string val, .int .i64 p, .int .i64 u, .int .i64 n, .slice pa l.length ca])
    replace hu := hu.alloc (.cells #[.int .i64 4, .int .i64 t, .string key, .string val, .int .i64 p, .int .i64 u, .int .i64 n, .slice pa l.length ca] 24)
    have C5 := Lib.hid (show ∀ u : Later (w.alloc (.cells #[.int .i64 4, .int .i64 t, .string key, .string val, .int .i64 p, .int .i64 u, .int .i64 n, .slice pa l.length ca] 24)), Up w u.world from fun u => hu.trans u.up)
    obtain ⟨p0, p1, p2, p3, p4, p5, p6, p7, -⟩ := rp.c8
    have l0 := Later.cell_of p0; have l1 := Later.cell_of p1; have l2 := Later.cell_of p2; have l3 := Later.cell_of p3
    have l4 := Later.cell_of p4; have l5 := Later.cell_of p5; have l6 := Later.cell_of p6; have l7 := Later.cell_of p7
    clear p0 p1 p2 p3 p4 p5 p6 p7
    have hne := later_ne (w.alloc (.cells #[.int .i64 4, .int .i64 t, .string key, .string val, .int .i64 p, .int .i64 u, .int .i64 n, .slice pa l.length ca] 24))
    refine wp_region_later (by kernel_rfl) (by kernel_rfl) ?_
    repeat (go_big_quiet_step (first
      | (go_at_call 25; exact Calls.later_same (C1.out _))
      | (go_at_call 26; exact Calls.later (C2.out _))
      | (go_at_call 16; exact Calls.later (C3.out _ (C5.out _)))))
    refine wpQuiet_nil ?_
    intro w9 hw9
    obtain ⟨u9, rfl⟩ := hw9
    replace rp := rp.up u9.up
    replace hu := hu.trans u9.up
    clear l0 l1 l2 l3 l4 l5 l6 l7 hne C5
    generalize u9.world = w9 at *
    obtain ⟨p0, -⟩ := rp.c8
    go_wp2_with fail
    go_ret
    exact ⟨by rw [HF.out]; rfl, hu⟩
  · have C3 := Lib.hid c3; clear c3
    go_enter Try.func11, Try.ntmps11
    go_upto_region 1 with fail
    have rp := (RowAt.made w 24 [.int .i64 4, .int .i64 t, .string key, .string val, .int .i64 p, .int .i64 u, .int .i64 n, .slice pa l.length ca])
    replace hu := hu.alloc (.cells #[.int .i64 4, .int .i64 t, .string key, .string val, .int .i64 p, .int .i64 u, .int .i64 n, .slice pa l.length ca] 24)
    have C5 := Lib.hid (show ∀ u : Later (w.alloc (.cells #[.int .i64 4, .int .i64 t, .string key, .string val, .int .i64 p, .int .i64 u, .int .i64 n, .slice pa l.length ca] 24)), Up w u.world from fun u => hu.trans u.up)
    obtain ⟨p0, p1, p2, p3, p4, p5, p6, p7, -⟩ := rp.c8
    have l0 := Later.cell_of p0; have l1 := Later.cell_of p1; have l2 := Later.cell_of p2; have l3 := Later.cell_of p3
    have l4 := Later.cell_of p4; have l5 := Later.cell_of p5; have l6 := Later.cell_of p6; have l7 := Later.cell_of p7
    clear p0 p1 p2 p3 p4 p5 p6 p7
    have hne := later_ne (w.alloc (.cells #[.int .i64 4, .int .i64 t, .string key, .string val, .int .i64 p, .int .i64 u, .int .i64 n, .slice pa l.length ca] 24))
    refine wp_region_later (by kernel_rfl) (by kernel_rfl) ?_
    repeat (go_big_quiet_step (first
      | (go_at_call 25; exact Calls.later_same (C1.out _))
      | (go_at_call 26; exact Calls.later (C2.out _))
      | (go_at_call 16; exact Calls.later (C3.out _ (C5.out _)))))
    refine wpQuiet_nil ?_
    intro w9 hw9
    obtain ⟨u9, rfl⟩ := hw9
    replace rp := rp.up u9.up
    replace hu := hu.trans u9.up
    clear l0 l1 l2 l3 l4 l5 l6 l7 hne C5
    generalize u9.world = w9 at *
    obtain ⟨p0, -⟩ := rp.c8
    go_upto_region 3 with fail
    have rp2 := rp.drew
    replace hu := hu.drew
    have hlt := rp.lt
    go_cut [3] (fun v3 wx => ∃ h : Nat, v3 = .pointer (some ⟨h, 0, none⟩) ∧ RowAt wx h [.bool true, .bool false, .bool false, .bool false, .bool false] ∧ RowAt wx w.heap.size [.int .i64 4, .int .i64 t, .string key, .string val, .int .i64 p, .int .i64 u, .int .i64 n, .slice pa l.length ca] ∧ Up w wx)
    case first =>
      have ha := (RowAt.made w9.drew 50 [.bool false, .bool false, .bool false, .bool false, .bool false])
      simp at ha
      have n2 : ¬ w9.heap.size = w.heap.size := by omega
      have n3 : ¬ w.heap.size = w9.heap.size := by omega
      go_region_held3 (fun w' => w'.cell? ⟨w.heap.size, 0, none⟩ = some (.int .i64 4)) (go_keep)
        (first
          | ((with_reducible refine (C4.out _).mono ?_); rintro e w1 ⟨rfl, hw1⟩; replace rp2 := rp2.up hw1; obtain ⟨q0, -⟩ := rp2.c8; replace hu := hu.next hw1; clear hw1)
          | ((with_reducible refine (C4.out _).mono ?_); rintro e w1 ⟨rfl, hw1⟩; replace ha := ha.up hw1; obtain ⟨y0, y1, y2, y3, y4, x0, x1, x2, x3, x4⟩ := ha.c5; replace rp2 := (rp2.alloc _).up hw1; obtain ⟨q0, -⟩ := rp2.c8; replace hu := (hu.alloc _).next hw1; clear hw1))
      all_goals (go_wp2_with fail; go_meet)
      iterate 2
        · exact ⟨w1.heap.size, rfl, RowAt.made w1 50 [.bool true, .bool false, .bool false, .bool false, .bool false], rp2.alloc _, hu.alloc _⟩
      · refine ⟨w9.heap.size, rfl, ?_, ?_, ?_⟩
        · exact ((((ha.set 0 _ (by simp)).set 1 _ (by simp)).set 2 _ (by simp)).set 3 _ (by simp)).set 4 _ (by simp)
        · exact ((((rp2.other _ 0 _ n2).other _ 1 _ n2).other _ 2 _ n2).other _ 3 _ n2).other _ 4 _ n2
        · have := hu.out.size
          have := (Up.refl w).out.size
          repeat (refine Up.setCell ?_ _ _ _ (by omega))
          exact hu
    case rest =>
    clear rp rp2 hu hlt p0
    obtain ⟨h, rfl, rh, rp, hu⟩ := hcut
    obtain ⟨y0, y1, y2, y3, y4, -⟩ := rh.c5
    obtain ⟨p0, p1, p2, p3, p4, p5, p6, p7, -⟩ := rp.c8
    have C7 := Lib.hid rec_within
    have C8 := Lib.hid (rec_Key key)
    have C9 := Lib.hid (rec_Value val)
    go_wp2_with (first
      | ((with_reducible refine (C8.out _).mono ?_); rintro e wn ⟨rfl, rfl⟩)
      | ((with_reducible refine (C9.out _).mono ?_); rintro e wn ⟨rfl, rfl⟩)
      | ((with_reducible refine (C7.out _ _ _ _).mono ?_); rintro e wn ⟨rfl, rfl⟩)
      | ((with_reducible refine (C6.out _ ?_).mono ?_); (· exact hu); rintro e wn ⟨rfl, hwn⟩; replace hu := hu.next hwn; clear hwn))
    all_goals go_ret
    all_goals (refine ⟨?_, hu⟩)
    all_goals
      rw [HF.out]
      have hin : inB 4 1 7 = true := rfl
      try (have q1 := ‹(!inB t 1 1099511627776) = true›; simp only [Bool.not_eq_true'] at q1)
      try (have q1 := ‹(!inB t 1 1099511627776) = false›; simp only [Bool.not_eq_false'] at q1)
      try (have q2 := ‹(!keyB key) = true›; simp only [Bool.not_eq_true'] at q2)
      try (have q2 := ‹(!keyB key) = false›; simp only [Bool.not_eq_false'] at q2)
      simp [txnB, hkeyB, *]
set_option maxHeartbeats 2000000 in
theorem right5 (t : Int) (key val : ByteArray) (p u n : Int) (l : List PairD) (pa : Option Addr) (ca : Nat) (w : World) (hA : PairsAt w pa l) (la : l.length ≤ 1099511627776) :
    Calls Try.prog 11 #[.agg #[.int .i64 5, .int .i64 t, .string key, .string val, .int .i64 p, .int .i64 u, .int .i64 n, .slice pa l.length ca]] w fun e w' => e = .returned (.bool (RecD.rightR ⟨5, t, key, val, p, u, n, l⟩)) ∧ Below w.heap.size w w' := by
  have HF := Lib.hid (rightR_form ⟨5, t, key, val, p, u, n, l⟩)
  have c1 := fun w => rec_within 5 1 7 w
  rw [show inB 5 1 7 = true from rfl] at c1
  have C1 := Lib.hid c1; clear c1
  have c2 := fun w => rec_bare ⟨5, t, key, val, p, u, n, l⟩ (by simp) pa l.length ca w
  have c3 := fun w1 (h : Up w w1) => rec_Same_bare ⟨5, t, key, val, p, u, n, l⟩ pa ca w1 (hA.up h) la
  have C6 := Lib.hid (fun w1 (h : Up w w1) => rec_row l pa ca w1 (hA.up h) la)
  generalize recV (RecD.bare ⟨5, t, key, val, p, u, n, l⟩) (if pairsB 5 = true then .slice pa l.length ca else .slice none 0 0) = BV at *
  generalize RecD.same ⟨5, t, key, val, p, u, n, l⟩ (RecD.bare ⟨5, t, key, val, p, u, n, l⟩) = S at *
  generalize RecD.rightR ⟨5, t, key, val, p, u, n, l⟩ = R at *
  simp only [recV] at c2 c3
  have C2 := Lib.hid c2; clear c2
  have C4 := Lib.hid rec_kinds
  have hu := Up.refl w
  have hix : ∀ w, (Instr.index 51 (.agg kindsA) (.int .i64 5)).run Try.prog w = .ok (.agg #[.bool true, .bool false, .bool false, .bool false, .bool false]) w := fun _ => by kernel_rfl
  clear hA la
  cases S
  · have C3 := Lib.hid c3; clear c3
    go_enter Try.func11, Try.ntmps11
    go_upto_region 1 with fail
    have rp := (RowAt.made w 24 [.int .i64 5, .int .i64 t, .string key, .string val, .int .i64 p, .int .i64 u, .int .i64 n, .slice pa l.length ca])
    replace hu := hu.alloc (.cells #[.int .i64 5, .int .i64 t, .string key, .string val, .int .i64 p, .int .i64 u, .int .i64 n, .slice pa l.length ca] 24)
    have C5 := Lib.hid (show ∀ u : Later (w.alloc (.cells #[.int .i64 5, .int .i64 t, .string key, .string val, .int .i64 p, .int .i64 u, .int .i64 n, .slice pa l.length ca] 24)), Up w u.world from fun u => hu.trans u.up)
    obtain ⟨p0, p1, p2, p3, p4, p5, p6, p7, -⟩ := rp.c8
    have l0 := Later.cell_of p0; have l1 := Later.cell_of p1; have l2 := Later.cell_of p2; have l3 := Later.cell_of p3
    have l4 := Later.cell_of p4; have l5 := Later.cell_of p5; have l6 := Later.cell_of p6; have l7 := Later.cell_of p7
    clear p0 p1 p2 p3 p4 p5 p6 p7
    have hne := later_ne (w.alloc (.cells #[.int .i64 5, .int .i64 t, .string key, .string val, .int .i64 p, .int .i64 u, .int .i64 n, .slice pa l.length ca] 24))
    refine wp_region_later (by kernel_rfl) (by kernel_rfl) ?_
    repeat (go_big_quiet_step (first
      | (go_at_call 25; exact Calls.later_same (C1.out _))
      | (go_at_call 26; exact Calls.later (C2.out _))
      | (go_at_call 16; exact Calls.later (C3.out _ (C5.out _)))))
    refine wpQuiet_nil ?_
    intro w9 hw9
    obtain ⟨u9, rfl⟩ := hw9
    replace rp := rp.up u9.up
    replace hu := hu.trans u9.up
    clear l0 l1 l2 l3 l4 l5 l6 l7 hne C5
    generalize u9.world = w9 at *
    obtain ⟨p0, -⟩ := rp.c8
    go_wp2_with fail
    go_ret
    exact ⟨by rw [HF.out]; rfl, hu⟩
  · have C3 := Lib.hid c3; clear c3
    go_enter Try.func11, Try.ntmps11
    go_upto_region 1 with fail
    have rp := (RowAt.made w 24 [.int .i64 5, .int .i64 t, .string key, .string val, .int .i64 p, .int .i64 u, .int .i64 n, .slice pa l.length ca])
    replace hu := hu.alloc (.cells #[.int .i64 5, .int .i64 t, .string key, .string val, .int .i64 p, .int .i64 u, .int .i64 n, .slice pa l.length ca] 24)
    have C5 := Lib.hid (show ∀ u : Later (w.alloc (.cells #[.int .i64 5, .int .i64 t, .string key, .string val, .int .i64 p, .int .i64 u, .int .i64 n, .slice pa l.length ca] 24)), Up w u.world from fun u => hu.trans u.up)
    obtain ⟨p0, p1, p2, p3, p4, p5, p6, p7, -⟩ := rp.c8
    have l0 := Later.cell_of p0; have l1 := Later.cell_of p1; have l2 := Later.cell_of p2; have l3 := Later.cell_of p3
    have l4 := Later.cell_of p4; have l5 := Later.cell_of p5; have l6 := Later.cell_of p6; have l7 := Later.cell_of p7
    clear p0 p1 p2 p3 p4 p5 p6 p7
    have hne := later_ne (w.alloc (.cells #[.int .i64 5, .int .i64 t, .string key, .string val, .int .i64 p, .int .i64 u, .int .i64 n, .slice pa l.length ca] 24))
    refine wp_region_later (by kernel_rfl) (by kernel_rfl) ?_
    repeat (go_big_quiet_step (first
      | (go_at_call 25; exact Calls.later_same (C1.out _))
      | (go_at_call 26; exact Calls.later (C2.out _))
      | (go_at_call 16; exact Calls.later (C3.out _ (C5.out _)))))
    refine wpQuiet_nil ?_
    intro w9 hw9
    obtain ⟨u9, rfl⟩ := hw9
    replace rp := rp.up u9.up
    replace hu := hu.trans u9.up
    clear l0 l1 l2 l3 l4 l5 l6 l7 hne C5
    generalize u9.world = w9 at *
    obtain ⟨p0, -⟩ := rp.c8
    go_upto_region 3 with fail
    have rp2 := rp.drew
    replace hu := hu.drew
    have hlt := rp.lt
    go_cut [3] (fun v3 wx => ∃ h : Nat, v3 = .pointer (some ⟨h, 0, none⟩) ∧ RowAt wx h [.bool true, .bool false, .bool false, .bool false, .bool false] ∧ RowAt wx w.heap.size [.int .i64 5, .int .i64 t, .string key, .string val, .int .i64 p, .int .i64 u, .int .i64 n, .slice pa l.length ca] ∧ Up w wx)
    case first =>
      have ha := (RowAt.made w9.drew 50 [.bool false, .bool false, .bool false, .bool false, .bool false])
      simp at ha
      have n2 : ¬ w9.heap.size = w.heap.size := by omega
      have n3 : ¬ w.heap.size = w9.heap.size := by omega
      go_region_held3 (fun w' => w'.cell? ⟨w.heap.size, 0, none⟩ = some (.int .i64 5)) (go_keep)
        (first
          | ((with_reducible refine (C4.out _).mono ?_); rintro e w1 ⟨rfl, hw1⟩; replace rp2 := rp2.up hw1; obtain ⟨q0, -⟩ := rp2.c8; replace hu := hu.next hw1; clear hw1)
          | ((with_reducible refine (C4.out _).mono ?_); rintro e w1 ⟨rfl, hw1⟩; replace ha := ha.up hw1; obtain ⟨y0, y1, y2, y3, y4, x0, x1, x2, x3, x4⟩ := ha.c5; replace rp2 := (rp2.alloc _).up hw1; obtain ⟨q0, -⟩ := rp2.c8; replace hu := (hu.alloc _).next hw1; clear hw1))
      all_goals (go_wp2_with fail; go_meet)
      iterate 2
        · exact ⟨w1.heap.size, rfl, RowAt.made w1 50 [.bool true, .bool false, .bool false, .bool false, .bool false], rp2.alloc _, hu.alloc _⟩
      · refine ⟨w9.heap.size, rfl, ?_, ?_, ?_⟩
        · exact ((((ha.set 0 _ (by simp)).set 1 _ (by simp)).set 2 _ (by simp)).set 3 _ (by simp)).set 4 _ (by simp)
        · exact ((((rp2.other _ 0 _ n2).other _ 1 _ n2).other _ 2 _ n2).other _ 3 _ n2).other _ 4 _ n2
        · have := hu.out.size
          have := (Up.refl w).out.size
          repeat (refine Up.setCell ?_ _ _ _ (by omega))
          exact hu
    case rest =>
    clear rp rp2 hu hlt p0
    obtain ⟨h, rfl, rh, rp, hu⟩ := hcut
    obtain ⟨y0, y1, y2, y3, y4, -⟩ := rh.c5
    obtain ⟨p0, p1, p2, p3, p4, p5, p6, p7, -⟩ := rp.c8
    have C7 := Lib.hid rec_within
    have C8 := Lib.hid (rec_Key key)
    have C9 := Lib.hid (rec_Value val)
    go_wp2_with (first
      | ((with_reducible refine (C8.out _).mono ?_); rintro e wn ⟨rfl, rfl⟩)
      | ((with_reducible refine (C9.out _).mono ?_); rintro e wn ⟨rfl, rfl⟩)
      | ((with_reducible refine (C7.out _ _ _ _).mono ?_); rintro e wn ⟨rfl, rfl⟩)
      | ((with_reducible refine (C6.out _ ?_).mono ?_); (· exact hu); rintro e wn ⟨rfl, hwn⟩; replace hu := hu.next hwn; clear hwn))
    all_goals go_ret
    all_goals (refine ⟨?_, hu⟩)
    all_goals
      rw [HF.out]
      have hin : inB 5 1 7 = true := rfl
      try (have q1 := ‹(!inB t 1 1099511627776) = true›; simp only [Bool.not_eq_true'] at q1)
      try (have q1 := ‹(!inB t 1 1099511627776) = false›; simp only [Bool.not_eq_false'] at q1)
      try (have q2 := ‹(!keyB key) = true›; simp only [Bool.not_eq_true'] at q2)
      try (have q2 := ‹(!keyB key) = false›; simp only [Bool.not_eq_false'] at q2)
      simp [txnB, hkeyB, *]
set_option maxHeartbeats 2000000 in
theorem right6 (t : Int) (key val : ByteArray) (p u n : Int) (l : List PairD) (pa : Option Addr) (ca : Nat) (w : World) (hA : PairsAt w pa l) (la : l.length ≤ 1099511627776) :
    Calls Try.prog 11 #[.agg #[.int .i64 6, .int .i64 t, .string key, .string val, .int .i64 p, .int .i64 u, .int .i64 n, .slice pa l.length ca]] w fun e w' => e = .returned (.bool (RecD.rightR ⟨6, t, key, val, p, u, n, l⟩)) ∧ Below w.heap.size w w' := by
  have HF := Lib.hid (rightR_form ⟨6, t, key, val, p, u, n, l⟩)
  have c1 := fun w => rec_within 6 1 7 w
  rw [show inB 6 1 7 = true from rfl] at c1
  have C1 := Lib.hid c1; clear c1
  have c2 := fun w => rec_bare ⟨6, t, key, val, p, u, n, l⟩ (by simp) pa l.length ca w
  have c3 := fun w1 (h : Up w w1) => rec_Same_bare ⟨6, t, key, val, p, u, n, l⟩ pa ca w1 (hA.up h) la
  have C6 := Lib.hid (fun w1 (h : Up w w1) => rec_row l pa ca w1 (hA.up h) la)
  generalize recV (RecD.bare ⟨6, t, key, val, p, u, n, l⟩) (if pairsB 6 = true then .slice pa l.length ca else .slice none 0 0) = BV at *
  generalize RecD.same ⟨6, t, key, val, p, u, n, l⟩ (RecD.bare ⟨6, t, key, val, p, u, n, l⟩) = S at *
  generalize RecD.rightR ⟨6, t, key, val, p, u, n, l⟩ = R at *
  simp only [recV] at c2 c3
  have C2 := Lib.hid c2; clear c2
  have C4 := Lib.hid rec_kinds
  have hu := Up.refl w
  have hix : ∀ w, (Instr.index 51 (.agg kindsA) (.int .i64 6)).run Try.prog w = .ok (.agg #[.bool false, .bool false, .bool false, .bool true, .bool false]) w := fun _ => by kernel_rfl
  clear hA la
  cases S
  · have C3 := Lib.hid c3; clear c3
    go_enter Try.func11, Try.ntmps11
    go_upto_region 1 with fail
    have rp := (RowAt.made w 24 [.int .i64 6, .int .i64 t, .string key, .string val, .int .i64 p, .int .i64 u, .int .i64 n, .slice pa l.length ca])
    replace hu := hu.alloc (.cells #[.int .i64 6, .int .i64 t, .string key, .string val, .int .i64 p, .int .i64 u, .int .i64 n, .slice pa l.length ca] 24)
    have C5 := Lib.hid (show ∀ u : Later (w.alloc (.cells #[.int .i64 6, .int .i64 t, .string key, .string val, .int .i64 p, .int .i64 u, .int .i64 n, .slice pa l.length ca] 24)), Up w u.world from fun u => hu.trans u.up)
    obtain ⟨p0, p1, p2, p3, p4, p5, p6, p7, -⟩ := rp.c8
    have l0 := Later.cell_of p0; have l1 := Later.cell_of p1; have l2 := Later.cell_of p2; have l3 := Later.cell_of p3
    have l4 := Later.cell_of p4; have l5 := Later.cell_of p5; have l6 := Later.cell_of p6; have l7 := Later.cell_of p7
    clear p0 p1 p2 p3 p4 p5 p6 p7
    have hne := later_ne (w.alloc (.cells #[.int .i64 6, .int .i64 t, .string key, .string val, .int .i64 p, .int .i64 u, .int .i64 n, .slice pa l.length ca] 24))
    refine wp_region_later (by kernel_rfl) (by kernel_rfl) ?_
    repeat (go_big_quiet_step (first
      | (go_at_call 25; exact Calls.later_same (C1.out _))
      | (go_at_call 26; exact Calls.later (C2.out _))
      | (go_at_call 16; exact Calls.later (C3.out _ (C5.out _)))))
    refine wpQuiet_nil ?_
    intro w9 hw9
    obtain ⟨u9, rfl⟩ := hw9
    replace rp := rp.up u9.up
    replace hu := hu.trans u9.up
    clear l0 l1 l2 l3 l4 l5 l6 l7 hne C5
    generalize u9.world = w9 at *
    obtain ⟨p0, -⟩ := rp.c8
    go_wp2_with fail
    go_ret
    exact ⟨by rw [HF.out]; rfl, hu⟩
  · have C3 := Lib.hid c3; clear c3
    go_enter Try.func11, Try.ntmps11
    go_upto_region 1 with fail
    have rp := (RowAt.made w 24 [.int .i64 6, .int .i64 t, .string key, .string val, .int .i64 p, .int .i64 u, .int .i64 n, .slice pa l.length ca])
    replace hu := hu.alloc (.cells #[.int .i64 6, .int .i64 t, .string key, .string val, .int .i64 p, .int .i64 u, .int .i64 n, .slice pa l.length ca] 24)
    have C5 := Lib.hid (show ∀ u : Later (w.alloc (.cells #[.int .i64 6, .int .i64 t, .string key, .string val, .int .i64 p, .int .i64 u, .int .i64 n, .slice pa l.length ca] 24)), Up w u.world from fun u => hu.trans u.up)
    obtain ⟨p0, p1, p2, p3, p4, p5, p6, p7, -⟩ := rp.c8
    have l0 := Later.cell_of p0; have l1 := Later.cell_of p1; have l2 := Later.cell_of p2; have l3 := Later.cell_of p3
    have l4 := Later.cell_of p4; have l5 := Later.cell_of p5; have l6 := Later.cell_of p6; have l7 := Later.cell_of p7
    clear p0 p1 p2 p3 p4 p5 p6 p7
    have hne := later_ne (w.alloc (.cells #[.int .i64 6, .int .i64 t, .string key, .string val, .int .i64 p, .int .i64 u, .int .i64 n, .slice pa l.length ca] 24))
    refine wp_region_later (by kernel_rfl) (by kernel_rfl) ?_
    repeat (go_big_quiet_step (first
      | (go_at_call 25; exact Calls.later_same (C1.out _))
      | (go_at_call 26; exact Calls.later (C2.out _))
      | (go_at_call 16; exact Calls.later (C3.out _ (C5.out _)))))
    refine wpQuiet_nil ?_
    intro w9 hw9
    obtain ⟨u9, rfl⟩ := hw9
    replace rp := rp.up u9.up
    replace hu := hu.trans u9.up
    clear l0 l1 l2 l3 l4 l5 l6 l7 hne C5
    generalize u9.world = w9 at *
    obtain ⟨p0, -⟩ := rp.c8
    go_upto_region 3 with fail
    have rp2 := rp.drew
    replace hu := hu.drew
    have hlt := rp.lt
    go_cut [3] (fun v3 wx => ∃ h : Nat, v3 = .pointer (some ⟨h, 0, none⟩) ∧ RowAt wx h [.bool false, .bool false, .bool false, .bool true, .bool false] ∧ RowAt wx w.heap.size [.int .i64 6, .int .i64 t, .string key, .string val, .int .i64 p, .int .i64 u, .int .i64 n, .slice pa l.length ca] ∧ Up w wx)
    case first =>
      have ha := (RowAt.made w9.drew 50 [.bool false, .bool false, .bool false, .bool false, .bool false])
      simp at ha
      have n2 : ¬ w9.heap.size = w.heap.size := by omega
      have n3 : ¬ w.heap.size = w9.heap.size := by omega
      go_region_held3 (fun w' => w'.cell? ⟨w.heap.size, 0, none⟩ = some (.int .i64 6)) (go_keep)
        (first
          | ((with_reducible refine (C4.out _).mono ?_); rintro e w1 ⟨rfl, hw1⟩; replace rp2 := rp2.up hw1; obtain ⟨q0, -⟩ := rp2.c8; replace hu := hu.next hw1; clear hw1)
          | ((with_reducible refine (C4.out _).mono ?_); rintro e w1 ⟨rfl, hw1⟩; replace ha := ha.up hw1; obtain ⟨y0, y1, y2, y3, y4, x0, x1, x2, x3, x4⟩ := ha.c5; replace rp2 := (rp2.alloc _).up hw1; obtain ⟨q0, -⟩ := rp2.c8; replace hu := (hu.alloc _).next hw1; clear hw1))
      all_goals (go_wp2_with fail; go_meet)
      iterate 2
        · exact ⟨w1.heap.size, rfl, RowAt.made w1 50 [.bool false, .bool false, .bool false, .bool true, .bool false], rp2.alloc _, hu.alloc _⟩
      · refine ⟨w9.heap.size, rfl, ?_, ?_, ?_⟩
        · exact ((((ha.set 0 _ (by simp)).set 1 _ (by simp)).set 2 _ (by simp)).set 3 _ (by simp)).set 4 _ (by simp)
        · exact ((((rp2.other _ 0 _ n2).other _ 1 _ n2).other _ 2 _ n2).other _ 3 _ n2).other _ 4 _ n2
        · have := hu.out.size
          have := (Up.refl w).out.size
          repeat (refine Up.setCell ?_ _ _ _ (by omega))
          exact hu
    case rest =>
    clear rp rp2 hu hlt p0
    obtain ⟨h, rfl, rh, rp, hu⟩ := hcut
    obtain ⟨y0, y1, y2, y3, y4, -⟩ := rh.c5
    obtain ⟨p0, p1, p2, p3, p4, p5, p6, p7, -⟩ := rp.c8
    have C7 := Lib.hid rec_within
    have C8 := Lib.hid (rec_Key key)
    have C9 := Lib.hid (rec_Value val)
    go_wp2_with (first
      | ((with_reducible refine (C8.out _).mono ?_); rintro e wn ⟨rfl, rfl⟩)
      | ((with_reducible refine (C9.out _).mono ?_); rintro e wn ⟨rfl, rfl⟩)
      | ((with_reducible refine (C7.out _ _ _ _).mono ?_); rintro e wn ⟨rfl, rfl⟩)
      | ((with_reducible refine (C6.out _ ?_).mono ?_); (· exact hu); rintro e wn ⟨rfl, hwn⟩; replace hu := hu.next hwn; clear hwn))
    all_goals go_ret
    all_goals (refine ⟨?_, hu⟩)
    all_goals
      rw [HF.out]
      have hin : inB 6 1 7 = true := rfl
      try (have q1 := ‹(!inB t 1 1099511627776) = true›; simp only [Bool.not_eq_true'] at q1)
      try (have q1 := ‹(!inB t 1 1099511627776) = false›; simp only [Bool.not_eq_false'] at q1)
      try (have q2 := ‹(!keyB key) = true›; simp only [Bool.not_eq_true'] at q2)
      try (have q2 := ‹(!keyB key) = false›; simp only [Bool.not_eq_false'] at q2)
      simp [txnB, hkeyB, *]
set_option maxHeartbeats 2000000 in
theorem right7 (t : Int) (key val : ByteArray) (p u n : Int) (l : List PairD) (pa : Option Addr) (ca : Nat) (w : World) (hA : PairsAt w pa l) (la : l.length ≤ 1099511627776) :
    Calls Try.prog 11 #[.agg #[.int .i64 7, .int .i64 t, .string key, .string val, .int .i64 p, .int .i64 u, .int .i64 n, .slice pa l.length ca]] w fun e w' => e = .returned (.bool (RecD.rightR ⟨7, t, key, val, p, u, n, l⟩)) ∧ Below w.heap.size w w' := by
  have HF := Lib.hid (rightR_form ⟨7, t, key, val, p, u, n, l⟩)
  have c1 := fun w => rec_within 7 1 7 w
  rw [show inB 7 1 7 = true from rfl] at c1
  have C1 := Lib.hid c1; clear c1
  have c2 := fun w => rec_bare ⟨7, t, key, val, p, u, n, l⟩ (by simp) pa l.length ca w
  have c3 := fun w1 (h : Up w w1) => rec_Same_bare ⟨7, t, key, val, p, u, n, l⟩ pa ca w1 (hA.up h) la
  have C6 := Lib.hid (fun w1 (h : Up w w1) => rec_row l pa ca w1 (hA.up h) la)
  generalize recV (RecD.bare ⟨7, t, key, val, p, u, n, l⟩) (if pairsB 7 = true then .slice pa l.length ca else .slice none 0 0) = BV at *
  generalize RecD.same ⟨7, t, key, val, p, u, n, l⟩ (RecD.bare ⟨7, t, key, val, p, u, n, l⟩) = S at *
  generalize RecD.rightR ⟨7, t, key, val, p, u, n, l⟩ = R at *
  simp only [recV] at c2 c3
  have C2 := Lib.hid c2; clear c2
  have C4 := Lib.hid rec_kinds
  have hu := Up.refl w
  have hix : ∀ w, (Instr.index 51 (.agg kindsA) (.int .i64 7)).run Try.prog w = .ok (.agg #[.bool false, .bool false, .bool false, .bool true, .bool true]) w := fun _ => by kernel_rfl
  clear hA la
  cases S
  · have C3 := Lib.hid c3; clear c3
    go_enter Try.func11, Try.ntmps11
    go_upto_region 1 with fail
    have rp := (RowAt.made w 24 [.int .i64 7, .int .i64 t, .string key, .string val, .int .i64 p, .int .i64 u, .int .i64 n, .slice pa l.length ca])
    replace hu := hu.alloc (.cells #[.int .i64 7, .int .i64 t, .string key, .string val, .int .i64 p, .int .i64 u, .int .i64 n, .slice pa l.length ca] 24)
    have C5 := Lib.hid (show ∀ u : Later (w.alloc (.cells #[.int .i64 7, .int .i64 t, .string key, .string val, .int .i64 p, .int .i64 u, .int .i64 n, .slice pa l.length ca] 24)), Up w u.world from fun u => hu.trans u.up)
    obtain ⟨p0, p1, p2, p3, p4, p5, p6, p7, -⟩ := rp.c8
    have l0 := Later.cell_of p0; have l1 := Later.cell_of p1; have l2 := Later.cell_of p2; have l3 := Later.cell_of p3
    have l4 := Later.cell_of p4; have l5 := Later.cell_of p5; have l6 := Later.cell_of p6; have l7 := Later.cell_of p7
    clear p0 p1 p2 p3 p4 p5 p6 p7
    have hne := later_ne (w.alloc (.cells #[.int .i64 7, .int .i64 t, .string key, .string val, .int .i64 p, .int .i64 u, .int .i64 n, .slice pa l.length ca] 24))
    refine wp_region_later (by kernel_rfl) (by kernel_rfl) ?_
    repeat (go_big_quiet_step (first
      | (go_at_call 25; exact Calls.later_same (C1.out _))
      | (go_at_call 26; exact Calls.later (C2.out _))
      | (go_at_call 16; exact Calls.later (C3.out _ (C5.out _)))))
    refine wpQuiet_nil ?_
    intro w9 hw9
    obtain ⟨u9, rfl⟩ := hw9
    replace rp := rp.up u9.up
    replace hu := hu.trans u9.up
    clear l0 l1 l2 l3 l4 l5 l6 l7 hne C5
    generalize u9.world = w9 at *
    obtain ⟨p0, -⟩ := rp.c8
    go_wp2_with fail
    go_ret
    exact ⟨by rw [HF.out]; rfl, hu⟩
  · have C3 := Lib.hid c3; clear c3
    go_enter Try.func11, Try.ntmps11
    go_upto_region 1 with fail
    have rp := (RowAt.made w 24 [.int .i64 7, .int .i64 t, .string key, .string val, .int .i64 p, .int .i64 u, .int .i64 n, .slice pa l.length ca])
    replace hu := hu.alloc (.cells #[.int .i64 7, .int .i64 t, .string key, .string val, .int .i64 p, .int .i64 u, .int .i64 n, .slice pa l.length ca] 24)
    have C5 := Lib.hid (show ∀ u : Later (w.alloc (.cells #[.int .i64 7, .int .i64 t, .string key, .string val, .int .i64 p, .int .i64 u, .int .i64 n, .slice pa l.length ca] 24)), Up w u.world from fun u => hu.trans u.up)
    obtain ⟨p0, p1, p2, p3, p4, p5, p6, p7, -⟩ := rp.c8
    have l0 := Later.cell_of p0; have l1 := Later.cell_of p1; have l2 := Later.cell_of p2; have l3 := Later.cell_of p3
    have l4 := Later.cell_of p4; have l5 := Later.cell_of p5; have l6 := Later.cell_of p6; have l7 := Later.cell_of p7
    clear p0 p1 p2 p3 p4 p5 p6 p7
    have hne := later_ne (w.alloc (.cells #[.int .i64 7, .int .i64 t, .string key, .string val, .int .i64 p, .int .i64 u, .int .i64 n, .slice pa l.length ca] 24))
    refine wp_region_later (by kernel_rfl) (by kernel_rfl) ?_
    repeat (go_big_quiet_step (first
      | (go_at_call 25; exact Calls.later_same (C1.out _))
      | (go_at_call 26; exact Calls.later (C2.out _))
      | (go_at_call 16; exact Calls.later (C3.out _ (C5.out _)))))
    refine wpQuiet_nil ?_
    intro w9 hw9
    obtain ⟨u9, rfl⟩ := hw9
    replace rp := rp.up u9.up
    replace hu := hu.trans u9.up
    clear l0 l1 l2 l3 l4 l5 l6 l7 hne C5
    generalize u9.world = w9 at *
    obtain ⟨p0, -⟩ := rp.c8
    go_upto_region 3 with fail
    have rp2 := rp.drew
    replace hu := hu.drew
    have hlt := rp.lt
    go_cut [3] (fun v3 wx => ∃ h : Nat, v3 = .pointer (some ⟨h, 0, none⟩) ∧ RowAt wx h [.bool false, .bool false, .bool false, .bool true, .bool true] ∧ RowAt wx w.heap.size [.int .i64 7, .int .i64 t, .string key, .string val, .int .i64 p, .int .i64 u, .int .i64 n, .slice pa l.length ca] ∧ Up w wx)
    case first =>
      have ha := (RowAt.made w9.drew 50 [.bool false, .bool false, .bool false, .bool false, .bool false])
      simp at ha
      have n2 : ¬ w9.heap.size = w.heap.size := by omega
      have n3 : ¬ w.heap.size = w9.heap.size := by omega
      go_region_held3 (fun w' => w'.cell? ⟨w.heap.size, 0, none⟩ = some (.int .i64 7)) (go_keep)
        (first
          | ((with_reducible refine (C4.out _).mono ?_); rintro e w1 ⟨rfl, hw1⟩; replace rp2 := rp2.up hw1; obtain ⟨q0, -⟩ := rp2.c8; replace hu := hu.next hw1; clear hw1)
          | ((with_reducible refine (C4.out _).mono ?_); rintro e w1 ⟨rfl, hw1⟩; replace ha := ha.up hw1; obtain ⟨y0, y1, y2, y3, y4, x0, x1, x2, x3, x4⟩ := ha.c5; replace rp2 := (rp2.alloc _).up hw1; obtain ⟨q0, -⟩ := rp2.c8; replace hu := (hu.alloc _).next hw1; clear hw1))
      all_goals (go_wp2_with fail; go_meet)
      iterate 2
        · exact ⟨w1.heap.size, rfl, RowAt.made w1 50 [.bool false, .bool false, .bool false, .bool true, .bool true], rp2.alloc _, hu.alloc _⟩
      · refine ⟨w9.heap.size, rfl, ?_, ?_, ?_⟩
        · exact ((((ha.set 0 _ (by simp)).set 1 _ (by simp)).set 2 _ (by simp)).set 3 _ (by simp)).set 4 _ (by simp)
        · exact ((((rp2.other _ 0 _ n2).other _ 1 _ n2).other _ 2 _ n2).other _ 3 _ n2).other _ 4 _ n2
        · have := hu.out.size
          have := (Up.refl w).out.size
          repeat (refine Up.setCell ?_ _ _ _ (by omega))
          exact hu
    case rest =>
    clear rp rp2 hu hlt p0
    obtain ⟨h, rfl, rh, rp, hu⟩ := hcut
    obtain ⟨y0, y1, y2, y3, y4, -⟩ := rh.c5
    obtain ⟨p0, p1, p2, p3, p4, p5, p6, p7, -⟩ := rp.c8
    have C7 := Lib.hid rec_within
    have C8 := Lib.hid (rec_Key key)
    have C9 := Lib.hid (rec_Value val)
    go_wp2_with (first
      | ((with_reducible refine (C8.out _).mono ?_); rintro e wn ⟨rfl, rfl⟩)
      | ((with_reducible refine (C9.out _).mono ?_); rintro e wn ⟨rfl, rfl⟩)
      | ((with_reducible refine (C7.out _ _ _ _).mono ?_); rintro e wn ⟨rfl, rfl⟩)
      | ((with_reducible refine (C6.out _ ?_).mono ?_); (· exact hu); rintro e wn ⟨rfl, hwn⟩; replace hu := hu.next hwn; clear hwn))
    all_goals go_ret
    all_goals (refine ⟨?_, hu⟩)
    all_goals
      rw [HF.out]
      have hin : inB 7 1 7 = true := rfl
      try (have q1 := ‹(!inB t 1 1099511627776) = true›; simp only [Bool.not_eq_true'] at q1)
      try (have q1 := ‹(!inB t 1 1099511627776) = false›; simp only [Bool.not_eq_false'] at q1)
      try (have q2 := ‹(!keyB key) = true›; simp only [Bool.not_eq_true'] at q2)
      try (have q2 := ‹(!keyB key) = false›; simp only [Bool.not_eq_false'] at q2)
      simp [txnB, hkeyB, *]

set_option maxHeartbeats 1000000 in
theorem right_out (k t : Int) (key val : ByteArray) (p u n : Int) (l : List PairD) (pa : Option Addr) (ca : Nat) (w : World) (hk : inB k 1 7 = false) :
    Calls Try.prog 11 #[.agg #[.int .i64 k, .int .i64 t, .string key, .string val, .int .i64 p, .int .i64 u, .int .i64 n, .slice pa l.length ca]] w fun e w' => e = .returned (.bool (RecD.rightR ⟨k, t, key, val, p, u, n, l⟩)) ∧ Below w.heap.size w w' := by
  have HF := Lib.hid (show RecD.rightR ⟨k, t, key, val, p, u, n, l⟩ = false by simp only [RecD.rightR, hk]; rfl)
  have c1 := fun w => rec_within k 1 7 w
  rw [hk] at c1
  have C1 := Lib.hid c1; clear c1 hk
  generalize RecD.rightR ⟨k, t, key, val, p, u, n, l⟩ = R at *
  have hu := Up.refl w
  go_enter Try.func11, Try.ntmps11
  go_upto_region 1 with fail
  have rp := (RowAt.made w 24 [.int .i64 k, .int .i64 t, .string key, .string val, .int .i64 p, .int .i64 u, .int .i64 n, .slice pa l.length ca])
  replace hu := hu.alloc (.cells #[.int .i64 k, .int .i64 t, .string key, .string val, .int .i64 p, .int .i64 u, .int .i64 n, .slice pa l.length ca] 24)
  obtain ⟨p0, -⟩ := rp.c8
  have l0 := Later.cell_of p0
  clear p0
  have hne := later_ne (w.alloc (.cells #[.int .i64 k, .int .i64 t, .string key, .string val, .int .i64 p, .int .i64 u, .int .i64 n, .slice pa l.length ca] 24))
  refine wp_region_later (by kernel_rfl) (by kernel_rfl) ?_
  repeat (go_big_quiet_step (first
    | (go_at_call 25; exact Calls.later_same (C1.out _))))
  refine wpQuiet_nil ?_
  intro w9 hw9
  obtain ⟨u9, rfl⟩ := hw9
  replace hu := hu.trans u9.up
  clear l0 hne
  generalize u9.world = w9 at *
  go_wp2_with fail
  go_ret
  exact ⟨by rw [HF.out]; rfl, hu⟩

theorem rec_Right (r : RecD) (pa : Option Addr) (ca : Nat) (w : World) (hA : PairsAt w pa r.l) (la : r.l.length ≤ 1099511627776) :
    Calls Try.prog 11 #[recV r (.slice pa r.l.length ca)] w fun e w' => e = .returned (.bool r.rightR) ∧ Below w.heap.size w w' := by
  obtain ⟨k, t, key, val, p, u, n, l⟩ := r
  cases hk : inB k 1 7
  · exact right_out k t key val p u n l pa ca w hk
  · have hc : k = 1 ∨ k = 2 ∨ k = 3 ∨ k = 4 ∨ k = 5 ∨ k = 6 ∨ k = 7 := by simp [inB] at hk; omega
    rcases hc with rfl | rfl | rfl | rfl | rfl | rfl | rfl
    · exact right1 t key val p u n l pa ca w hA la
    · exact right2 t key val p u n l pa ca w hA la
    · exact right3 t key val p u n l pa ca w hA la
    · exact right4 t key val p u n l pa ca w hA la
    · exact right5 t key val p u n l pa ca w hA la
    · exact right6 t key val p u n l pa ca w hA la
    · exact right7 t key val p u n l pa ca w hA la
end Go.Proofs.Ytibeeomeafakgaa
