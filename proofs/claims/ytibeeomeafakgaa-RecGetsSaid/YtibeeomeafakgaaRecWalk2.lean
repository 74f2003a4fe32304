import Derived.Test.YtibeeomeafakgaaRecWalk1
namespace Go.Proofs.Ytibeeomeafakgaa
open Go.RowKit Bw
set_option linter.unusedVariables false

def recV (r : RecD) (pv : Value) : Value := .agg #[.int .i64 r.k, .int .i64 r.t, .string r.key, .string r.val, .int .i64 r.p, .int .i64 r.u, .int .i64 r.n, pv]

set_option maxHeartbeats 400000
theorem bare1 (t : Int) (key val : ByteArray) (p u n : Int) (pp : Option Addr) (pn pc : Nat) (w : World) :
    Calls Try.prog 26 #[.agg #[.int .i64 1, .int .i64 t, .string key, .string val, .int .i64 p, .int .i64 u, .int .i64 n, .slice pp pn pc]] w fun e w' => e = .returned (.agg #[.int .i64 1, .int .i64 t, .string ⟨#[]⟩, .string ⟨#[]⟩, .int .i64 0, .int .i64 0, .int .i64 0, .slice none 0 0]) ∧ Below w.heap.size w w' := by
  have C1 := Lib.hid rec_kinds
  have hu := Up.refl w
  have hix : ∀ w, (Instr.index 51 (.agg kindsA) (.int .i64 1)).run Try.prog w = .ok (.agg #[.bool true, .bool false, .bool false, .bool false, .bool false]) w := fun _ => by kernel_rfl
  go_enter Try.func26, Try.ntmps26
  go_upto_region 1 with fail
  replace hu := ((hu.alloc (.cells #[.int .i64 1, .int .i64 t, .string key, .string val, .int .i64 p, .int .i64 u, .int .i64 n, .slice pp pn pc] 24)).alloc (.cells #[.int .i64 0, .int .i64 0, .string ⟨#[]⟩, .string ⟨#[]⟩, .int .i64 0, .int .i64 0, .int .i64 0, .slice none 0 0] 24)).drew
  have rp := ((RowAt.made w 24 [.int .i64 1, .int .i64 t, .string key, .string val, .int .i64 p, .int .i64 u, .int .i64 n, .slice pp pn pc]).alloc (.cells #[.int .i64 0, .int .i64 0, .string ⟨#[]⟩, .string ⟨#[]⟩, .int .i64 0, .int .i64 0, .int .i64 0, .slice none 0 0] 24)).drew
  have rr := (RowAt.made (w.alloc (.cells #[.int .i64 1, .int .i64 t, .string key, .string val, .int .i64 p, .int .i64 u, .int .i64 n, .slice pp pn pc] 24)) 24 [.int .i64 0, .int .i64 0, .string ⟨#[]⟩, .string ⟨#[]⟩, .int .i64 0, .int .i64 0, .int .i64 0, .slice none 0 0]).drew
  simp at rp rr
  obtain ⟨p0, -⟩ := rp.c8
  have n1 : ¬ w.heap.size = w.heap.size + 1 + 1 := by omega
  have n2 : ¬ w.heap.size + 1 + 1 = w.heap.size := by omega
  have n3 : ¬ w.heap.size + 1 = w.heap.size + 1 + 1 := by omega
  have n4 : ¬ w.heap.size + 1 + 1 = w.heap.size + 1 := by omega
  go_cut [3] (fun v3 wx => ∃ h : Nat, v3 = .pointer (some ⟨h, 0, none⟩) ∧ w.heap.size + 1 < h ∧ h < wx.heap.size ∧ RowAt wx h [.bool true, .bool false, .bool false, .bool false, .bool false] ∧ RowAt wx w.heap.size [.int .i64 1, .int .i64 t, .string key, .string val, .int .i64 p, .int .i64 u, .int .i64 n, .slice pp pn pc] ∧
      RowAt wx (w.heap.size + 1) [.int .i64 0, .int .i64 0, .string ⟨#[]⟩, .string ⟨#[]⟩, .int .i64 0, .int .i64 0, .int .i64 0, .slice none 0 0] ∧ Up w wx)
  case first =>
    go_region_held3 (fun w' => w'.cell? ⟨w.heap.size, 0, none⟩ = some (.int .i64 1)) (go_keep)
      (first
        | ((with_reducible refine (C1.out _).mono ?_); rintro e w1 ⟨rfl, hw1⟩; replace rp := rp.up hw1; replace rr := rr.up hw1; obtain ⟨q0, -⟩ := rp.c8; have hrl := rr.lt; replace hu := hu.next hw1; clear hw1)
        | ((with_reducible refine (C1.out _).mono ?_); rintro e w1 ⟨rfl, hw1⟩; have ha := RowAt.made (((w.alloc (.cells #[.int .i64 1, .int .i64 t, .string key, .string val, .int .i64 p, .int .i64 u, .int .i64 n, .slice pp pn pc] 24)).alloc (.cells #[.int .i64 0, .int .i64 0, .string ⟨#[]⟩, .string ⟨#[]⟩, .int .i64 0, .int .i64 0, .int .i64 0, .slice none 0 0] 24)).drew) 50 [.bool false, .bool false, .bool false, .bool false, .bool false]; simp at ha; replace ha := ha.up hw1; obtain ⟨y0, y1, y2, y3, y4, x0, x1, x2, x3, x4⟩ := ha.c5; replace rp := (rp.alloc _).up hw1; replace rr := (rr.alloc _).up hw1; obtain ⟨q0, -⟩ := rp.c8; have hrl := rr.lt; replace hu := (hu.alloc _).next hw1; clear hw1))
    all_goals (go_wp2_with fail; go_meet)
    iterate 2
      · refine ⟨w1.heap.size, rfl, hrl, by simp, ?_, rp.alloc _, rr.alloc _, hu.alloc _⟩
        exact RowAt.made w1 50 [.bool true, .bool false, .bool false, .bool false, .bool false]
    · have hal := ha.lt
      refine ⟨w.heap.size + 1 + 1, rfl, by omega, ?_, ?_, ?_, ?_, ?_⟩
      · simpa [World.setCell] using hal
      · exact ((((ha.set 0 _ (by simp)).set 1 _ (by simp)).set 2 _ (by simp)).set 3 _ (by simp)).set 4 _ (by simp)
      · exact ((((rp.other _ 0 _ n2).other _ 1 _ n2).other _ 2 _ n2).other _ 3 _ n2).other _ 4 _ n2
      · exact ((((rr.other _ 0 _ n4).other _ 1 _ n4).other _ 2 _ n4).other _ 3 _ n4).other _ 4 _ n4
      · repeat (refine Up.setCell ?_ _ _ _ (by omega))
        exact hu
  case rest =>
    obtain ⟨h, rfl, h1, h2, rh, rp, rr, hu⟩ := hcut
    obtain ⟨y0, y1, y2, y3, y4, -⟩ := rh.c5
    obtain ⟨p0, p1, p2, p3, p4, p5, p6, p7, f0, f1, f2, f3, f4, f5, f6, f7⟩ := rp.c8
    obtain ⟨r0, r1, r2, r3, r4, r5, r6, r7, g0, g1, g2, g3, g4, g5, g6, g7⟩ := rr.c8
    have m1 : ¬ w.heap.size = h := by omega
    have m2 : ¬ h = w.heap.size := by omega
    have m3 : ¬ w.heap.size + 1 = h := by omega
    have m4 : ¬ h = w.heap.size + 1 := by omega
    clear rh rp rr hix
    go_wp2_with fail
    refine bodyPost_ret (v := .agg #[.int .i64 1, .int .i64 t, .string ⟨#[]⟩, .string ⟨#[]⟩, .int .i64 0, .int .i64 0, .int .i64 0, .slice none 0 0]) (by simp [results, Try.results26, go_sem, *]) rfl ⟨rfl, ?_⟩
    repeat (first | refine Up.setCell ?_ _ _ _ (by first | omega | (simp; done) | (simp; omega)) | refine Up.alloc ?_ _)
    exact hu
theorem bare2 (t : Int) (key val : ByteArray) (p u n : Int) (pp : Option Addr) (pn pc : Nat) (w : World) :
    Calls Try.prog 26 #[.agg #[.int .i64 2, .int .i64 t, .string key, .string val, .int .i64 p, .int .i64 u, .int .i64 n, .slice pp pn pc]] w fun e w' => e = .returned (.agg #[.int .i64 2, .int .i64 t, .string key, .string val, .int .i64 0, .int .i64 0, .int .i64 0, .slice none 0 0]) ∧ Below w.heap.size w w' := by
  have C1 := Lib.hid rec_kinds
  have hu := Up.refl w
  have hix : ∀ w, (Instr.index 51 (.agg kindsA) (.int .i64 2)).run Try.prog w = .ok (.agg #[.bool true, .bool true, .bool true, .bool false, .bool false]) w := fun _ => by kernel_rfl
  go_enter Try.func26, Try.ntmps26
  go_upto_region 1 with fail
  replace hu := ((hu.alloc (.cells #[.int .i64 2, .int .i64 t, .string key, .string val, .int .i64 p, .int .i64 u, .int .i64 n, .slice pp pn pc] 24)).alloc (.cells #[.int .i64 0, .int .i64 0, .string ⟨#[]⟩, .string ⟨#[]⟩, .int .i64 0, .int .i64 0, .int .i64 0, .slice none 0 0] 24)).drew
  have rp := ((RowAt.made w 24 [.int .i64 2, .int .i64 t, .string key, .string val, .int .i64 p, .int .i64 u, .int .i64 n, .slice pp pn pc]).alloc (.cells #[.int .i64 0, .int .i64 0, .string ⟨#[]⟩, .string ⟨#[]⟩, .int .i64 0, .int .i64 0, .int .i64 0, .slice none 0 0] 24)).drew
  have rr := (RowAt.made (w.alloc (.cells #[.int .i64 2, .int .i64 t, .string key, .string val, .int .i64 p, .int .i64 u, .int .i64 n, .slice pp pn pc] 24)) 24 [.int .i64 0, .int .i64 0, .string ⟨#[]⟩, .string ⟨#[]⟩, .int .i64 0, .int .i64 0, .int .i64 0, .slice none 0 0]).drew
  simp at rp rr
  obtain ⟨p0, -⟩ := rp.c8
  have n1 : ¬ w.heap.size = w.heap.size + 1 + 1 := by omega
  have n2 : ¬ w.heap.size + 1 + 1 = w.heap.size := by omega
  have n3 : ¬ w.heap.size + 1 = w.heap.size + 1 + 1 := by omega
  have n4 : ¬ w.heap.size + 1 + 1 = w.heap.size + 1 := by omega
  go_cut [3] (fun v3 wx => ∃ h : Nat, v3 = .pointer (some ⟨h, 0, none⟩) ∧ w.heap.size + 1 < h ∧ h < wx.heap.size ∧ RowAt wx h [.bool true, .bool true, .bool true, .bool false, .bool false] ∧ RowAt wx w.heap.size [.int .i64 2, .int .i64 t, .string key, .string val, .int .i64 p, .int .i64 u, .int .i64 n, .slice pp pn pc] ∧
      RowAt wx (w.heap.size + 1) [.int .i64 0, .int .i64 0, .string ⟨#[]⟩, .string ⟨#[]⟩, .int .i64 0, .int .i64 0, .int .i64 0, .slice none 0 0] ∧ Up w wx)
  case first =>
    go_region_held3 (fun w' => w'.cell? ⟨w.heap.size, 0, none⟩ = some (.int .i64 2)) (go_keep)
      (first
        | ((with_reducible refine (C1.out _).mono ?_); rintro e w1 ⟨rfl, hw1⟩; replace rp := rp.up hw1; replace rr := rr.up hw1; obtain ⟨q0, -⟩ := rp.c8; have hrl := rr.lt; replace hu := hu.next hw1; clear hw1)
        | ((with_reducible refine (C1.out _).mono ?_); rintro e w1 ⟨rfl, hw1⟩; have ha := RowAt.made (((w.alloc (.cells #[.int .i64 2, .int .i64 t, .string key, .string val, .int .i64 p, .int .i64 u, .int .i64 n, .slice pp pn pc] 24)).alloc (.cells #[.int .i64 0, .int .i64 0, .string ⟨#[]⟩, .string ⟨#[]⟩, .int .i64 0, .int .i64 0, .int .i64 0, .slice none 0 0] 24)).drew) 50 [.bool false, .bool false, .bool false, .bool false, .bool false]; simp at ha; replace ha := ha.up hw1; obtain ⟨y0, y1, y2, y3, y4, x0, x1, x2, x3, x4⟩ := ha.c5; replace rp := (rp.alloc _).up hw1; replace rr := (rr.alloc _).up hw1; obtain ⟨q0, -⟩ := rp.c8; have hrl := rr.lt; replace hu := (hu.alloc _).next hw1; clear hw1))
    all_goals (go_wp2_with fail; go_meet)
    iterate 2
      · refine ⟨w1.heap.size, rfl, hrl, by simp, ?_, rp.alloc _, rr.alloc _, hu.alloc _⟩
        exact RowAt.made w1 50 [.bool true, .bool true, .bool true, .bool false, .bool false]
    · have hal := ha.lt
      refine ⟨w.heap.size + 1 + 1, rfl, by omega, ?_, ?_, ?_, ?_, ?_⟩
      · simpa [World.setCell] using hal
      · exact ((((ha.set 0 _ (by simp)).set 1 _ (by simp)).set 2 _ (by simp)).set 3 _ (by simp)).set 4 _ (by simp)
      · exact ((((rp.other _ 0 _ n2).other _ 1 _ n2).other _ 2 _ n2).other _ 3 _ n2).other _ 4 _ n2
      · exact ((((rr.other _ 0 _ n4).other _ 1 _ n4).other _ 2 _ n4).other _ 3 _ n4).other _ 4 _ n4
      · repeat (refine Up.setCell ?_ _ _ _ (by omega))
        exact hu
  case rest =>
    obtain ⟨h, rfl, h1, h2, rh, rp, rr, hu⟩ := hcut
    obtain ⟨y0, y1, y2, y3, y4, -⟩ := rh.c5
    obtain ⟨p0, p1, p2, p3, p4, p5, p6, p7, f0, f1, f2, f3, f4, f5, f6, f7⟩ := rp.c8
    obtain ⟨r0, r1, r2, r3, r4, r5, r6, r7, g0, g1, g2, g3, g4, g5, g6, g7⟩ := rr.c8
    have m1 : ¬ w.heap.size = h := by omega
    have m2 : ¬ h = w.heap.size := by omega
    have m3 : ¬ w.heap.size + 1 = h := by omega
    have m4 : ¬ h = w.heap.size + 1 := by omega
    clear rh rp rr hix
    go_wp2_with fail
    refine bodyPost_ret (v := .agg #[.int .i64 2, .int .i64 t, .string key, .string val, .int .i64 0, .int .i64 0, .int .i64 0, .slice none 0 0]) (by simp [results, Try.results26, go_sem, *]) rfl ⟨rfl, ?_⟩
    repeat (first | refine Up.setCell ?_ _ _ _ (by first | omega | (simp; done) | (simp; omega)) | refine Up.alloc ?_ _)
    exact hu
theorem bare3 (t : Int) (key val : ByteArray) (p u n : Int) (pp : Option Addr) (pn pc : Nat) (w : World) :
    Calls Try.prog 26 #[.agg #[.int .i64 3, .int .i64 t, .string key, .string val, .int .i64 p, .int .i64 u, .int .i64 n, .slice pp pn pc]] w fun e w' => e = .returned (.agg #[.int .i64 3, .int .i64 t, .string key, .string ⟨#[]⟩, .int .i64 0, .int .i64 0, .int .i64 0, .slice none 0 0]) ∧ Below w.heap.size w w' := by
  have C1 := Lib.hid rec_kinds
  have hu := Up.refl w
  have hix : ∀ w, (Instr.index 51 (.agg kindsA) (.int .i64 3)).run Try.prog w = .ok (.agg #[.bool true, .bool true, .bool false, .bool false, .bool false]) w := fun _ => by kernel_rfl
  go_enter Try.func26, Try.ntmps26
  go_upto_region 1 with fail
  replace hu := ((hu.alloc (.cells #[.int .i64 3, .int .i64 t, .string key, .string val, .int .i64 p, .int .i64 u, .int .i64 n, .slice pp pn pc] 24)).alloc (.cells #[.int .i64 0, .int .i64 0, .string ⟨#[]⟩, .string ⟨#[]⟩, .int .i64 0, .int .i64 0, .int .i64 0, .slice none 0 0] 24)).drew
  have rp := ((RowAt.made w 24 [.int .i64 3, .int .i64 t, .string key, .string val, .int .i64 p, .int .i64 u, .int .i64 n, .slice pp pn pc]).alloc (.cells #[.int .i64 0, .int .i64 0, .string ⟨#[]⟩, .string ⟨#[]⟩, .int .i64 0, .int .i64 0, .int .i64 0, .slice none 0 0] 24)).drew
  have rr := (RowAt.made (w.alloc (.cells #[.int .i64 3, .int .i64 t, .string key, .string val, .int .i64 p, .int .i64 u, .int .i64 n, .slice pp pn pc] 24)) 24 [.int .i64 0, .int .i64 0, .string ⟨#[]⟩, .string ⟨#[]⟩, .int .i64 0, .int .i64 0, .int .i64 0, .slice none 0 0]).drew
  simp at rp rr
  obtain ⟨p0, -⟩ := rp.c8
  have n1 : ¬ w.heap.size = w.heap.size + 1 + 1 := by omega
  have n2 : ¬ w.heap.size + 1 + 1 = w.heap.size := by omega
  have n3 : ¬ w.heap.size + 1 = w.heap.size + 1 + 1 := by omega
  have n4 : ¬ w.heap.size + 1 + 1 = w.heap.size + 1 := by omega
  go_cut [3] (fun v3 wx => ∃ h : Nat, v3 = .pointer (some ⟨h, 0, none⟩) ∧ w.heap.size + 1 < h ∧ h < wx.heap.size ∧ RowAt wx h [.bool true, .bool true, .bool false, .bool false, .bool false] ∧ RowAt wx w.heap.size [.int .i64 3, .int .i64 t, .string key, .string val, .int .i64 p, .int .i64 u, .int .i64 n, .slice pp pn pc] ∧
      RowAt wx (w.heap.size + 1) [.int .i64 0, .int .i64 0, .string ⟨#[]⟩, .string ⟨#[]⟩, .int .i64 0, .int .i64 0, .int .i64 0, .slice none 0 0] ∧ Up w wx)
  case first =>
    go_region_held3 (fun w' => w'.cell? ⟨w.heap.size, 0, none⟩ = some (.int .i64 3)) (go_keep)
      (first
        | ((with_reducible refine (C1.out _).mono ?_); rintro e w1 ⟨rfl, hw1⟩; replace rp := rp.up hw1; replace rr := rr.up hw1; obtain ⟨q0, -⟩ := rp.c8; have hrl := rr.lt; replace hu := hu.next hw1; clear hw1)
        | ((with_reducible refine (C1.out _).mono ?_); rintro e w1 ⟨rfl, hw1⟩; have ha := RowAt.made (((w.alloc (.cells #[.int .i64 3, .int .i64 t, .string key, .string val, .int .i64 p, .int .i64 u, .int .i64 n, .slice pp pn pc] 24)).alloc (.cells #[.int .i64 0, .int .i64 0, .string ⟨#[]⟩, .string ⟨#[]⟩, .int .i64 0, .int .i64 0, .int .i64 0, .slice none 0 0] 24)).drew) 50 [.bool false, .bool false, .bool false, .bool false, .bool false]; simp at ha; replace ha := ha.up hw1; obtain ⟨y0, y1, y2, y3, y4, x0, x1, x2, x3, x4⟩ := ha.c5; replace rp := (rp.alloc _).up hw1; replace rr := (rr.alloc _).up hw1; obtain ⟨q0, -⟩ := rp.c8; have hrl := rr.lt; replace hu := (hu.alloc _).next hw1; clear hw1))
    all_goals (go_wp2_with fail; go_meet)
    iterate 2
      · refine ⟨w1.heap.size, rfl, hrl, by simp, ?_, rp.alloc _, rr.alloc _, hu.alloc _⟩
        exact RowAt.made w1 50 [.bool true, .bool true, .bool false, .bool false, .bool false]
    · have hal := ha.lt
      refine ⟨w.heap.size + 1 + 1, rfl, by omega, ?_, ?_, ?_, ?_, ?_⟩
      · simpa [World.setCell] using hal
      · exact ((((ha.set 0 _ (by simp)).set 1 _ (by simp)).set 2 _ (by simp)).set 3 _ (by simp)).set 4 _ (by simp)
      · exact ((((rp.other _ 0 _ n2).other _ 1 _ n2).other _ 2 _ n2).other _ 3 _ n2).other _ 4 _ n2
      · exact ((((rr.other _ 0 _ n4).other _ 1 _ n4).other _ 2 _ n4).other _ 3 _ n4).other _ 4 _ n4
      · repeat (refine Up.setCell ?_ _ _ _ (by omega))
        exact hu
  case rest =>
    obtain ⟨h, rfl, h1, h2, rh, rp, rr, hu⟩ := hcut
    obtain ⟨y0, y1, y2, y3, y4, -⟩ := rh.c5
    obtain ⟨p0, p1, p2, p3, p4, p5, p6, p7, f0, f1, f2, f3, f4, f5, f6, f7⟩ := rp.c8
    obtain ⟨r0, r1, r2, r3, r4, r5, r6, r7, g0, g1, g2, g3, g4, g5, g6, g7⟩ := rr.c8
    have m1 : ¬ w.heap.size = h := by omega
    have m2 : ¬ h = w.heap.size := by omega
    have m3 : ¬ w.heap.size + 1 = h := by omega
    have m4 : ¬ h = w.heap.size + 1 := by omega
    clear rh rp rr hix
    go_wp2_with fail
    refine bodyPost_ret (v := .agg #[.int .i64 3, .int .i64 t, .string key, .string ⟨#[]⟩, .int .i64 0, .int .i64 0, .int .i64 0, .slice none 0 0]) (by simp [results, Try.results26, go_sem, *]) rfl ⟨rfl, ?_⟩
    repeat (first | refine Up.setCell ?_ _ _ _ (by first | omega | (simp; done) | (simp; omega)) | refine Up.alloc ?_ _)
    exact hu
theorem bare4 (t : Int) (key val : ByteArray) (p u n : Int) (pp : Option Addr) (pn pc : Nat) (w : World) :
    Calls Try.prog 26 #[.agg #[.int .i64 4, .int .i64 t, .string key, .string val, .int .i64 p, .int .i64 u, .int .i64 n, .slice pp pn pc]] w fun e w' => e = .returned (.agg #[.int .i64 4, .int .i64 t, .string ⟨#[]⟩, .string ⟨#[]⟩, .int .i64 0, .int .i64 0, .int .i64 0, .slice none 0 0]) ∧ Below w.heap.size w w' := by
  have C1 := Lib.hid rec_kinds
  have hu := Up.refl w
  have hix : ∀ w, (Instr.index 51 (.agg kindsA) (.int .i64 4)).run Try.prog w = .ok (.agg #[.bool true, .bool false, .bool false, .bool false, .bool false]) w := fun _ => by kernel_rfl
  go_enter Try.func26, Try.ntmps26
  go_upto_region 1 with fail
  replace hu := ((hu.alloc (.cells #[.int .i64 4, .int .i64 t, .string key, .string val, .int .i64 p, .int .i64 u, .int .i64 n, .slice pp pn pc] 24)).alloc (.cells #[.int .i64 0, .int .i64 0, .string ⟨#[]⟩, .string ⟨#[]⟩, .int .i64 0, .int .i64 0, .int .i64 0, .slice none 0 0] 24)).drew
  have rp := ((RowAt.made w 24 [.int .i64 4, .int .i64 t, .string key, .string val, .int .i64 p, .int .i64 u, .int .i64 n, .slice pp pn pc]).alloc (.cells #[.int .i64 0, .int .i64 0, .string ⟨#[]⟩, .string ⟨#[]⟩, .int .i64 0, .int .i64 0, .int .i64 0, .slice none 0 0] 24)).drew
  have rr := (RowAt.made (w.alloc (.cells #[.int .i64 4, .int .i64 t, .string key, .string val, .int .i64 p, .int .i64 u, .int .i64 n, .slice pp pn pc] 24)) 24 [.int .i64 0, .int .i64 0, .string ⟨#[]⟩, .string ⟨#[]⟩, .int .i64 0, .int .i64 0, .int .i64 0, .slice none 0 0]).drew
  simp at rp rr
  obtain ⟨p0, -⟩ := rp.c8
  have n1 : ¬ w.heap.size = w.heap.size + 1 + 1 := by omega
  have n2 : ¬ w.heap.size + 1 + 1 = w.heap.size := by omega
  have n3 : ¬ w.heap.size + 1 = w.heap.size + 1 + 1 := by omega
  have n4 : ¬ w.heap.size + 1 + 1 = w.heap.size + 1 := by omega
  go_cut [3] (fun v3 wx => ∃ h : Nat, v3 = .pointer (some ⟨h, 0, none⟩) ∧ w.heap.size + 1 < h ∧ h < wx.heap.size ∧ RowAt wx h [.bool true, .bool false, .bool false, .bool false, .bool false] ∧ RowAt wx w.heap.size [.int .i64 4, .int .i64 t, .string key, .string val, .int .i64 p, .int .i64 u, .int .i64 n, .slice pp pn pc] ∧
      RowAt wx (w.heap.size + 1) [.int .i64 0, .int .i64 0, .string ⟨#[]⟩, .string ⟨#[]⟩, .int .i64 0, .int .i64 0, .int .i64 0, .slice none 0 0] ∧ Up w wx)
  case first =>
    go_region_held3 (fun w' => w'.cell? ⟨w.heap.size, 0, none⟩ = some (.int .i64 4)) (go_keep)
      (first
        | ((with_reducible refine (C1.out _).mono ?_); rintro e w1 ⟨rfl, hw1⟩; replace rp := rp.up hw1; replace rr := rr.up hw1; obtain ⟨q0, -⟩ := rp.c8; have hrl := rr.lt; replace hu := hu.next hw1; clear hw1)
        | ((with_reducible refine (C1.out _).mono ?_); rintro e w1 ⟨rfl, hw1⟩; have ha := RowAt.made (((w.alloc (.cells #[.int .i64 4, .int .i64 t, .string key, .string val, .int .i64 p, .int .i64 u, .int .i64 n, .slice pp pn pc] 24)).alloc (.cells #[.int .i64 0, .int .i64 0, .string ⟨#[]⟩, .string ⟨#[]⟩, .int .i64 0, .int .i64 0, .int .i64 0, .slice none 0 0] 24)).drew) 50 [.bool false, .bool false, .bool false, .bool false, .bool false]; simp at ha; replace ha := ha.up hw1; obtain ⟨y0, y1, y2, y3, y4, x0, x1, x2, x3, x4⟩ := ha.c5; replace rp := (rp.alloc _).up hw1; replace rr := (rr.alloc _).up hw1; obtain ⟨q0, -⟩ := rp.c8; have hrl := rr.lt; replace hu := (hu.alloc _).next hw1; clear hw1))
    all_goals (go_wp2_with fail; go_meet)
    iterate 2
      · refine ⟨w1.heap.size, rfl, hrl, by simp, ?_, rp.alloc _, rr.alloc _, hu.alloc _⟩
        exact RowAt.made w1 50 [.bool true, .bool false, .bool false, .bool false, .bool false]
    · have hal := ha.lt
      refine ⟨w.heap.size + 1 + 1, rfl, by omega, ?_, ?_, ?_, ?_, ?_⟩
      · simpa [World.setCell] using hal
      · exact ((((ha.set 0 _ (by simp)).set 1 _ (by simp)).set 2 _ (by simp)).set 3 _ (by simp)).set 4 _ (by simp)
      · exact ((((rp.other _ 0 _ n2).other _ 1 _ n2).other _ 2 _ n2).other _ 3 _ n2).other _ 4 _ n2
      · exact ((((rr.other _ 0 _ n4).other _ 1 _ n4).other _ 2 _ n4).other _ 3 _ n4).other _ 4 _ n4
      · repeat (refine Up.setCell ?_ _ _ _ (by omega))
        exact hu
  case rest =>
    obtain ⟨h, rfl, h1, h2, rh, rp, rr, hu⟩ := hcut
    obtain ⟨y0, y1, y2, y3, y4, -⟩ := rh.c5
    obtain ⟨p0, p1, p2, p3, p4, p5, p6, p7, f0, f1, f2, f3, f4, f5, f6, f7⟩ := rp.c8
    obtain ⟨r0, r1, r2, r3, r4, r5, r6, r7, g0, g1, g2, g3, g4, g5, g6, g7⟩ := rr.c8
    have m1 : ¬ w.heap.size = h := by omega
    have m2 : ¬ h = w.heap.size := by omega
    have m3 : ¬ w.heap.size + 1 = h := by omega
    have m4 : ¬ h = w.heap.size + 1 := by omega
    clear rh rp rr hix
    go_wp2_with fail
    refine bodyPost_ret (v := .agg #[.int .i64 4, .int .i64 t, .string ⟨#[]⟩, .string ⟨#[]⟩, .int .i64 0, .int .i64 0, .int .i64 0, .slice none 0 0]) (by simp [results, Try.results26, go_sem, *]) rfl ⟨rfl, ?_⟩
    repeat (first | refine Up.setCell ?_ _ _ _ (by first | omega | (simp; done) | (simp; omega)) | refine Up.alloc ?_ _)
    exact hu
theorem bare5 (t : Int) (key val : ByteArray) (p u n : Int) (pp : Option Addr) (pn pc : Nat) (w : World) :
    Calls Try.prog 26 #[.agg #[.int .i64 5, .int .i64 t, .string key, .string val, .int .i64 p, .int .i64 u, .int .i64 n, .slice pp pn pc]] w fun e w' => e = .returned (.agg #[.int .i64 5, .int .i64 t, .string ⟨#[]⟩, .string ⟨#[]⟩, .int .i64 0, .int .i64 0, .int .i64 0, .slice none 0 0]) ∧ Below w.heap.size w w' := by
  have C1 := Lib.hid rec_kinds
  have hu := Up.refl w
  have hix : ∀ w, (Instr.index 51 (.agg kindsA) (.int .i64 5)).run Try.prog w = .ok (.agg #[.bool true, .bool false, .bool false, .bool false, .bool false]) w := fun _ => by kernel_rfl
  go_enter Try.func26, Try.ntmps26
  go_upto_region 1 with fail
  replace hu := ((hu.alloc (.cells #[.int .i64 5, .int .i64 t, .string key, .string val, .int .i64 p, .int .i64 u, .int .i64 n, .slice pp pn pc] 24)).alloc (.cells #[.int .i64 0, .int .i64 0, .string ⟨#[]⟩, .string ⟨#[]⟩, .int .i64 0, .int .i64 0, .int .i64 0, .slice none 0 0] 24)).drew
  have rp := ((RowAt.made w 24 [.int .i64 5, .int .i64 t, .string key, .string val, .int .i64 p, .int .i64 u, .int .i64 n, .slice pp pn pc]).alloc (.cells #[.int .i64 0, .int .i64 0, .string ⟨#[]⟩, .string ⟨#[]⟩, .int .i64 0, .int .i64 0, .int .i64 0, .slice none 0 0] 24)).drew
  have rr := (RowAt.made (w.alloc (.cells #[.int .i64 5, .int .i64 t, .string key, .string val, .int .i64 p, .int .i64 u, .int .i64 n, .slice pp pn pc] 24)) 24 [.int .i64 0, .int .i64 0, .string ⟨#[]⟩, .string ⟨#[]⟩, .int .i64 0, .int .i64 0, .int .i64 0, .slice none 0 0]).drew
  simp at rp rr
  obtain ⟨p0, -⟩ := rp.c8
  have n1 : ¬ w.heap.size = w.heap.size + 1 + 1 := by omega
  have n2 : ¬ w.heap.size + 1 + 1 = w.heap.size := by omega
  have n3 : ¬ w.heap.size + 1 = w.heap.size + 1 + 1 := by omega
  have n4 : ¬ w.heap.size + 1 + 1 = w.heap.size + 1 := by omega
  go_cut [3] (fun v3 wx => ∃ h : Nat, v3 = .pointer (some ⟨h, 0, none⟩) ∧ w.heap.size + 1 < h ∧ h < wx.heap.size ∧ RowAt wx h [.bool true, .bool false, .bool false, .bool false, .bool false] ∧ RowAt wx w.heap.size [.int .i64 5, .int .i64 t, .string key, .string val, .int .i64 p, .int .i64 u, .int .i64 n, .slice pp pn pc] ∧
      RowAt wx (w.heap.size + 1) [.int .i64 0, .int .i64 0, .string ⟨#[]⟩, .string ⟨#[]⟩, .int .i64 0, .int .i64 0, .int .i64 0, .slice none 0 0] ∧ Up w wx)
  case first =>
    go_region_held3 (fun w' => w'.cell? ⟨w.heap.size, 0, none⟩ = some (.int .i64 5)) (go_keep)
      (first
        | ((with_reducible refine (C1.out _).mono ?_); rintro e w1 ⟨rfl, hw1⟩; replace rp := rp.up hw1; replace rr := rr.up hw1; obtain ⟨q0, -⟩ := rp.c8; have hrl := rr.lt; replace hu := hu.next hw1; clear hw1)
        | ((with_reducible refine (C1.out _).mono ?_); rintro e w1 ⟨rfl, hw1⟩; have ha := RowAt.made (((w.alloc (.cells #[.int .i64 5, .int .i64 t, .string key, .string val, .int .i64 p, .int .i64 u, .int .i64 n, .slice pp pn pc] 24)).alloc (.cells #[.int .i64 0, .int .i64 0, .string ⟨#[]⟩, .string ⟨#[]⟩, .int .i64 0, .int .i64 0, .int .i64 0, .slice none 0 0] 24)).drew) 50 [.bool false, .bool false, .bool false, .bool false, .bool false]; simp at ha; replace ha := ha.up hw1; obtain ⟨y0, y1, y2, y3, y4, x0, x1, x2, x3, x4⟩ := ha.c5; replace rp := (rp.alloc _).up hw1; replace rr := (rr.alloc _).up hw1; obtain ⟨q0, -⟩ := rp.c8; have hrl := rr.lt; replace hu := (hu.alloc _).next hw1; clear hw1))
    all_goals (go_wp2_with fail; go_meet)
    iterate 2
      · refine ⟨w1.heap.size, rfl, hrl, by simp, ?_, rp.alloc _, rr.alloc _, hu.alloc _⟩
        exact RowAt.made w1 50 [.bool true, .bool false, .bool false, .bool false, .bool false]
    · have hal := ha.lt
      refine ⟨w.heap.size + 1 + 1, rfl, by omega, ?_, ?_, ?_, ?_, ?_⟩
      · simpa [World.setCell] using hal
      · exact ((((ha.set 0 _ (by simp)).set 1 _ (by simp)).set 2 _ (by simp)).set 3 _ (by simp)).set 4 _ (by simp)
      · exact ((((rp.other _ 0 _ n2).other _ 1 _ n2).other _ 2 _ n2).other _ 3 _ n2).other _ 4 _ n2
      · exact ((((rr.other _ 0 _ n4).other _ 1 _ n4).other _ 2 _ n4).other _ 3 _ n4).other _ 4 _ n4
      · repeat (refine Up.setCell ?_ _ _ _ (by omega))
        exact hu
  case rest =>
    obtain ⟨h, rfl, h1, h2, rh, rp, rr, hu⟩ := hcut
    obtain ⟨y0, y1, y2, y3, y4, -⟩ := rh.c5
    obtain ⟨p0, p1, p2, p3, p4, p5, p6, p7, f0, f1, f2, f3, f4, f5, f6, f7⟩ := rp.c8
    obtain ⟨r0, r1, r2, r3, r4, r5, r6, r7, g0, g1, g2, g3, g4, g5, g6, g7⟩ := rr.c8
    have m1 : ¬ w.heap.size = h := by omega
    have m2 : ¬ h = w.heap.size := by omega
    have m3 : ¬ w.heap.size + 1 = h := by omega
    have m4 : ¬ h = w.heap.size + 1 := by omega
    clear rh rp rr hix
    go_wp2_with fail
    refine bodyPost_ret (v := .agg #[.int .i64 5, .int .i64 t, .string ⟨#[]⟩, .string ⟨#[]⟩, .int .i64 0, .int .i64 0, .int .i64 0, .slice none 0 0]) (by simp [results, Try.results26, go_sem, *]) rfl ⟨rfl, ?_⟩
    repeat (first | refine Up.setCell ?_ _ _ _ (by first | omega | (simp; done) | (simp; omega)) | refine Up.alloc ?_ _)
    exact hu
theorem bare6 (t : Int) (key val : ByteArray) (p u n : Int) (pp : Option Addr) (pn pc : Nat) (w : World) :
    Calls Try.prog 26 #[.agg #[.int .i64 6, .int .i64 t, .string key, .string val, .int .i64 p, .int .i64 u, .int .i64 n, .slice pp pn pc]] w fun e w' => e = .returned (.agg #[.int .i64 6, .int .i64 0, .string ⟨#[]⟩, .string ⟨#[]⟩, .int .i64 p, .int .i64 u, .int .i64 n, .slice none 0 0]) ∧ Below w.heap.size w w' := by
  have C1 := Lib.hid rec_kinds
  have hu := Up.refl w
  have hix : ∀ w, (Instr.index 51 (.agg kindsA) (.int .i64 6)).run Try.prog w = .ok (.agg #[.bool false, .bool false, .bool false, .bool true, .bool false]) w := fun _ => by kernel_rfl
  go_enter Try.func26, Try.ntmps26
  go_upto_region 1 with fail
  replace hu := ((hu.alloc (.cells #[.int .i64 6, .int .i64 t, .string key, .string val, .int .i64 p, .int .i64 u, .int .i64 n, .slice pp pn pc] 24)).alloc (.cells #[.int .i64 0, .int .i64 0, .string ⟨#[]⟩, .string ⟨#[]⟩, .int .i64 0, .int .i64 0, .int .i64 0, .slice none 0 0] 24)).drew
  have rp := ((RowAt.made w 24 [.int .i64 6, .int .i64 t, .string key, .string val, .int .i64 p, .int .i64 u, .int .i64 n, .slice pp pn pc]).alloc (.cells #[.int .i64 0, .int .i64 0, .string ⟨#[]⟩, .string ⟨#[]⟩, .int .i64 0, .int .i64 0, .int .i64 0, .slice none 0 0] 24)).drew
  have rr := (RowAt.made (w.alloc (.cells #[.int .i64 6, .int .i64 t, .string key, .string val, .int .i64 p, .int .i64 u, .int .i64 n, .slice pp pn pc] 24)) 24 [.int .i64 0, .int .i64 0, .string ⟨#[]⟩, .string ⟨#[]⟩, .int .i64 0, .int .i64 0, .int .i64 0, .slice none 0 0]).drew
  simp at rp rr
  obtain ⟨p0, -⟩ := rp.c8
  have n1 : ¬ w.heap.size = w.heap.size + 1 + 1 := by omega
  have n2 : ¬ w.heap.size + 1 + 1 = w.heap.size := by omega
  have n3 : ¬ w.heap.size + 1 = w.heap.size + 1 + 1 := by omega
  have n4 : ¬ w.heap.size + 1 + 1 = w.heap.size + 1 := by omega
  go_cut [3] (fun v3 wx => ∃ h : Nat, v3 = .pointer (some ⟨h, 0, none⟩) ∧ w.heap.size + 1 < h ∧ h < wx.heap.size ∧ RowAt wx h [.bool false, .bool false, .bool false, .bool true, .bool false] ∧ RowAt wx w.heap.size [.int .i64 6, .int .i64 t, .string key, .string val, .int .i64 p, .int .i64 u, .int .i64 n, .slice pp pn pc] ∧
      RowAt wx (w.heap.size + 1) [.int .i64 0, .int .i64 0, .string ⟨#[]⟩, .string ⟨#[]⟩, .int .i64 0, .int .i64 0, .int .i64 0, .slice none 0 0] ∧ Up w wx)
  case first =>
    go_region_held3 (fun w' => w'.cell? ⟨w.heap.size, 0, none⟩ = some (.int .i64 6)) (go_keep)
      (first
        | ((with_reducible refine (C1.out _).mono ?_); rintro e w1 ⟨rfl, hw1⟩; replace rp := rp.up hw1; replace rr := rr.up hw1; obtain ⟨q0, -⟩ := rp.c8; have hrl := rr.lt; replace hu := hu.next hw1; clear hw1)
        | ((with_reducible refine (C1.out _).mono ?_); rintro e w1 ⟨rfl, hw1⟩; have ha := RowAt.made (((w.alloc (.cells #[.int .i64 6, .int .i64 t, .string key, .string val, .int .i64 p, .int .i64 u, .int .i64 n, .slice pp pn pc] 24)).alloc (.cells #[.int .i64 0, .int .i64 0, .string ⟨#[]⟩, .string ⟨#[]⟩, .int .i64 0, .int .i64 0, .int .i64 0, .slice none 0 0] 24)).drew) 50 [.bool false, .bool false, .bool false, .bool false, .bool false]; simp at ha; replace ha := ha.up hw1; obtain ⟨y0, y1, y2, y3, y4, x0, x1, x2, x3, x4⟩ := ha.c5; replace rp := (rp.alloc _).up hw1; replace rr := (rr.alloc _).up hw1; obtain ⟨q0, -⟩ := rp.c8; have hrl := rr.lt; replace hu := (hu.alloc _).next hw1; clear hw1))
    all_goals (go_wp2_with fail; go_meet)
    iterate 2
      · refine ⟨w1.heap.size, rfl, hrl, by simp, ?_, rp.alloc _, rr.alloc _, hu.alloc _⟩
        exact RowAt.made w1 50 [.bool false, .bool false, .bool false, .bool true, .bool false]
    · have hal := ha.lt
      refine ⟨w.heap.size + 1 + 1, rfl, by omega, ?_, ?_, ?_, ?_, ?_⟩
      · simpa [World.setCell] using hal
      · exact ((((ha.set 0 _ (by simp)).set 1 _ (by simp)).set 2 _ (by simp)).set 3 _ (by simp)).set 4 _ (by simp)
      · exact ((((rp.other _ 0 _ n2).other _ 1 _ n2).other _ 2 _ n2).other _ 3 _ n2).other _ 4 _ n2
      · exact ((((rr.other _ 0 _ n4).other _ 1 _ n4).other _ 2 _ n4).other _ 3 _ n4).other _ 4 _ n4
      · repeat (refine Up.setCell ?_ _ _ _ (by omega))
        exact hu
  case rest =>
    obtain ⟨h, rfl, h1, h2, rh, rp, rr, hu⟩ := hcut
    obtain ⟨y0, y1, y2, y3, y4, -⟩ := rh.c5
    obtain ⟨p0, p1, p2, p3, p4, p5, p6, p7, f0, f1, f2, f3, f4, f5, f6, f7⟩ := rp.c8
    obtain ⟨r0, r1, r2, r3, r4, r5, r6, r7, g0, g1, g2, g3, g4, g5, g6, g7⟩ := rr.c8
    have m1 : ¬ w.heap.size = h := by omega
    have m2 : ¬ h = w.heap.size := by omega
    have m3 : ¬ w.heap.size + 1 = h := by omega
    have m4 : ¬ h = w.heap.size + 1 := by omega
    clear rh rp rr hix
    go_wp2_with fail
    refine bodyPost_ret (v := .agg #[.int .i64 6, .int .i64 0, .string ⟨#[]⟩, .string ⟨#[]⟩, .int .i64 p, .int .i64 u, .int .i64 n, .slice none 0 0]) (by simp [results, Try.results26, go_sem, *]) rfl ⟨rfl, ?_⟩
    repeat (first | refine Up.setCell ?_ _ _ _ (by first | omega | (simp; done) | (simp; omega)) | refine Up.alloc ?_ _)
    exact hu
theorem bare7 (t : Int) (key val : ByteArray) (p u n : Int) (pp : Option Addr) (pn pc : Nat) (w : World) :
    Calls Try.prog 26 #[.agg #[.int .i64 7, .int .i64 t, .string key, .string val, .int .i64 p, .int .i64 u, .int .i64 n, .slice pp pn pc]] w fun e w' => e = .returned (.agg #[.int .i64 7, .int .i64 0, .string ⟨#[]⟩, .string ⟨#[]⟩, .int .i64 p, .int .i64 u, .int .i64 n, .slice pp pn pc]) ∧ Below w.heap.size w w' := by
  have C1 := Lib.hid rec_kinds
  have hu := Up.refl w
  have hix : ∀ w, (Instr.index 51 (.agg kindsA) (.int .i64 7)).run Try.prog w = .ok (.agg #[.bool false, .bool false, .bool false, .bool true, .bool true]) w := fun _ => by kernel_rfl
  go_enter Try.func26, Try.ntmps26
  go_upto_region 1 with fail
  replace hu := ((hu.alloc (.cells #[.int .i64 7, .int .i64 t, .string key, .string val, .int .i64 p, .int .i64 u, .int .i64 n, .slice pp pn pc] 24)).alloc (.cells #[.int .i64 0, .int .i64 0, .string ⟨#[]⟩, .string ⟨#[]⟩, .int .i64 0, .int .i64 0, .int .i64 0, .slice none 0 0] 24)).drew
  have rp := ((RowAt.made w 24 [.int .i64 7, .int .i64 t, .string key, .string val, .int .i64 p, .int .i64 u, .int .i64 n, .slice pp pn pc]).alloc (.cells #[.int .i64 0, .int .i64 0, .string ⟨#[]⟩, .string ⟨#[]⟩, .int .i64 0, .int .i64 0, .int .i64 0, .slice none 0 0] 24)).drew
  have rr := (RowAt.made (w.alloc (.cells #[.int .i64 7, .int .i64 t, .string key, .string val, .int .i64 p, .int .i64 u, .int .i64 n, .slice pp pn pc] 24)) 24 [.int .i64 0, .int .i64 0, .string ⟨#[]⟩, .string ⟨#[]⟩, .int .i64 0, .int .i64 0, .int .i64 0, .slice none 0 0]).drew
  simp at rp rr
  obtain ⟨p0, -⟩ := rp.c8
  have n1 : ¬ w.heap.size = w.heap.size + 1 + 1 := by omega
  have n2 : ¬ w.heap.size + 1 + 1 = w.heap.size := by omega
  have n3 : ¬ w.heap.size + 1 = w.heap.size + 1 + 1 := by omega
  have n4 : ¬ w.heap.size + 1 + 1 = w.heap.size + 1 := by omega
  go_cut [3] (fun v3 wx => ∃ h : Nat, v3 = .pointer (some ⟨h, 0, none⟩) ∧ w.heap.size + 1 < h ∧ h < wx.heap.size ∧ RowAt wx h [.bool false, .bool false, .bool false, .bool true, .bool true] ∧ RowAt wx w.heap.size [.int .i64 7, .int .i64 t, .string key, .string val, .int .i64 p, .int .i64 u, .int .i64 n, .slice pp pn pc] ∧
      RowAt wx (w.heap.size + 1) [.int .i64 0, .int .i64 0, .string ⟨#[]⟩, .string ⟨#[]⟩, .int .i64 0, .int .i64 0, .int .i64 0, .slice none 0 0] ∧ Up w wx)
  case first =>
    go_region_held3 (fun w' => w'.cell? ⟨w.heap.size, 0, none⟩ = some (.int .i64 7)) (go_keep)
      (first
        | ((with_reducible refine (C1.out _).mono ?_); rintro e w1 ⟨rfl, hw1⟩; replace rp := rp.up hw1; replace rr := rr.up hw1; obtain ⟨q0, -⟩ := rp.c8; have hrl := rr.lt; replace hu := hu.next hw1; clear hw1)
        | ((with_reducible refine (C1.out _).mono ?_); rintro e w1 ⟨rfl, hw1⟩; have ha := RowAt.made (((w.alloc (.cells #[.int .i64 7, .int .i64 t, .string key, .string val, .int .i64 p, .int .i64 u, .int .i64 n, .slice pp pn pc] 24)).alloc (.cells #[.int .i64 0, .int .i64 0, .string ⟨#[]⟩, .string ⟨#[]⟩, .int .i64 0, .int .i64 0, .int .i64 0, .slice none 0 0] 24)).drew) 50 [.bool false, .bool false, .bool false, .bool false, .bool false]; simp at ha; replace ha := ha.up hw1; obtain ⟨y0, y1, y2, y3, y4, x0, x1, x2, x3, x4⟩ := ha.c5; replace rp := (rp.alloc _).up hw1; replace rr := (rr.alloc _).up hw1; obtain ⟨q0, -⟩ := rp.c8; have hrl := rr.lt; replace hu := (hu.alloc _).next hw1; clear hw1))
    all_goals (go_wp2_with fail; go_meet)
    iterate 2
      · refine ⟨w1.heap.size, rfl, hrl, by simp, ?_, rp.alloc _, rr.alloc _, hu.alloc _⟩
        exact RowAt.made w1 50 [.bool false, .bool false, .bool false, .bool true, .bool true]
    · have hal := ha.lt
      refine ⟨w.heap.size + 1 + 1, rfl, by omega, ?_, ?_, ?_, ?_, ?_⟩
      · simpa [World.setCell] using hal
      · exact ((((ha.set 0 _ (by simp)).set 1 _ (by simp)).set 2 _ (by simp)).set 3 _ (by simp)).set 4 _ (by simp)
      · exact ((((rp.other _ 0 _ n2).other _ 1 _ n2).other _ 2 _ n2).other _ 3 _ n2).other _ 4 _ n2
      · exact ((((rr.other _ 0 _ n4).other _ 1 _ n4).other _ 2 _ n4).other _ 3 _ n4).other _ 4 _ n4
      · repeat (refine Up.setCell ?_ _ _ _ (by omega))
        exact hu
  case rest =>
    obtain ⟨h, rfl, h1, h2, rh, rp, rr, hu⟩ := hcut
    obtain ⟨y0, y1, y2, y3, y4, -⟩ := rh.c5
    obtain ⟨p0, p1, p2, p3, p4, p5, p6, p7, f0, f1, f2, f3, f4, f5, f6, f7⟩ := rp.c8
    obtain ⟨r0, r1, r2, r3, r4, r5, r6, r7, g0, g1, g2, g3, g4, g5, g6, g7⟩ := rr.c8
    have m1 : ¬ w.heap.size = h := by omega
    have m2 : ¬ h = w.heap.size := by omega
    have m3 : ¬ w.heap.size + 1 = h := by omega
    have m4 : ¬ h = w.heap.size + 1 := by omega
    clear rh rp rr hix
    go_wp2_with fail
    refine bodyPost_ret (v := .agg #[.int .i64 7, .int .i64 0, .string ⟨#[]⟩, .string ⟨#[]⟩, .int .i64 p, .int .i64 u, .int .i64 n, .slice pp pn pc]) (by simp [results, Try.results26, go_sem, *]) rfl ⟨rfl, ?_⟩
    repeat (first | refine Up.setCell ?_ _ _ _ (by first | omega | (simp; done) | (simp; omega)) | refine Up.alloc ?_ _)
    exact hu

theorem rec_bare (r : RecD) (hk : 1 ≤ r.k ∧ r.k ≤ 7) (pp : Option Addr) (pn pc : Nat) (w : World) :
    Calls Try.prog 26 #[recV r (.slice pp pn pc)] w fun e w' => e = .returned (recV r.bare (if pairsB r.k then .slice pp pn pc else .slice none 0 0)) ∧ Below w.heap.size w w' := by
  obtain ⟨k, t, key, val, p, u, n, l⟩ := r
  have hc : k = 1 ∨ k = 2 ∨ k = 3 ∨ k = 4 ∨ k = 5 ∨ k = 6 ∨ k = 7 := by simp at hk; omega
  rcases hc with rfl | rfl | rfl | rfl | rfl | rfl | rfl
  · exact bare1 t key val p u n pp pn pc w
  · exact bare2 t key val p u n pp pn pc w
  · exact bare3 t key val p u n pp pn pc w
  · exact bare4 t key val p u n pp pn pc w
  · exact bare5 t key val p u n pp pn pc w
  · exact bare6 t key val p u n pp pn pc w
  · exact bare7 t key val p u n pp pn pc w
end Go.Proofs.Ytibeeomeafakgaa
