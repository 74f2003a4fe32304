import Derived.Test.YtibeeomeafakgaaEnWalk1
import Derived.Test.YtibeeomeafakgaaRef1Walk4
import Derived.Test.YtibeeomeafakgaaRec5Walk3
namespace Go.Proofs.Ytibeeomeafakgaa
open Go.RowKit Bw
set_option linter.unusedVariables false

theorem putS_full (s : ByteArray) (n : Int) (k : Nat) (hs : s.size = k) (h0 : 0 ≤ n) (h1 : n < (256 ^ k : Nat)) (hk : 1 ≤ k) (hk8 : k ≤ 8) : putS s 0 k n = str (numL n k) := by
  have hr : roomE s 0 k = 0 := by simp [roomE]; omega
  have := putS_ok s 0 k n.toNat (by simpa using hr) (by omega)
  rw [Int.toNat_of_nonneg h0] at this
  have e : ((0 : Nat) : Int) = 0 := rfl
  rw [e] at this
  rw [this, List.drop_of_length_le (by rw [lst_length]; omega)]
  simp [numL]

set_option maxHeartbeats 400000 in
theorem ref5_num (n : Int) (k : Nat) (h0 : 0 ≤ n) (h1 : n < (256 ^ k : Nat)) (hn : n ≤ 1099511627776) (hk : 1 ≤ k) (hk6 : k ≤ 6) (w : World) :
    Calls Try.prog 33 #[.int .i64 n, .int .i64 k] w fun e w' => e = .returned (.string (str (numL n k))) ∧ Below w.heap.size w w' := by
  have hsz : ((⟨#[32, 32, 32, 32, 32, 32]⟩ : ByteArray).extract 0 k).size = k := by
    rw [ByteArray.size_extract]
    have : (⟨#[32, 32, 32, 32, 32, 32]⟩ : ByteArray).size = 6 := rfl
    omega
  have c1 := fun w => ref1_Put ((⟨#[32, 32, 32, 32, 32, 32]⟩ : ByteArray).extract 0 k) 0 k n w (by omega) h0 (by omega)
  rw [putS_full _ n k hsz h0 h1 hk (by omega)] at c1
  have C1 := Lib.hid c1; clear c1
  generalize str (numL n k) = R at *
  generalize putE ((⟨#[32, 32, 32, 32, 32, 32]⟩ : ByteArray).extract 0 k) 0 k n = E at *
  have hwr : IntKind.u64.wrap n = n := by rw [IntKind.wrap_u64]; omega
  have hu := Up.refl w
  have hk1 : (k : Int) ≤ 6 := by omega
  have hk0 : (0 : Int) ≤ (k : Int) := by omega
  have h6 : (((⟨#[32, 32, 32, 32, 32, 32]⟩ : ByteArray).size : Nat) : Int) = 6 := rfl
  clear h1 hsz
  go_enter Try.func33, Try.ntmps33
  go_wp2_with ((with_reducible refine (C1.out _).mono ?_); rintro e w2 ⟨rfl, hw2⟩)
  go_ret
  exact ⟨rfl, hw2⟩

set_option maxHeartbeats 400000 in
theorem ref5_text (s : ByteArray) (w : World) (hs : s.size ≤ 1099511627776) :
    Calls Try.prog 34 #[.string s] w fun e w' => e = .returned (.string (str (textL s))) ∧ Below w.heap.size w w' := by
  have HR := Lib.hid (show str [UInt8.ofNat s.size] ++ s = str (textL s) by
    have : str [UInt8.ofNat s.size] ++ str (lst s) = str (textL s) := by rw [str_append]; rfl
    rw [str_lst] at this; exact this)
  generalize str (textL s) = R at *
  have hone := fun w e => bytes_one w e (UInt8.ofNat s.size)
  rw [← byte_size] at hone
  have HO := Lib.hid hone; clear hone
  generalize UInt8.ofNat s.size = B at *
  have hu := Up.refl w
  go_enter Try.func34, Try.ntmps34
  have hz : ¬ 9223372036854775807 < (str [B]).size + s.size := by rw [size_str]; simp only [List.length_cons, List.length_nil]; omega
  go_wp2_with (with_reducible refine wpList_toString rfl _ 43 9 5 rfl Try.underlying43 Try.underlying9 Try.underlying5 [B] w.heap.size 0 1 1 rfl (by simp) (HO.out _ _) ?_)
  go_ret
  exact ⟨congrArg _ (congrArg _ HR.out), hu.alloc _⟩

set_option maxHeartbeats 1000000 in
theorem ref5_Pairs (a b : List PairD) (pa pb : Option Addr) (ca cb : Nat) (w : World) (hA : PairsAt w pa a) (hB : PairsAt w pb b) (la : a.length ≤ 1099511627776) (lb : b.length ≤ 1099511627776) :
    Calls Try.prog 36 #[.slice pa a.length ca, .slice pb b.length cb] w fun e w' => e = .returned (.bool (decide (a = b))) ∧ Below w.heap.size w w' := by
  have HF := Lib.hid (show decide (a = b) = decide (a = b) from rfl)
  generalize hK : decide (a = b) = K at *
  have HK := Lib.hid hK; clear hK HF
  have HA := Lib.hid hA; have HB := Lib.hid hB; clear hA hB
  by_cases hl : a.length = b.length
  · have HL := Lib.hid hl
    have hlb : ((a.length : Int) != (b.length : Int)) = false := by simp; omega
    clear hl
    go_enter Try.func36, Try.ntmps36
    go_wp2_with fail
    go_loopw [5] (fun v wr => ∃ k : Nat, k ≤ a.length ∧ v = .int .i64 k ∧ a.take k = b.take k ∧ Up w wr) (fun v _ => a.length - (intOf v).toNat)
    case atStart => exact ⟨0, by omega, rfl, rfl, Up.refl w⟩
    case round =>
      obtain ⟨k, hk, rfl, htk, hu⟩ := hrel
      have HT := Lib.hid htk; clear htk
      by_cases hlt : k < a.length
      · have hlt2 : k < b.length := by have := HL.out; omega
        obtain ⟨ga, oa, rfl, a1, a2⟩ := (HA.out.up hu) k hlt
        obtain ⟨gb, ob, rfl, b1, b2⟩ := (HB.out.up hu) k hlt2
        have i0 : (0 : Int) ≤ (k : Int) := by omega
        have i1 : (k : Int) < (a.length : Int) := by omega
        have i2 : (k : Int) < (b.length : Int) := by omega
        have i3 : (k : Int) < 1099511627776 := by omega
        generalize hx : a[k] = x at *
        generalize hy : b[k] = y at *
        have HX := Lib.hid hx; have HY := Lib.hid hy; clear hx hy
        obtain ⟨x1, x2⟩ := x
        obtain ⟨y1, y2⟩ := y
        have E1 := Lib.hid (str_eqB x1 y1)
        have E2 := Lib.hid (str_eqB x2 y2)
        have hcs : ((x1.toList == y1.toList) = false) ∨ ((x1.toList == y1.toList) = true ∧ (x2.toList == y2.toList) = false) ∨ ((x1.toList == y1.toList) = true ∧ (x2.toList == y2.toList) = true) := by
          cases x1.toList == y1.toList <;> cases x2.toList == y2.toList <;> simp
        go_upto_region 6 with fail
        have l1 := Later.cell_of a1; have l2 := Later.cell_of a2
        have l3 := Later.cell_of b1; have l4 := Later.cell_of b2
        have hne := later_ne wr
        clear a1 a2 b1 b2
        rcases hcs with d1 | ⟨d1, d2⟩ | ⟨d1, d2⟩
        all_goals
          refine wp_region_later (by kernel_rfl) (by kernel_rfl) ?_
          repeat (go_big_quiet_step (fail))
          refine wpQuiet_nil ?_
          intro w9 hw9
          obtain ⟨u9, rfl⟩ := hw9
          replace hu := hu.trans u9.up
          clear l1 l2 l3 l4 hne
          generalize u9.world = w9 at *
          go_wp2_with fail
        · go_ret
          refine ⟨?_, hu⟩
          rw [← HK.out]
          have hne : ¬ a = b := fun h => by
            subst h
            have := E1.out; rw [d1] at this; have h3 := HX.out.symm.trans HY.out
            simp at h3; simp [h3.1] at this
          simp [hne]
        · go_ret
          refine ⟨?_, hu⟩
          rw [← HK.out]
          have hne : ¬ a = b := fun h => by
            subst h
            have := E2.out; rw [d2] at this; have h3 := HX.out.symm.trans HY.out
            simp at h3; simp [h3.2] at this
          simp [hne]
        · go_roundw
          case rel =>
            refine ⟨k + 1, by omega, by go_num, ?_, hu⟩
            rw [List.take_succ_eq_append_getElem hlt, List.take_succ_eq_append_getElem hlt2, HT.out, HX.out, HY.out]
            have g1 := E1.out; have g2 := E2.out; rw [d1] at g1; rw [d2] at g2
            simp at g1 g2
            rw [g1, g2]
          case measure => simp [intOf]; omega
      · go_wp2_with fail
        go_ret
        have e := HT.out
        rw [List.take_of_length_le (by omega), List.take_of_length_le (by have := HL.out; omega)] at e
        exact ⟨by rw [← HK.out]; simp [e], hu⟩
  · have hne : ¬ a = b := fun h => hl (by rw [h])
    have hlb : ((a.length : Int) != (b.length : Int)) = true := by simp; omega
    clear hl
    go_enter Try.func36, Try.ntmps36
    go_wp2_with fail
    go_ret
    exact ⟨by rw [← HK.out]; simp [hne], Below.refl _ _⟩
end Go.Proofs.Ytibeeomeafakgaa
