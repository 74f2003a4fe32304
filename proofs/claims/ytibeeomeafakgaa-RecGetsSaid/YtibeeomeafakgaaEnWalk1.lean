import Derived.Test.YtibeeomeafakgaaFieldWalk6
import Derived.Test.YtibeeomeafakgaaRecWalk1
import Derived.Test.YtibeeomeafakgaaEnPure
namespace Go.Proofs.Ytibeeomeafakgaa
open Go.RowKit Bw
set_option linter.unusedVariables false

theorem putS_zero (n : Int) (k : Nat) (h0 : 0 ≤ n) (h1 : n < (256 ^ k : Nat)) (hk : 1 ≤ k) (hk8 : k ≤ 8) : putS (str (List.replicate k 0)) 0 k n = str (numL n k) := by
  have hr : roomE (str (List.replicate k 0)) 0 k = 0 := by simp [roomE, size_str]; omega
  have := putS_ok (str (List.replicate k 0)) 0 k n.toNat (by simpa using hr) (by omega)
  rw [Int.toNat_of_nonneg h0] at this
  have e : ((0 : Nat) : Int) = 0 := rfl
  rw [e] at this
  rw [this, lst_str]
  simp [numL]

set_option maxHeartbeats 400000 in
theorem rec_num (n : Int) (k : Nat) (h0 : 0 ≤ n) (h1 : n < (256 ^ k : Nat)) (hn : n ≤ 1099511627776) (hk : 1 ≤ k) (hk8 : k ≤ 8) (w : World) :
    Calls Try.prog 31 #[.int .i64 n, .int .i64 k] w fun e w' => e = .returned (.string (str (numL n k))) ∧ Below w.heap.size w w' := by
  have c1 := fun w => field_Put (str (List.replicate k 0)) 0 k n w (by rw [size_str]; simp; omega) h0 (by omega)
  rw [putS_zero n k h0 h1 hk hk8] at c1
  have C1 := Lib.hid c1; clear c1
  generalize str (numL n k) = R at *
  generalize putE (str (List.replicate k 0)) 0 k n = E at *
  have hwr : IntKind.u64.wrap n = n := by rw [IntKind.wrap_u64]; omega
  have hu := Up.refl w
  clear h1
  go_enter Try.func31, Try.ntmps31
  go_wp2_with (first
    | (with_reducible refine wpList_makeBytes rfl _ _ 43 5 rfl Try.underlying43 u8info _ _ _ _ k rfl rfl rfl rfl (by omega) w.heap.size w (Below.refl _ _) (Nat.le_refl _) ?_; intro g1 w1 hb1 hw1 hw1' hg1 hg1')
    | (with_reducible refine wpList_toString rfl _ 43 9 5 rfl Try.underlying43 Try.underlying9 Try.underlying5 (List.replicate k 0) g1 0 k k rfl (by simp) hb1 ?_)
    | ((with_reducible refine (C1.out _).mono ?_); rintro e w2 ⟨rfl, hw2⟩))
  go_ret
  exact ⟨rfl, Up.next hw1 hw2⟩

theorem byte_size (s : ByteArray) : (s.size : Int) % 256 = (((UInt8.ofNat s.size).toNat : Nat) : Int) := by
  rw [UInt8.toNat_ofNat']; omega
theorem bytes_one (w : World) (e : TypeId) (b : UInt8) : BytesAt (w.alloc (.cells #[.int .u8 (b.toNat : Int)] e)) w.heap.size 0 [b] := by
  have h := RowAt.made w e [.int .u8 (b.toNat : Int)]
  refine ⟨fun j hj => ?_, fun j hj => ?_⟩
  · obtain rfl : j = 0 := by simp at hj; omega
    exact h.cell 0 (by simp)
  · obtain rfl : j = 0 := by simp at hj; omega
    exact h.free 0 (by simp)

set_option maxHeartbeats 400000 in
theorem rec_text (s : ByteArray) (w : World) (hs : s.size ≤ 1099511627776) :
    Calls Try.prog 32 #[.string s] w fun e w' => e = .returned (.string (str (textL s))) ∧ Below w.heap.size w w' := by
  have HR := Lib.hid (show str [UInt8.ofNat s.size] ++ s = str (textL s) by
    have : str [UInt8.ofNat s.size] ++ str (lst s) = str (textL s) := by rw [str_append]; rfl
    rw [str_lst] at this; exact this)
  generalize str (textL s) = R at *
  have hone := fun w e => bytes_one w e (UInt8.ofNat s.size)
  rw [← byte_size] at hone
  have HO := Lib.hid hone; clear hone
  generalize UInt8.ofNat s.size = B at *
  have hu := Up.refl w
  go_enter Try.func32, Try.ntmps32
  have hz : ¬ 9223372036854775807 < (str [B]).size + s.size := by rw [size_str]; simp only [List.length_cons, List.length_nil]; omega
  go_wp2_with (with_reducible refine wpList_toString rfl _ 43 9 5 rfl Try.underlying43 Try.underlying9 Try.underlying5 [B] w.heap.size 0 1 1 rfl (by simp) (HO.out _ _) ?_)
  go_ret
  exact ⟨congrArg _ (congrArg _ HR.out), hu.alloc _⟩
end Go.Proofs.Ytibeeomeafakgaa
