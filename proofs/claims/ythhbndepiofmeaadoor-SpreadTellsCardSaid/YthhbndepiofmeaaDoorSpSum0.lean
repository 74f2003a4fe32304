/- Slices of leaves of the law's own; the spread of leaves one behind the other. No program in sight. -/
import Derived.Test.YthhbndepiofmeaaDoorSpWalk4
import Derived.Test.YthhbndepiofmeaaDoorHold
namespace Bw
open Go Ieee Go.RowKit
set_option linter.unusedVariables false
def cellsL (l : List LeafZ) : List Value := l.flatMap fun x => [.int .i64 x.1, .int .i64 x.2]
theorem cellsL_append (l m : List LeafZ) : cellsL (l ++ m) = cellsL l ++ cellsL m := by simp [cellsL]
theorem cellsL_length (l : List LeafZ) : (cellsL l).length = l.length * 2 := by induction l with | nil => rfl | cons a l ih => simp [cellsL] at ih ⊢; omega
theorem cellsL_get : ∀ (l : List LeafZ) (i : Nat) (h : i < l.length), (cellsL l)[i * 2]? = some (.int .i64 l[i].1) ∧ (cellsL l)[i * 2 + 1]? = some (.int .i64 l[i].2)
  | a :: l, 0, _ => by simp [cellsL]
  | a :: l, i + 1, h => by
    have ih := cellsL_get l i (by simpa using h)
    have e : cellsL (a :: l) = .int .i64 a.1 :: .int .i64 a.2 :: cellsL l := by simp [cellsL]
    rw [e, show (i + 1) * 2 = i * 2 + 1 + 1 by omega]
    simpa using ih
def rLv (e : TypeId) (v : Value) (l : List LeafZ) : Res := ownZ e 2 v l.length (cellsL l)
theorem leaves_at {e : TypeId} {v : Value} {l : List LeafZ} {w : World} (h : (rLv e v l).holds w) : ∃ q cap, v = .slice q l.length cap ∧ LeavesAt w q l := by
  obtain ⟨q, cap, rfl, -, hc⟩ := ownZ_form h
  refine ⟨q, cap, rfl, fun k hk => ?_⟩
  obtain ⟨b, rfl, -, hc⟩ := hc (by omega)
  refine ⟨b, 0, rfl, ?_, ?_⟩
  · rw [Nat.zero_add, hc _ (by omega)]; exact (cellsL_get l k hk).1
  · rw [Nat.zero_add, hc _ (by omega)]; exact (cellsL_get l k hk).2
/-- What SpreadSum adds up: places, weights, the page ahead, what the last one lacks. -/
abbrev AccZ := Int × Int × Int × Int
def stepA (s : AccZ) (x : LeafZ) : AccZ := (s.1 + oneP s.2.2.1 x.1 x.2 231, s.2.1 + oneW s.2.2.1 x.1 x.2 231, x.1, oneW s.2.2.1 x.1 x.2 231)
def accL (l : List LeafZ) : AccZ := l.foldl stepA (0, 0, -1, 0)
theorem accL_snoc (l : List LeafZ) (x : LeafZ) : accL (l ++ [x]) = stepA (accL l) x := by simp [accL]
theorem ofFrom_acc (n : Nat) : ∀ (l : List LeafZ) (k : Nat) (s : AccZ), (∀ x ∈ l, leafOk 231 x = true) → k + l.length = n → l ≠ [] →
    ofFrom 231 n k (s.1, s.2.1) s.2.2.1 l = some ((l.foldl stepA s).1, if 2 ≤ n then (l.foldl stepA s).2.1 - (l.foldl stepA s).2.2.2 else (l.foldl stepA s).2.1)
  | [], _, _, _, _, h => absurd rfl h
  | [x], k, s, hx, hn, _ => by
    have hn' : k + 1 = n := hn
    simp only [ofFrom, hx x List.mem_cons_self, if_true, List.foldl, stepP, stepA]
    by_cases h2 : 2 ≤ n
    · have : isLast n k = true := by simp [isLast]; omega
      rw [this, if_pos rfl, if_pos h2]
      congr 2
      omega
    · have : isLast n k = false := by simp [isLast]; omega
      rw [this, if_neg h2]
      rfl
  | x :: y :: l, k, s, hx, hn, _ => by
    have hn' : k + (l.length + 2) = n := hn
    have hl : isLast n k = false := by simp [isLast]; omega
    have ih := ofFrom_acc n (y :: l) (k + 1) (stepA s x) (fun z hz => hx z (List.mem_cons_of_mem _ hz)) (by simp; omega) (by simp)
    rw [ofFrom, if_pos (hx x List.mem_cons_self), hl, List.foldl_cons]
    exact ih
theorem of_acc (l : List LeafZ) (hx : ∀ x ∈ l, leafOk 231 x = true) (hn : l.length ≤ 1024) :
    ofZ l 231 = 0 ∧ ofS l 231 = ((accL l).1, if 2 ≤ l.length then (accL l).2.1 - (accL l).2.2.2 else (accL l).2.1) := by
  have h : ofO l 231 = some ((accL l).1, if 2 ≤ l.length then (accL l).2.1 - (accL l).2.2.2 else (accL l).2.1) := by
    rw [ofO, if_pos (by simp [hn, inB])]
    cases l with
    | nil => rfl
    | cons x l => exact ofFrom_acc _ (x :: l) 0 (0, 0, -1, 0) hx (by simp) (by simp)
  exact ⟨by simp [ofZ, h], by simp [ofS, h]⟩
end Bw
namespace Go.Proofs.YthhbndepiofmeaaDoor
open Go.RowKit Bw
theorem sub_complex (a b c d : Int) (hc : 0 ≤ c) (hd : 0 ≤ d) (ha : c ≤ a) (hb : d ≤ b) (h1 : a ≤ 9000000000000000) (h2 : b ≤ 9000000000000000) (w : World) :
    (binOp .sub 25 (.complex .f64 (fltZ a) (fltZ b)) (.complex .f64 (fltZ c) (fltZ d))).run Tryd.prog w = .ok (.complex .f64 (fltZ (a - c)) (fltZ (b - d))) w := by
  refine run_complex_sum w .sub (.inr rfl) 25 .f64 _ _ _ _ _ _ ?_
  have e1 : floatBits .sub .f64 (fltZ a) (fltZ c) = some (fltZ (a - c)) := sub_fltZ a c (by omega) (by omega) ha (by omega) hc
  have e2 : floatBits .sub .f64 (fltZ b) (fltZ d) = some (fltZ (b - d)) := sub_fltZ b d (by omega) (by omega) hb (by omega) hd
  unfold cSumBits
  rw [e1, e2]
  rfl
end Go.Proofs.YthhbndepiofmeaaDoor
