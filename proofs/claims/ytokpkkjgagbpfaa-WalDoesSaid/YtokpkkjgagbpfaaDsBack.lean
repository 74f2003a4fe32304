import Derived.RangeFuncNested
import Derived.RangeFuncBound
import Derived.RangeFuncCalls
import Derived.RangeFuncLeaves
import Derived.Shelf.Abstract
import Derived.Shelf.RegionOpen
import Derived.WalkKit
import Derived.OwnWalkIn
import Derived.TacticsInMore
import Derived.LoopNIn
import Derived.LoopIn
import Derived.Test.YtokpkkjgagbpfaaDsAt
namespace Bw
open Go
/-- The writes from the last one down: k of them, each with its place. -/
def downE (l : List WriteD) (j : Nat) : Int × WriteD := (((l.length - 1 - j : Nat) : Int), l[l.length - 1 - j]?.getD (0, ⟨#[]⟩))
def downW (l : List WriteD) (k : Nat) : List (Int × WriteD) := (List.range k).map (downE l)
theorem downW_succ (l : List WriteD) (k : Nat) : downW l (k + 1) = downW l k ++ [downE l k] := by simp [downW, List.range_succ]
theorem downW_length (l : List WriteD) (k : Nat) : (downW l k).length = k := by simp [downW]
theorem downE_at (l : List WriteD) (i : Nat) (h : i < l.length) : downE l (l.length - (i + 1)) = ((i : Int), l[i]) := by
  unfold downE
  rw [show l.length - 1 - (l.length - (i + 1)) = i by omega, List.getElem?_eq_getElem h]
  rfl
theorem lastW_none : ∀ (W : List WriteD) (p : Int) (s : ByteArray), (∀ w ∈ W, w.1 ≠ p) → lastW W p s = s
  | [], p, s, _ => rfl
  | w :: W, p, s, h => by
    have : lastW (w :: W) p s = lastW W p (if w.1 = p then w.2 else s) := rfl
    rw [this, if_neg (h w List.mem_cons_self)]
    exact lastW_none W p s fun x hx => h x (List.mem_cons_of_mem _ hx)
theorem lastW_at : ∀ (W : List WriteD) (p : Int) (s : ByteArray) (i : Nat) (hi : i < W.length), W[i].1 = p → (∀ j (hj : j < W.length), i < j → W[j].1 ≠ p) → lastW W p s = W[i].2
  | w :: W, p, s, 0, _, h, hn => by
    have e : lastW (w :: W) p s = lastW W p (if w.1 = p then w.2 else s) := rfl
    have h' : w.1 = p := h
    rw [e, if_pos h']
    refine lastW_none W p _ fun x hx => ?_
    obtain ⟨j, hj, rfl⟩ := List.getElem_of_mem hx
    exact hn (j + 1) (by simp; omega) (by omega)
  | w :: W, p, s, i + 1, hi, h, hn => by
    have e : lastW (w :: W) p s = lastW W p (if w.1 = p then w.2 else s) := rfl
    rw [e]
    exact lastW_at W p _ i (by simpa using hi) h fun j hj hij => hn (j + 1) (by simp; omega) (by omega)
theorem down_mem {l : List WriteD} {k i : Nat} (hi : i < l.length) (h : l.length - (i + 1) < k) : ((i : Int), l[i]) ∈ downW l k := by
  rw [← downE_at l i hi]
  simp only [downW, List.mem_map, List.mem_range]
  exact ⟨_, h, rfl⟩
theorem down_none {l : List WriteD} {p : Int} (h : ∀ x ∈ downW l l.length, x.2.1 ≠ p) (s : ByteArray) : lastW l p s = s := by
  refine lastW_none l p s fun w hw => ?_
  obtain ⟨i, hi, rfl⟩ := List.getElem_of_mem hw
  exact h _ (down_mem hi (by omega))
theorem down_at {l : List WriteD} {p : Int} {i : Nat} (hi : i < l.length) (h : ∀ x ∈ downW l (l.length - (i + 1)), x.2.1 ≠ p) (hp : l[i].1 = p) (s : ByteArray) : lastW l p s = l[i].2 :=
  lastW_at l p s i hi hp fun j hj hij => h _ (down_mem hj (by omega))
end Bw
namespace Go.Proofs.Ytokpkkjgagbpfaa
open Go.RowKit Bw Go.Shelf
set_option linter.unusedVariables false
attribute [local go_sem] Oper.semAt_some

set_option maxRecDepth 100000 in
set_option maxHeartbeats 2000000 in
theorem back1_in (F : Fence) (n : Nat) (h7 : F.fn 77) (hro : F.round = none) (hn : 1 ≤ n) (L Bs n₀ b cap : Nat) (l : List WriteD) (hreach : l.length ≤ 1099511627776) (hb : b < n₀) (J Jx : List (Int × WriteD) → World → Prop)
    (hY : ∀ pre x W, J pre W → pre.length < l.length → YieldAt F (n - 1) Try.prog L #[.int .i64 x.1, .agg #[.int .i64 x.2.1, .string x.2.2]] W fun e W' =>
      (e = .returned (.bool true) ∧ J (pre ++ [x]) W' ∧ Below n₀ W W') ∨ (e = .returned (.bool false) ∧ Jx (pre ++ [x]) W'))
    (W : World) (hBs : W.cell? ⟨Bs, 0, none⟩ = some (.slice (some ⟨b, 0, none⟩) l.length cap)) (hBn : Bs < n₀)
    (hc : ∀ i (hi : i < l.length), W.cell? ⟨b, i * 2, none⟩ = some (.int .i64 l[i].1) ∧ W.cell? ⟨b, i * 2 + 1, none⟩ = some (.string l[i].2)) (h0 : J [] W) :
    CallsIn F n Try.prog 77 #[.func (.yield L) #[] #[], .pointer (some ⟨Bs, 0, none⟩)] W fun e W' => (∃ v, e = .returned v) ∧
      ((∃ ys, ys = downW l l.length ∧ J ys W') ∨ (∃ pre, (∃ k, k ≤ l.length ∧ pre = downW l k) ∧ Jx pre W')) := by
  refine callsIn_of_wp Try.func77 rfl h7 ?_ hro
  simp only [Try.ntmps77, List.size_toArray, List.length_cons, List.length_nil, Nat.reduceAdd, Nat.reduceSub, Array.replicate_succ, Array.replicate_zero, List.push_toArray, List.append_toArray, List.nil_append, List.cons_append]
  have hBs0 := Lib.hid hBs
  gi_wp2
  gi_loopw [3] (fun i wr => ∃ r : Nat, r ≤ l.length ∧ i = .int .i64 ((r : Int) - 1) ∧ J (downW l (l.length - r)) wr ∧ Below n₀ W wr)
    (fun i _ => (intOf i + 1).toNat)
  case atStart => exact ⟨l.length, Nat.le_refl _, by go_num, by rw [Nat.sub_self]; exact h0, Below.refl _ _⟩
  case round =>
    clear hBs
    obtain ⟨r, hr, rfl, hJs, hnx⟩ := hrel
    have hBs : wr.cell? ⟨Bs, 0, none⟩ = some (.slice (some ⟨b, 0, none⟩) l.length cap) := (hnx.cell (p := ⟨Bs, 0, none⟩) hBn).trans hBs0.out
    cases r with
    | succ i =>
      have hi : i < l.length := by omega
      obtain ⟨fn, tmps, assign, body, hy, hR⟩ := hY _ (downE l (l.length - (i + 1))) wr hJs (by rw [downW_length]; omega)
      rw [← downW_succ, show l.length - (i + 1) + 1 = l.length - i by omega] at hR
      rw [downE_at l i hi] at hy
      dsimp only at hy
      obtain ⟨a1, a2⟩ := hc i hi
      replace a1 := (hnx.cell (p := ⟨b, i * 2, none⟩) hb).trans a1
      replace a2 := (hnx.cell (p := ⟨b, i * 2 + 1, none⟩) hb).trans a2
      rw [show ((i + 1 : Nat) : Int) - 1 = (i : Int) by omega]
      have j0 : (0 : Int) ≤ (i : Int) := by omega
      have j1 : (i : Int) < (l.length : Int) := by omega
      generalize l[i] = x at *
      gi_wp2
      refine hR.mono ?_
      rintro e W3 (⟨rfl, hJ3, hk3⟩ | ⟨rfl, hJx3⟩)
      · gi_wp2
        go_roundw
        case rel => exact ⟨i, by omega, by go_num, hJ3, hnx.trans hk3⟩
        case measure => first | (simp [intOf]; done) | (simp [intOf]; omega)
      · gi_wp2
        refine bodyPost_ret (results_none rfl _ _ _) rfl ?_
        exact ⟨⟨_, rfl⟩, .inr ⟨_, ⟨l.length - i, by omega, rfl⟩, hJx3⟩⟩
    | zero =>
      rw [show ((0 : Nat) : Int) - 1 = -1 from rfl]
      gi_wp2
      go_end0
      exact ⟨⟨_, rfl⟩, .inl ⟨_, rfl, by rw [Nat.sub_zero] at hJs; exact hJs⟩⟩

set_option maxRecDepth 100000 in
set_option maxHeartbeats 1000000 in
theorem back1_nil_in (F : Fence) (n : Nat) (h7 : F.fn 77) (hro : F.round = none) (L Bs : Nat) (J : List (Int × WriteD) → World → Prop) (W : World) (hBs : W.cell? ⟨Bs, 0, none⟩ = some (.slice none 0 0)) (h0 : J [] W) :
    CallsIn F n Try.prog 77 #[.func (.yield L) #[] #[], .pointer (some ⟨Bs, 0, none⟩)] W fun e W' => (∃ v, e = .returned v) ∧ J [] W' := by
  refine callsIn_of_wp Try.func77 rfl h7 ?_ hro
  simp only [Try.ntmps77, List.size_toArray, List.length_cons, List.length_nil, Nat.reduceAdd, Nat.reduceSub, Array.replicate_succ, Array.replicate_zero, List.push_toArray, List.append_toArray, List.nil_append, List.cons_append]
  gi_wp2
  gi_loopw [3] (fun i wr => i = .int .i64 (-1) ∧ J [] wr) (fun _ _ => 0)
  case atStart => exact ⟨rfl, h0⟩
  case round =>
    obtain ⟨rfl, hJs⟩ := hrel
    gi_wp2
    go_end0
    exact ⟨⟨_, rfl⟩, hJs⟩
set_option maxRecDepth 100000 in
set_option maxHeartbeats 1000000 in
theorem back_in (F : Fence) (n : Nat) (h5 : F.fn 58) (hro : F.round = none) (a : Option Addr) (len cap : Nat) (w : World) :
    CallsIn F n Try.prog 58 #[.slice a len cap] w fun e w' => e = .returned (.func (.func 77) #[] #[.pointer (some ⟨w.heap.size, 0, none⟩)]) ∧ w' = w.alloc (.cells #[.slice a len cap] 59) := by
  refine callsIn_of_wp Try.func58 rfl h5 ?_ hro
  simp only [Try.ntmps58, List.size_toArray, List.length_cons, List.length_nil, Nat.reduceAdd, Nat.reduceSub, Array.replicate_succ, Array.replicate_zero, List.push_toArray, List.append_toArray, List.nil_append, List.cons_append]
  gi_wp2
  go_ret
  exact ⟨rfl, rfl⟩
theorem back_stops (F : Fence) (n : Nat) (h7 : F.fn 77) (hro : F.round = none) (hn : 1 ≤ n) (Bs : Nat) (q : Option Addr) (cap : Nat) (l : List WriteD) (hreach : l.length ≤ 1099511627776) (w : World)
    (hc : w.cell? ⟨Bs, 0, none⟩ = some (.slice q l.length cap)) (hq0 : q = none → l = [] ∧ cap = 0)
    (hI : ∀ i (hi : i < l.length), ∃ b, q = some ⟨b, 0, none⟩ ∧ b < w.heap.size ∧ w.cell? ⟨b, i * 2, none⟩ = some (.int .i64 l[i].1) ∧ w.cell? ⟨b, i * 2 + 1, none⟩ = some (.string l[i].2)) (hq1 : ∀ a, q = some a → ∃ b, a = ⟨b, 0, none⟩ ∧ b < w.heap.size) :
    SeqStopsK F n Try.prog 77 #[.pointer (some ⟨Bs, 0, none⟩)] (fun x : Int × WriteD => #[Value.int .i64 x.1, .agg #[.int .i64 x.2.1, .string x.2.2]]) (Below w.heap.size) (fun ys => ys = downW l l.length)
      (fun pre => ∃ k, k ≤ l.length ∧ pre = downW l k) l.length w := fun L J Jx W hW _ _ hY h0 => by
  have hBs : Bs < w.heap.size := World.block_lt_of_cell? w ⟨Bs, 0, none⟩ hc
  have hc' := (hW.cell (p := ⟨Bs, 0, none⟩) hBs).trans hc
  cases q with
  | none =>
    obtain ⟨rfl, rfl⟩ := hq0 rfl
    exact (back1_nil_in F n h7 hro L Bs J W hc' h0).mono fun e W' ⟨he, hj⟩ => ⟨he, .inl ⟨_, rfl, hj⟩⟩
  | some a =>
    obtain ⟨b, rfl, hb⟩ := hq1 a rfl
    refine back1_in F n h7 hro hn L Bs w.heap.size b cap l hreach hb J Jx hY W hc' hBs (fun i hi => ?_) h0
    obtain ⟨b', e, -, a1, a2⟩ := hI i hi
    injection e with e
    injection e with e _ _
    subst e
    exact ⟨(hW.cell (p := ⟨b, i * 2, none⟩) hb).trans a1, (hW.cell (p := ⟨b, i * 2 + 1, none⟩) hb).trans a2⟩
end Go.Proofs.Ytokpkkjgagbpfaa
