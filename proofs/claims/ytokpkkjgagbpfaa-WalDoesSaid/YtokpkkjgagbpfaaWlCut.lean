/- Layer 6's law: Cut. -/
import Derived.Test.YtokpkkjgagbpfaaWlSure
namespace Bw
open Go Go.RowKit
set_option linter.unusedVariables false
/-- The cells of a call that was cut. -/
def opC (f : OpD) (p : Option Addr) (c : Nat) : List Value := [.int .i64 f.k, .string (cutB 700 f.s), .slice p (min f.f.length 60) c]
def opsC (f : Nat → OpD) (pa : Nat → Option Addr) (ca : Nat → Nat) : Nat → List Value
  | 0 => []
  | k + 1 => opsC f pa ca k ++ opC (f k) (pa k) (ca k)
theorem opsC_len (f : Nat → OpD) (pa : Nat → Option Addr) (ca : Nat → Nat) : ∀ k, (opsC f pa ca k).length = k * 3
  | 0 => rfl
  | k + 1 => by
    show (opsC f pa ca k ++ opC (f k) (pa k) (ca k)).length = _
    rw [List.length_append, opsC_len f pa ca k]
    show k * 3 + 3 = _
    omega
theorem opsC_get (f : Nat → OpD) (pa : Nat → Option Addr) (ca : Nat → Nat) (i j : Nat) (hj : j < 3) : ∀ k, i < k → (opsC f pa ca k)[i * 3 + j]? = (opC (f i) (pa i) (ca i))[j]?
  | 0, h => by omega
  | k + 1, h => by
    show (opsC f pa ca k ++ opC (f k) (pa k) (ca k))[i * 3 + j]? = _
    have hl := opsC_len f pa ca k
    by_cases e : i = k
    · subst e
      rw [List.getElem?_append_right (by omega), hl]
      congr 1
      omega
    · rw [List.getElem?_append_left (by omega), opsC_get f pa ca i j hj k (by omega)]
end Bw
namespace Go.Proofs.Ytokpkkjgagbpfaa
open Go.RowKit Bw
set_option linter.unusedVariables false
set_option maxRecDepth 100000
theorem infoOp6 : ∃ i, Try.prog.info? 39 = some i ∧ i.zero = some (.agg #[.int .i64 0, .string ⟨#[]⟩, .slice none 0 0]) ∧ i.size = 3 ∧ i.bytes = 48 := info_parts (by kernel_rfl)
/-- The calls, cut, in new memory. -/
def CutPost (w : World) (m : Nat) (f : Nat → OpD) (pa : Nat → Option Addr) (ca : Nat → Nat) (e : Ending) (w' : World) : Prop := ∃ b c, e = .returned (.slice (some ⟨b, 0, none⟩) m c) ∧ Hold w w' [ownZ 39 3 (.slice (some ⟨b, 0, none⟩) m c) m (opsC f pa ca m)]
set_option maxHeartbeats 2000000 in
theorem law6_Cut {w : World} (a : Option Addr) (n c0 : Nat) (f : Nat → OpD) (pa : Nat → Option Addr) (ca : Nat → Nat) (hn : n ≤ 9223372036854775807) (hO : OpsAt w a n f pa ca) :
    Calls Try.prog 9 #[.slice a n c0] w (CutPost w (min n 40) f pa ca) := by
  obtain ⟨inf, hi0', hz0, hz1, hz2⟩ := infoOp6
  have HO := Lib.hid hO
  clear hO
  have hD := (Hold.start w).madeZ 39 3
  go_enter Try.func9, Try.ntmps9
  go_wp2_with fail
  generalize w.heap.size = g0 at *
  generalize w.alloc _ = w0 at *
  go_loopw [3, 4] (fun v3 v4 wr => ∃ (k b cc : Nat), v3 = .slice (some ⟨b, 0, none⟩) k cc ∧ v4 = .int .i64 (k : Int) ∧ k ≤ n ∧ k ≤ 40 ∧ Hold w wr [ownZ 39 3 (.slice (some ⟨b, 0, none⟩) k cc) k (opsC f pa ca k)]) (fun _ v _ => n - (intOf v).toNat)
  case atStart => exact ⟨0, g0, 0, rfl, rfl, by omega, by omega, hD⟩
  case round =>
  clear hD
  obtain ⟨k, b, cc, rfl, rfl, hk, hk40, hD⟩ := hrel
  by_cases hkn : k < n ∧ k < 40
  · obtain ⟨hk1, hk2⟩ := hkn
    have j0 : (0 : Int) ≤ (k : Int) := by omega
    have j1 : (k : Int) < (n : Int) := by omega
    have j2 : (k : Int) < 40 := by omega
    obtain ⟨⟨-, hsz, hfc, hfl, -⟩, go, oo, rfl, c1, c2, c3⟩ := (HO.out.up hD.up) k hk1
    have hN := Lib.hid (show opsC f pa ca (k + 1) = opsC f pa ca k ++ opC (f k) (pa k) (ca k) from rfl)
    generalize pa k = P at *
    generalize ca k = C at *
    generalize f k = F at *
    obtain ⟨Fk, Fs, Ff⟩ := F
    simp only at hsz hfc hfl c1 c2 c3
    unfold maxLen at hsz hfl
    have HX := Lib.hid (show Fs.extract 0 (min (Fs.size : Int) 700).toNat = cutB 700 Fs from cutB_min 700 Fs)
    have m0' : (0 : Int) ≤ min (Fs.size : Int) 700 := by omega
    have m1' : min (Fs.size : Int) 700 ≤ (Fs.size : Int) := by omega
    obtain ⟨M, hM⟩ : ∃ M, min Ff.length 60 = M := ⟨_, rfl⟩
    have hMI : min (Ff.length : Int) 60 = (M : Int) := by omega
    have HMI := Lib.hid hMI
    have hsl := fun w => slice_ints P Ff.length C M (by omega) w
    have HC := Lib.hid (show opC ⟨Fk, Fs, Ff⟩ P C = [.int .i64 Fk, .string (cutB 700 Fs), .slice P M C] by unfold opC; rw [hM])
    generalize cutB 700 Fs = X at *
    generalize Ff.length = fl at *
    clear hM hMI
    go_upto_region 6 with fail
    replace hD := hD.madeRow (.int .i64 Fk) [.string Fs, .slice P fl C] 39
    generalize wr.heap.size = g5 at *
    generalize wr.alloc _ = w5 at *
    clear c1 c2 c3
    obtain ⟨x0, x1, x2, y0, y1, y2⟩ := RowAt.c3 (hD.get 1 rfl)
    go_upto_region 7 with fail
    rw [HX.out]
    replace hD := hD.putRow 1 (g := g5) rfl 1 (.string X) (.int .i64 Fk) [.string X, .slice P fl C] (by simp) rfl
    clear x0 x1 x2 y0 y1 y2 m0' m1'
    generalize World.setCell _ _ _ = w6 at *
    obtain ⟨x0, x1, x2, y0, y1, y2⟩ := RowAt.c3 (hD.get 1 rfl)
    have hMI := HMI.out
    go_upto_region 8 with fail
    replace hD := hD.putRow 1 (g := g5) rfl 2 (.slice P M C) (.int .i64 Fk) [.string X, .slice P M C] (by simp) rfl
    clear x0 x1 x2 y0 y1 y2 hMI hsl
    generalize World.setCell _ _ _ = w7 at *
    replace hD : Hold w w7 [ownZ 39 3 (.slice (some ⟨b, 0, none⟩) k cc) k (opsC f pa ca k), rowR g5 (.int .i64 Fk) [.string X, .slice P M C]] := hD
    obtain ⟨x0, x1, x2, y0, y1, y2⟩ := RowAt.c3 (hD.get 1 rfl)
    go_wp2_with ((with_reducible refine wpList_at 40 ?_); have hF := hD.madeRow (.int .i64 Fk) [.string X, .slice P M C] 39; have r7 : RowAt _ w7.heap.size [.int .i64 Fk, .string X, .slice P M C] := hF.get (R := rowR w7.heap.size (.int .i64 Fk) [.string X, .slice P M C]) 2 rfl; refine wpList_appendZ rfl _ _ 22 rfl 39 inf (.agg #[.int .i64 0, .string ⟨#[]⟩, .slice none 0 0]) 3 48 (by kernel_rfl) hi0' hz0 hz1 hz2 rfl (by decide) hF 0 _ (opsC f pa ca k) k rfl rfl ⟨w7.heap.size, 0, none⟩ 1 [.int .i64 Fk, .string X, .slice P M C] rfl rfl r7.addsAt (fun u hu => by simp at hu; rcases hu with rfl | rfl | rfl <;> rfl) (by unfold maxLen; omega) (by omega) ?_; intro b9 c9 w9 hw; clear hF r7 hD)
    have hG : Hold w w9 [ownZ 39 3 (.slice (some ⟨b9, 0, none⟩) (k + 1) c9) (k + 1) (opsC f pa ca k ++ [.int .i64 Fk, .string X, .slice P M C])] := hw.sub (.cons_cons _ (List.nil_sublist _))
    rw [← HC.out, ← hN.out] at hG
    exact ⟨⟨k + 1, b9, c9, rfl, rfl, by omega, by omega, hG⟩, by simp [intOf]; omega⟩
  · have hkm : min n 40 = k := by omega
    rcases Nat.lt_or_ge k n with hlt | hge
    · have j1 : (k : Int) < (n : Int) := by omega
      have j2 : ¬ (k : Int) < 40 := by omega
      have hE : Hold w wr [ownZ 39 3 (.slice (some ⟨b, 0, none⟩) k cc) k (opsC f pa ca k)] := hD
      have HE := Lib.hid hE
      clear hD hE
      go_wp2_with fail
      go_ret
      refine ⟨b, cc, ?_, ?_⟩
      · first | rfl | (rw [hkm]; rfl)
      · first | exact HE.out | (rw [hkm]; exact HE.out)
    · have j1 : ¬ (k : Int) < (n : Int) := by omega
      have hE : Hold w wr [ownZ 39 3 (.slice (some ⟨b, 0, none⟩) k cc) k (opsC f pa ca k)] := hD
      have HE := Lib.hid hE
      clear hD hE
      go_wp2_with fail
      go_ret
      refine ⟨b, cc, ?_, ?_⟩
      · first | rfl | (rw [hkm]; rfl)
      · first | exact HE.out | (rw [hkm]; exact HE.out)
end Go.Proofs.Ytokpkkjgagbpfaa
