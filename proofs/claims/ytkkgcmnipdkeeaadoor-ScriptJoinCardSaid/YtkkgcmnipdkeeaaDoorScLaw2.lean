/- Layer 24: Cut of the law. -/
import Derived.Test.YtkkgcmnipdkeeaaDoorScLaw1
import Derived.Test.YtkkgcmnipdkeeaaDoorOwnMore
namespace Bw
def cutK (s : ByteArray) : ByteArray := s.extract 0 (min (s.size : Int) 40).toNat
def cutV (s : ByteArray) : ByteArray := s.extract 0 (min (s.size : Int) 60).toNat
def ActD.cut (a : ActD) : ActD := ⟨a.k, a.t, cutK a.key, cutV a.val, a.n, a.f.take 80⟩
theorem IntsAt.cells {w : Go.World} {q : Option Go.Addr} {l : List Int} (h : IntsAt w q l) : ∀ ad i u, q = some ad → (intC l)[i]? = some u → w.cell? (ad.add i) = some u := by
  intro ad i u hq hu
  unfold intC at hu
  rw [List.getElem?_map] at hu
  obtain ⟨x, hx, rfl⟩ := Option.map_eq_some_iff.1 hu
  obtain ⟨hi, rfl⟩ := List.getElem?_eq_some_iff.1 hx
  obtain ⟨g, o, e, hc⟩ := h i hi
  rw [hq] at e
  injection e with e
  subst e
  have hadd : (⟨g, o, none⟩ : Go.Addr).add i = ⟨g, o + i, none⟩ := by unfold Go.Addr.add; split <;> simp_all
  rw [hadd]
  exact hc
end Bw
namespace Go.Proofs.YtkkgcmnipdkeeaaDoor
open Go.RowKit Bw
set_option linter.unusedVariables false
theorem infoInt : ∃ i, Tryd.prog.info? 3 = some i ∧ i.zero = some (.int .i64 0) ∧ i.size = 1 ∧ i.bytes = 8 := by
  refine ⟨_, rfl, ?_, ?_, ?_⟩ <;> kernel_rfl
set_option maxHeartbeats 4000000 in
set_option maxRecDepth 100000 in
theorem law24_Cut (a : ActD) (q : Option Addr) (c : Nat) (w : World) (hA : IntsAt w q a.f) (hl : a.f.length ≤ maxLen) (hc : a.f.length ≤ c) (hcm : c ≤ maxLen) (hq : q = none → c = 0) (hk : a.key.size ≤ maxLen) (hv : a.val.size ≤ maxLen) :
    Calls Tryd.prog 8 #[actV a q c] w fun e w' => ∃ q' c', e = .returned (actV a.cut q' c') ∧ (intsR q' a.cut.f).holds w' ∧ (∀ x, q' = some x → w.heap.size ≤ x.block) ∧ Below w.heap.size w w' := by
  obtain ⟨k, t, key, val, n, f⟩ := a
  simp only [actV, ActD.cut] at *
  have HA := Lib.hid hA
  clear hA
  unfold maxLen at hl hk hv hcm
  obtain ⟨KY, hKY⟩ : ∃ KY, cutK key = KY := ⟨_, rfl⟩
  obtain ⟨VL, hVL⟩ : ∃ VL, cutV val = VL := ⟨_, rfl⟩
  rw [hKY, hVL]
  have HKY := Lib.hid (show key.extract 0 (min (key.size : Int) 40).toNat = KY from hKY)
  have HVL := Lib.hid (show val.extract 0 (min (val.size : Int) 60).toNat = VL from hVL)
  clear hKY hVL
  obtain ⟨inf, hi0', hz0, hz1, hz2⟩ := infoInt
  go_enter Tryd.func8, Tryd.ntmps8
  go_upto_region 1 with fail
  have hD := ((Hold.start w).madeRow (.int .i64 k) [.int .i64 t, .string key, .string val, .int .i64 n, .slice q f.length c] 24).madeRow (.int .i64 0) [.int .i64 0, .string ⟨#[]⟩, .string ⟨#[]⟩, .int .i64 0, .slice none 0 0] 24
  simp only [World.size_alloc, List.nil_append, List.cons_append] at hD
  generalize (w.alloc _).alloc _ = w0 at *
  replace hD : Hold w w0 [rowR w.heap.size (.int .i64 k) [.int .i64 t, .string key, .string val, .int .i64 n, .slice q f.length c], rowR (w.heap.size + 1) (.int .i64 0) [.int .i64 0, .string ⟨#[]⟩, .string ⟨#[]⟩, .int .i64 0, .slice none 0 0]] := hD
  obtain ⟨⟨a0, a1, a2, a3, a4, a5⟩, y0, y1, y2, y3, y4, y5⟩ := RowAt.c6 (hD.get 0 rfl)
  go_upto_region 2 with fail
  rw [HKY.out]
  replace hD := hD.putRow 0 (g := w.heap.size) rfl 2 (.string KY) (.int .i64 k) [.int .i64 t, .string KY, .string val, .int .i64 n, .slice q f.length c] (by simp) rfl
  clear a0 a1 a2 a3 a4 a5 y0 y1 y2 y3 y4 y5
  generalize w0.setCell _ _ = w1 at *
  obtain ⟨⟨a0, a1, a2, a3, a4, a5⟩, y0, y1, y2, y3, y4, y5⟩ := RowAt.c6 (hD.get 0 rfl)
  go_upto_region 3 with fail
  rw [HVL.out]
  replace hD := hD.putRow 0 (g := w.heap.size) rfl 3 (.string VL) (.int .i64 k) [.int .i64 t, .string KY, .string VL, .int .i64 n, .slice q f.length c] (by simp) rfl
  clear a0 a1 a2 a3 a4 a5 y0 y1 y2 y3 y4 y5
  generalize w1.setCell _ _ = w2 at *
  replace hD : Hold w w2 [rowR w.heap.size (.int .i64 k) [.int .i64 t, .string KY, .string VL, .int .i64 n, .slice q f.length c], rowR (w.heap.size + 1) (.int .i64 0) [.int .i64 0, .string ⟨#[]⟩, .string ⟨#[]⟩, .int .i64 0, .slice none 0 0]] := hD
  obtain ⟨m, hm⟩ : ∃ m : Nat, min (f.length : Int) 80 = (m : Int) := ⟨min f.length 80, by omega⟩
  have hm1 : m ≤ f.length := by omega
  have hm2 : m ≤ 80 := by omega
  have HT := Lib.hid (show f.take 80 = f.take m by
    by_cases h : f.length ≤ 80
    · rw [List.take_of_length_le h, List.take_of_length_le (by omega)]
    · have : m = 80 := by omega
      rw [this])
  have hD2 : Hold w (w2.alloc (.cells #[] 3)) [rowR w.heap.size (.int .i64 k) [.int .i64 t, .string KY, .string VL, .int .i64 n, .slice q f.length c], rowR (w.heap.size + 1) (.int .i64 0) [.int .i64 0, .string ⟨#[]⟩, .string ⟨#[]⟩, .int .i64 0, .slice none 0 0], ownZ 3 1 (.slice (some ⟨w2.heap.size, 0, none⟩) 0 0) 0 []] := hD.madeZ 3 1
  clear hD
  have hD := hD2
  clear hD2
  have b1 : (m : Int) ≤ (c : Int) := by omega
  have b0 : (0 : Int) ≤ (m : Int) := by omega
  have HXL := Lib.hid (show (intC (f.take m)).length = m * 1 by rw [intC_length, List.length_take]; omega)
  obtain ⟨⟨a0, a1, a2, a3, a4, a5⟩, y0, y1, y2, y3, y4, y5⟩ := RowAt.c6 (hD.get 0 rfl)
  go_upto_region 4 with ((with_reducible refine wpList_at 27 ?_); refine wpList_appendIn rfl _ _ 22 rfl 3 inf (.int .i64 0) 1 8 (by kernel_rfl) hi0' hz0 hz1 hz2 rfl (by decide) hD 2 0 _ [] rfl rfl q m c (intC (f.take m)) rfl HXL.out (fun h => by have := hq h; omega) ((HA.out.up hD.up).take m).cells (intC_one _) (by unfold maxLen; omega) (by omega) ?_; intro q9 c9 w9 h9 h10 hw; rw [Nat.zero_add, List.nil_append] at hw; clear hD a0 a1 a2 a3 a4 a5 y0 y1 y2 y3 y4 y5; have hD := hw; clear hw; obtain ⟨⟨a0, a1, a2, a3, a4, a5⟩, y0, y1, y2, y3, y4, y5⟩ := RowAt.c6 (hD.get 0 rfl))
  replace hD := hD.putRow 0 (g := w.heap.size) rfl 5 (.slice q9 m c9) (.int .i64 k) [.int .i64 t, .string KY, .string VL, .int .i64 n, .slice q9 m c9] (by simp) rfl
  clear a0 a1 a2 a3 a4 a5 y0 y1 y2 y3 y4 y5
  generalize w9.setCell _ _ = w3 at *
  replace hD : Hold w w3 [rowR w.heap.size (.int .i64 k) [.int .i64 t, .string KY, .string VL, .int .i64 n, .slice q9 m c9], rowR (w.heap.size + 1) (.int .i64 0) [.int .i64 0, .string ⟨#[]⟩, .string ⟨#[]⟩, .int .i64 0, .slice none 0 0], ownZ 3 1 (.slice q9 m c9) m (intC (f.take m))] := hD
  obtain ⟨⟨a0, a1, a2, a3, a4, a5⟩, -⟩ := RowAt.c6 (hD.get 0 rfl)
  obtain ⟨⟨b0, b1', b2, b3, b4, b5⟩, y0, y1, y2, y3, y4, y5⟩ := RowAt.c6 (hD.get 1 rfl)
  have HLN := Lib.hid (show m = (f.take m).length by rw [List.length_take]; omega)
  go_wp2_with fail
  replace hD := hD.put6 1 (g := w.heap.size + 1) rfl (.int .i64 k) (.int .i64 t) (.string KY) (.string VL) (.int .i64 n) (.slice q9 m c9)
  replace hD : Hold w _ [rowR w.heap.size (.int .i64 k) [.int .i64 t, .string KY, .string VL, .int .i64 n, .slice q9 m c9], rowR (w.heap.size + 1) (.int .i64 k) [.int .i64 t, .string KY, .string VL, .int .i64 n, .slice q9 m c9], ownZ 3 1 (.slice q9 m c9) m (intC (f.take m))] := hD
  clear a0 a1 a2 a3 a4 a5 b0 b1' b2 b3 b4 b5 y0 y1 y2 y3 y4 y5
  generalize (((((w3.setCell _ _).setCell _ _).setCell _ _).setCell _ _).setCell _ _).setCell _ _ = w4 at *
  obtain ⟨⟨a0, a1, a2, a3, a4, a5⟩, -⟩ := RowAt.c6 (hD.get 1 rfl)
  obtain ⟨o1, o2, o3, o4⟩ := own_ints (hD.get 2 rfl) HLN.out
  have hnew := fun x (hx : q9 = some x) => hD.new 2 rfl x.block (by subst hx; rfl)
  have hup := hD.up
  refine bodyPost_ret (v := .agg #[.int .i64 k, .int .i64 t, .string KY, .string VL, .int .i64 n, .slice q9 m c9]) (by simp [results, Tryd.results8, go_sem, *]) rfl ⟨q9, c9, ?_, ?_, hnew, hup⟩
  · rw [HT.out, ← HLN.out]
  · rw [HT.out]; exact ⟨o1, o4⟩
end Go.Proofs.YtkkgcmnipdkeeaaDoor
