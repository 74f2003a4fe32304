import Derived.Test.YtokpkkjgagbpfaaDsWalkM
namespace Bw
open Go
/-- A slice of ints of the call's own. -/
def IntsRow (w : World) (base : Nat) (e : TypeId) (v : Value) (l : List Int) : Prop := w.ownsRow base e 1 v l.length (l.map (.int .i64 ·))
theorem IntsRow.form {w : World} {base : Nat} {e : TypeId} {v : Value} {l : List Int} (h : IntsRow w base e v l) : ∃ q cap, v = .slice q l.length cap ∧ IntsAt w q l ∧ ∀ a, q = some a → base ≤ a.block ∧ a.block < w.heap.size := by
  have hc := h.2
  rcases hc with ⟨rfl, hn⟩ | ⟨g, cap, cur, rfl, hb, hg, -⟩
  · have e : l = [] := List.length_eq_zero_iff.1 hn
    subst e
    exact ⟨none, 0, rfl, IntsAt.nil _ _, fun a ha => (by cases ha)⟩
  · refine ⟨some ⟨g, 0, none⟩, cap, rfl, fun k hk => ⟨g, 0, rfl, ?_⟩, fun a ha => (by injection ha with ha; subst ha; exact ⟨hb, (Array.getElem?_eq_some_iff.1 hg).1⟩)⟩
    rw [Nat.zero_add, World.ownsRow.cellAt h _ (by omega)]
    simp [hk]
end Bw
namespace Go.Proofs.Ytokpkkjgagbpfaa
set_option maxRecDepth 100000
open Go.RowKit Bw Go.Maps
set_option linter.unusedVariables false

theorem infoI : (Try.prog.info? 3).map (fun i => (i.zero, i.size, i.bytes)) = some (some (.int .i64 0), 1, 8) := by kernel_rfl
theorem own_form1 {w : World} {base : Nat} {e : TypeId} {size : Nat} {v : Value} {n : Nat} {xs : List Value} (h : w.ownsRow base e size v (n + 1) xs) : ∃ b cap, v = .slice (some ⟨b, 0, none⟩) (n + 1) cap := by
  rcases h.2 with ⟨_, h0⟩ | ⟨g, cap, cur, rfl, _⟩
  · omega
  · exact ⟨g, cap, rfl⟩
theorem own_formN {w : World} {base : Nat} {e : TypeId} {size : Nat} {v : Value} {n : Nat} {xs : List Value} (h : w.ownsRow base e size v n xs) : ∃ b cap, v = .slice b n cap := by
  rcases h.2 with ⟨rfl, h0⟩ | ⟨g, cap, cur, rfl, _⟩
  · exact ⟨none, 0, by rw [h0]⟩
  · exact ⟨_, cap, rfl⟩
def DirtyPost (w : World) (l : List Int) (e : Ending) (w' : World) : Prop := ∃ v, e = .returned v ∧ IntsRow w' w.heap.size 3 v l ∧ Below w.heap.size w w'
set_option maxRecDepth 100000 in
set_option maxHeartbeats 1000000 in
theorem disk_Dirty {w : World} {F : Fp} {c : Nat} {d : DiskD} (h : DiskAt w F c d) (hc : c ≤ 1099511627776) :
    Calls Try.prog 35 #[.pointer (some ⟨F.g, 0, none⟩)] w (DirtyPost w d.dirtyD) := by
  obtain ⟨q, cap, x2, hq⟩ := h.head
  obtain ⟨inf, hi0', hz0, hz1, hz2⟩ := info_parts infoI
  have hdl : d.W.length ≤ 1099511627776 := by obtain ⟨v, m, -, -, h3, -⟩ := h.mem; omega
  have HI := Lib.hid (show Try.prog.info? 3 = some inf ∧ inf.zero = _ ∧ inf.size = 1 ∧ inf.bytes = 8 from ⟨hi0', hz0, hz1, hz2⟩)
  clear hi0' hz0 hz1 hz2
  go_enter Try.func35, Try.ntmps35
  go_wp2_with fail
  go_loopw [3, 11] (fun v3 v11 wr => ∃ (k : Nat) (b : Option Addr) (cap' : Nat), k ≤ d.W.length ∧ v3 = .slice b k cap' ∧ v11 = .int .i64 k ∧ wr.ownsRow w.heap.size 3 1 (.slice b k cap') k ((d.W.take k).map (fun x => .int .i64 x.1)) ∧ Up w wr) (fun _ v _ => d.W.length - (intOf v).toNat)
  case atStart => exact ⟨0, none, 0, by omega, rfl, rfl, World.ownsRow_nil _ _ _ _, Up.refl w⟩
  case round =>
    clear x2
    obtain ⟨k, b, cap', hk, rfl, rfl, how, hu⟩ := hrel
    have hD := h.up hu
    by_cases hlt : k < d.W.length
    · have j0 : (0 : Int) ≤ (k : Int) := by omega
      have j1 : (k : Int) < (d.W.length : Int) := by omega
      obtain ⟨bq, hFb, a1, a2⟩ := hD.reads k hlt
      obtain rfl := hq bq hFb
      have hT : (d.W.take (k + 1)).map (fun x : WriteD => Value.int .i64 x.1) = (d.W.take k).map (fun x => Value.int .i64 x.1) ++ [.int .i64 d.W[k].1] := by
        rw [List.take_succ_eq_append_getElem hlt, List.map_append]; rfl
      generalize d.W[k] = x at *
      obtain ⟨x1, x2⟩ := x
      simp only at a1 a2 hT
      have HT := Lib.hid hT; clear hT
      go_upto_region 5 with fail
      have r5 := RowAt.made wr 83 [.int .i64 x1, .string x2]
      clear a1 a2 hD
      replace how := how.alloc (.cells #[.int .i64 x1, .string x2] 83)
      replace hu := hu.alloc (.cells #[.int .i64 x1, .string x2] 83)
      generalize wr.heap.size = g5 at *
      generalize wr.alloc (.cells #[.int .i64 x1, .string x2] 83) = w3 at *
      obtain ⟨y0, y1, -, -⟩ := r5.c2
      have r6 := RowAt.made w3 3 [.int .i64 x1]
      replace how := how.alloc (.cells #[.int .i64 x1] 3)
      have hu3 := hu
      replace hu := hu.alloc (.cells #[.int .i64 x1] 3)
      have hsz := Below.size hu
      obtain ⟨hi0', hz0, hz1, hz2⟩ := HI.out
      go_wp2_with (at_builtin; refine wpList_append_own _ rfl _ _ 37 rfl w.heap.size 3 inf (.int .i64 0) 1 8 (by kernel_rfl) hi0' hz0 hz1 hz2 rfl (by decide) _ _ _ rfl how ⟨w3.heap.size, 0, none⟩ 1 1 [.int .i64 x1] rfl rfl r6.addsAt (fun x hx => by simp at hx; subst hx; rfl) (by unfold maxLen; omega) (by omega) (by omega) ?_; intro v' w5 how' hgrow _; obtain ⟨b5, c5, rfl⟩ := own_form1 how'; rw [← HT.out] at how'; replace hu := Below.grown hu hgrow (Below.size hu) (fun k hk => (how.lt k hk).1))
      exact ⟨⟨k + 1, some ⟨b5, 0, none⟩, c5, by omega, rfl, by go_num, how', hu⟩, by simp [intOf]; omega⟩
    · have j1 : ¬ (k : Int) < (d.W.length : Int) := by omega
      have hT := Lib.hid (show d.W.take k = d.W ∧ k = d.W.length by exact ⟨List.take_of_length_le (by omega), by omega⟩)
      clear hlt hD hk
      go_wp2_with fail
      go_ret
      rw [hT.out.1] at how
      refine ⟨_, rfl, ?_, hu⟩
      unfold IntsRow DiskD.dirtyD
      rw [List.length_map, List.map_map, ← hT.out.2]
      exact how
end Go.Proofs.Ytokpkkjgagbpfaa
