import Derived.Test.YtiekjjejoekdeaaRfAt
import Derived.Test.YtiekjjejoekdeaaDsPure2
import Derived.Test.YtiekjjejoekdeaaDsDirty
namespace Bw
theorem lastW_step (L : List WriteD) (p : Int) (s : ByteArray) (k : Nat) (h : k < L.length) : lastW (L.take (k + 1)) p s = if L[k].1 = p then L[k].2 else lastW (L.take k) p s := by
  rw [List.take_succ_eq_append_getElem h, lastW_append]
  rfl
end Bw
namespace Go.Proofs.Ytiekjjejoekdeaa
open Go.RowKit Bw
set_option linter.unusedVariables false
variable {W w : World} {X : Res} {T : List Res} {g : Nat} {vL vW : Value} {d : DiskD}
theorem ref4_Raw_no (h : Hold W w (refs X g vL vW d T)) (hok : d.Ok) (hl : d.W.length ≤ 1000) (p : Int) (hp : ¬ (0 ≤ p ∧ p < d.n)) :
    Calls Try.prog 23 #[.pointer (some ⟨g, 0, none⟩), .int .i64 p] w fun e w' => e = .returned (.string ⟨#[]⟩) ∧ w' = w := by
  obtain ⟨x0, x1, -, -⟩ := refs_row h
  obtain ⟨b, cap, rfl, hc⟩ := refs_L h (by have := hok.n1; omega)
  have hn := hok.n1
  clear h hc
  by_cases h0 : p < 0
  · clear hp
    go_enter Try.func23, Try.ntmps23
    go_wp2_with fail
    go_ret
    exact ⟨rfl, rfl⟩
  · have h1 : (d.n : Int) ≤ p := by omega
    have h2 : 0 ≤ p := by omega
    clear hp h0
    go_enter Try.func23, Try.ntmps23
    go_wp2_with fail
    go_ret
    exact ⟨rfl, rfl⟩
set_option maxHeartbeats 1000000 in
theorem ref4_Raw_yes (h : Hold W w (refs X g vL vW d T)) (hok : d.Ok) (hl : d.W.length ≤ 1000) (p : Nat) (hp : p < d.n) :
    Calls Try.prog 23 #[.pointer (some ⟨g, 0, none⟩), .int .i64 p] w fun e w' => e = .returned (.string (lastW d.W p (d.K p))) ∧ w' = w := by
  obtain ⟨x0, x1, -, -⟩ := refs_row h
  obtain ⟨b, cap, rfl, hc⟩ := refs_L h (by have := hok.n1; omega)
  obtain ⟨qw, cw, rfl, hw⟩ := refs_W h
  have y0 := hc p hp
  have h2 : (0 : Int) ≤ (p : Int) := by omega
  have h1 : (p : Int) < (d.n : Int) := by omega
  clear h hc
  have HW := Lib.hid hw
  clear hw hok
  go_enter Try.func23, Try.ntmps23
  go_wp2_with fail
  go_loopw [5, 6] (fun v5 v6 wr => ∃ k : Nat, k ≤ d.W.length ∧ v5 = .string (lastW (d.W.take k) p (d.K p)) ∧ v6 = .int .i64 k ∧ wr = w) (fun _ v _ => d.W.length - (intOf v).toNat)
  case atStart => exact ⟨0, by omega, rfl, rfl, rfl⟩
  case round =>
  obtain ⟨k, hk, rfl, rfl, rfl⟩ := hrel
  clear y0
  by_cases hlt : k < d.W.length
  · have j0 : (0 : Int) ≤ (k : Int) := by omega
    have j1 : (k : Int) < (d.W.length : Int) := by omega
    obtain ⟨bw, rfl, c0, c1⟩ := HW.out k hlt
    have hs := lastW_step d.W p (d.K p) k hlt
    by_cases he : d.W[k].1 = (p : Int)
    · rw [if_pos he] at hs
      have e1 : (d.W[k].1 == (p : Int)) = true := by rw [he]; exact beq_self_eq_true _
      clear he
      have HS := Lib.hid hs
      clear hs
      generalize d.W[k] = x at *
      obtain ⟨xp, xs⟩ := x
      simp only at c0 c1 e1 HS
      go_wp2_with fail
      exact ⟨⟨k + 1, by omega, by rw [HS.out], by go_num, trivial⟩, by simp [intOf]; omega⟩
    · rw [if_neg he] at hs
      have e1 : (d.W[k].1 == (p : Int)) = false := beq_eq_false_iff_ne.2 he
      clear he
      have HS := Lib.hid hs
      clear hs
      generalize d.W[k] = x at *
      obtain ⟨xp, xs⟩ := x
      simp only at c0 c1 e1 HS
      go_wp2_with fail
      exact ⟨⟨k + 1, by omega, by rw [HS.out], by go_num, trivial⟩, by simp [intOf]; omega⟩
  · have j1 : ¬ (k : Int) < (d.W.length : Int) := by omega
    have HT := Lib.hid (show d.W.take k = d.W from List.take_of_length_le (by omega))
    clear hlt
    go_wp2_with fail
    go_ret
    exact ⟨by rw [HT.out]; rfl, rfl⟩
theorem ref4_Raw (h : Hold W w (refs X g vL vW d T)) (hok : d.Ok) (hl : d.W.length ≤ 1000) (p : Int) :
    Calls Try.prog 23 #[.pointer (some ⟨g, 0, none⟩), .int .i64 p] w fun e w' => e = .returned (.string (d.rawD p)) ∧ w' = w := by
  by_cases hp : 0 ≤ p ∧ p < d.n
  · have hb : d.hasB p = true := hasB_iff.2 hp
    obtain ⟨m, rfl⟩ := Int.eq_ofNat_of_zero_le hp.1
    rw [DiskD.rawD, if_pos hb]
    exact ref4_Raw_yes h hok hl m (by have := hp.2; omega)
  · have hb : d.hasB p = false := by
      cases hh : d.hasB p
      · rfl
      · exact absurd (hasB_iff.1 hh) hp
    rw [DiskD.rawD, hb]
    exact ref4_Raw_no h hok hl p hp
theorem ref4_Read_no (h : Hold W w (refs X g vL vW d T)) (hok : d.Ok) (hl : d.W.length ≤ 1000) (p : Int) (hp : ¬ (0 ≤ p ∧ p < d.n)) :
    Calls Try.prog 21 #[.pointer (some ⟨g, 0, none⟩), .int .i64 p] w fun e w' => e = .returned (.tuple #[.string ⟨#[]⟩, .int .i64 1]) ∧ Below w.heap.size w w' := by
  obtain ⟨x0, x1, -, -⟩ := refs_row h
  obtain ⟨b, cap, rfl, hc⟩ := refs_L h (by have := hok.n1; omega)
  have hn := hok.n1
  clear h hc
  by_cases h0 : p < 0
  · clear hp
    go_enter Try.func21, Try.ntmps21
    go_wp2_with fail
    go_ret2
    exact ⟨rfl, Below.refl _ _⟩
  · have h1 : (d.n : Int) ≤ p := by omega
    have h2 : 0 ≤ p := by omega
    clear hp h0
    go_enter Try.func21, Try.ntmps21
    go_wp2_with fail
    go_ret2
    exact ⟨rfl, Below.refl _ _⟩
theorem ref4_Read (h : Hold W w (refs X g vL vW d T)) (hok : d.Ok) (hl : d.W.length ≤ 1000) (p : Int) :
    Calls Try.prog 21 #[.pointer (some ⟨g, 0, none⟩), .int .i64 p] w fun e w' => e = .returned (.tuple #[.string (d.readS p), .int .i64 (d.readE p)]) ∧ Below w.heap.size w w' := by
  by_cases hp : 0 ≤ p ∧ p < d.n
  · have hb : d.hasB p = true := hasB_iff.2 hp
    have C1 := Lib.hid (ref4_Raw h hok hl p)
    have C2 := Lib.hid (fun w => ref2_Open (d.rawD p) w (by have := rawD_size hok p; omega))
    have HS := Lib.hid (show d.readS p = openS (d.rawD p) ∧ d.readE p = openE (d.rawD p) by rw [DiskD.readS, DiskD.readE, if_pos hb, if_pos hb]; exact ⟨rfl, rfl⟩)
    obtain ⟨x0, x1, -, -⟩ := refs_row h
    obtain ⟨b, cap, rfl, hc⟩ := refs_L h (by have := hok.n1; omega)
    have hu := Up.refl w
    have h0 : ¬ p < 0 := by omega
    have h1 : ¬ (d.n : Int) ≤ p := by omega
    have h2 : p < (d.n : Int) := by omega
    clear h hc hok hb hp
    rw [HS.out.1, HS.out.2]
    clear HS
    generalize openS (d.rawD p) = S at *
    generalize openE (d.rawD p) = E at *
    generalize d.rawD p = R at *
    go_enter Try.func21, Try.ntmps21
    go_wp2_with (first
      | ((with_reducible refine C1.out.mono ?_); rintro e w1 ⟨rfl, rfl⟩)
      | ((with_reducible refine (C2.out _).mono ?_); rintro e w2 ⟨rfl, hB⟩; replace hu := hu.next hB; clear hB))
    go_ret2
    exact ⟨rfl, hu⟩
  · have hb : d.hasB p = false := by
      cases hh : d.hasB p
      · rfl
      · exact absurd (hasB_iff.1 hh) hp
    rw [DiskD.readS, DiskD.readE, hb]
    exact ref4_Read_no h hok hl p hp
end Go.Proofs.Ytiekjjejoekdeaa
namespace Go.Proofs.Ytiekjjejoekdeaa
open Go.RowKit Bw
set_option linter.unusedVariables false
variable {W w : World} {X : Res} {T : List Res} {g : Nat} {vL vW : Value} {d : DiskD}
theorem infoRS : (Try.prog.info? 9).map (fun i => (i.zero, i.size, i.bytes)) = some (some (.string ⟨#[]⟩), 1, 16) := by kernel_rfl
theorem infoRW : (Try.prog.info? 68).map (fun i => (i.zero, i.size, i.bytes)) = some (some (.agg #[.int .i64 0, .string ⟨#[]⟩]), 2, 24) := by kernel_rfl
set_option maxHeartbeats 1000000 in
theorem ref4_Dirty (h : Hold W w (refs X g vL vW d T)) (hok : d.Ok) (hl : d.W.length ≤ 1000) :
    Calls Try.prog 18 #[.pointer (some ⟨g, 0, none⟩)] w fun e w' => ∃ v cap, e = .returned (.slice v d.dirtyD.length cap) ∧ IntsAt w' v d.dirtyD ∧ Below w.heap.size w w' := by
  obtain ⟨qw, cw, rfl, -⟩ := refs_W h
  obtain ⟨inf, hi0', hz0, hz1, hz2⟩ := info_parts infoI
  have HI := Lib.hid (show Try.prog.info? 3 = some inf ∧ inf.zero = _ ∧ inf.size = 1 ∧ inf.bytes = 8 from ⟨hi0', hz0, hz1, hz2⟩)
  clear hi0' hz0 hz1 hz2
  go_enter Try.func18, Try.ntmps18
  go_upto_region 2 with fail
  have how := World.ownsRow_made (base := w.heap.size) (e := 3) (size := 1) w #[] 0 (Nat.le_refl _) (by decide) (by rfl)
  have hu := (Up.refl w).alloc (.cells #[] 3)
  have hD := h.next hu
  generalize hw0 : w.alloc (.cells #[] 3) = w0 at *
  go_wp2_with fail
  go_loopw [3, 4] (fun v3 v4 wr => ∃ (k : Nat) (b : Option Addr) (cap' : Nat), k ≤ d.W.length ∧ v3 = .slice b k cap' ∧ v4 = .int .i64 k ∧ wr.ownsRow w.heap.size 3 1 (.slice b k cap') k ((d.W.take k).map (fun x => .int .i64 x.1)) ∧ Up w wr) (fun _ v _ => d.W.length - (intOf v).toNat)
  case atStart => exact ⟨0, _, _, by omega, rfl, rfl, how, hu⟩
  case round =>
    clear how hu hD hw0
    obtain ⟨k, b, cap', hk, rfl, rfl, how, hu⟩ := hrel
    have hD := h.next hu
    obtain ⟨x0, x1, -, -⟩ := refs_row hD
    by_cases hlt : k < d.W.length
    · have j0 : (0 : Int) ≤ (k : Int) := by omega
      have j1 : (k : Int) < (d.W.length : Int) := by omega
      obtain ⟨q', c', hv, hc⟩ := refs_W hD
      injection hv with hv _ _
      subst hv
      obtain ⟨bq, rfl, a1, a2⟩ := hc k hlt
      have hT : (d.W.take (k + 1)).map (fun x : WriteD => Value.int .i64 x.1) = (d.W.take k).map (fun x => Value.int .i64 x.1) ++ [.int .i64 d.W[k].1] := by
        rw [List.take_succ_eq_append_getElem hlt, List.map_append]; rfl
      clear hc
      generalize d.W[k] = x at *
      obtain ⟨x1', x2⟩ := x
      simp only at a1 a2 hT
      have HT := Lib.hid hT; clear hT
      have r6 := RowAt.made wr 3 [.int .i64 x1']
      replace how := how.alloc (.cells #[.int .i64 x1'] 3)
      have hu3 := hu
      replace hu := hu.alloc (.cells #[.int .i64 x1'] 3)
      have hsz := Below.size hu
      obtain ⟨hi0', hz0, hz1, hz2⟩ := HI.out
      go_wp2_with (at_builtin; refine wpList_append_own _ rfl _ _ 30 rfl w.heap.size 3 inf (.int .i64 0) 1 8 (by kernel_rfl) hi0' hz0 hz1 hz2 rfl (by decide) _ _ _ rfl how ⟨wr.heap.size, 0, none⟩ 1 1 [.int .i64 x1'] rfl rfl r6.addsAt (fun x hx => by simp at hx; subst hx; rfl) (by unfold maxLen; omega) (by omega) (by omega) ?_; intro v' w5 how' hgrow _; obtain ⟨b5, c5, rfl⟩ := own_form1 how'; rw [← HT.out] at how'; replace hu := Below.grown hu hgrow (Below.size hu) (fun k hk => (how.lt k hk).1))
      exact ⟨⟨k + 1, some ⟨b5, 0, none⟩, c5, by omega, rfl, by go_num, how', hu⟩, by simp [intOf]; omega⟩
    · have j1 : ¬ (k : Int) < (d.W.length : Int) := by omega
      have hT := Lib.hid (show d.W.take k = d.W ∧ k = d.W.length by exact ⟨List.take_of_length_le (by omega), by omega⟩)
      clear hlt hD hk
      go_wp2_with fail
      go_ret
      have hR : IntsRow wr w.heap.size 3 (.slice b k cap') d.dirtyD := by
        unfold IntsRow DiskD.dirtyD
        rw [List.length_map, List.map_map, ← hT.out.2]
        rw [hT.out.1] at how
        exact how
      obtain ⟨q', c', e1, hI, -⟩ := hR.form
      exact ⟨q', ⟨c', by rw [← e1]; rfl⟩, hI, hu⟩

set_option maxHeartbeats 1000000 in
theorem ref4_Write (h : Hold W w (refs X g vL vW d T)) (hok : d.Ok) (hl : d.W.length ≤ 1000) (p : Int) (s : ByteArray) (hs : s.size ≤ 1099511627776) :
    Calls Try.prog 34 #[.pointer (some ⟨g, 0, none⟩), .int .i64 p, .string s] w fun e w' => e = .returned (.int .i64 (d.writeE p s)) ∧ ∃ vW', Hold W w' (refs X g vL vW' (d.writeD p s) T) := by
  obtain ⟨x0, x1, x2, x3⟩ := refs_row h
  obtain ⟨b, cap, rfl, hc⟩ := refs_L h (by have := hok.n1; omega)
  have hn := hok.n1
  clear hc
  by_cases hp : 0 ≤ p ∧ p < d.n
  · have hb : d.hasB p = true := hasB_iff.2 hp
    have h0 : ¬ p < 0 := by omega
    have h1 : ¬ (d.n : Int) ≤ p := by omega
    have h2 : p < (d.n : Int) := by omega
    by_cases hE : sealE s = 0
    · have e1 : d.writeE p s = 0 := by rw [DiskD.writeE, if_pos hb, hE]
      have e2 : d.writeD p s = { d with W := d.W ++ [(p, sealS s)] } := by rw [DiskD.writeD, if_pos e1]
      have c1 := fun w => ref2_Seal s w hs
      rw [hE] at c1
      have C1 := Lib.hid c1
      rw [e1, e2]
      obtain ⟨qw, cw, rfl, -⟩ := refs_W h
      obtain ⟨inf, hi0', hz0, hz1, hz2⟩ := info_parts infoRW
      have HI := Lib.hid (show Try.prog.info? 68 = some inf ∧ inf.zero = _ ∧ inf.size = 2 ∧ inf.bytes = 24 from ⟨hi0', hz0, hz1, hz2⟩)
      clear hi0' hz0 hz1 hz2 c1 hE e1 e2 hb hp hs
      generalize sealS s = raw at *
      have hD := h
      clear h
      go_enter Try.func34, Try.ntmps34
      go_upto_region 6 with ((with_reducible refine (C1.out _).mono ?_); rintro e w1 ⟨rfl, hB⟩; replace hD := hD.next hB; clear hB)
      clear x0 x1 x2 x3
      obtain ⟨x0, x1, x2, x3⟩ := refs_row hD
      have r6 := RowAt.made w1 68 [.int .i64 p, .string raw]
      obtain ⟨hi0', hz0, hz1, hz2⟩ := HI.out
      go_wp2_with (at_builtin; refine wpList_appendZ rfl _ _ 59 rfl 68 inf (.agg #[.int .i64 0, .string ⟨#[]⟩]) 2 24 (by kernel_rfl) hi0' hz0 hz1 hz2 rfl (by decide) (hD.next ((Below.refl _ _).alloc (Nat.le_refl _) (.cells #[.int .i64 p, .string raw] 68))) 3 _ (cellsW d.W) d.W.length rfl rfl ⟨w1.heap.size, 0, none⟩ 1 [.int .i64 p, .string raw] rfl rfl r6.addsAt (fun x hx => by simp at hx; rcases hx with rfl | rfl <;> rfl) (by unfold maxLen; omega) (by omega) ?_; intro b5 c5 w5 hw; clear x0 x1 x2 x3; obtain ⟨x0, x1, x2, x3⟩ := hw.row2 1 rfl)
      go_ret
      refine ⟨rfl, .slice (some ⟨b5, 0, none⟩) (d.W.length + 1) c5, ?_⟩
      have h3 := hw.putRow 1 rfl 1 (.slice (some ⟨b5, 0, none⟩) (d.W.length + 1) c5) _ _ (by simp) rfl
      have e3 : rW (.slice (some ⟨b5, 0, none⟩) (d.W.length + 1) c5) (d.W ++ [(p, raw)]) = ownZ 68 2 (.slice (some ⟨b5, 0, none⟩) (d.W.length + 1) c5) (d.W.length + 1) (cellsW d.W ++ [.int .i64 p, .string raw]) := by
        unfold rW; rw [cellsW_append, List.length_append]; rfl
      show Hold W _ (X :: rowR g _ [_] :: rL _ d :: rW _ (d.W ++ [(p, raw)]) :: T)
      rw [e3]
      exact h3
    · have e1 : d.writeE p s = 2 := by rw [DiskD.writeE, if_pos hb]; unfold sealE at hE ⊢; split at hE <;> simp_all
      have e2 : d.writeD p s = d := by rw [DiskD.writeD, if_neg (by rw [e1]; decide)]
      have c1 := fun w => ref2_Seal s w hs
      rw [show sealE s = 2 by unfold sealE at hE ⊢; split at hE <;> simp_all] at c1
      have C1 := Lib.hid c1
      rw [e1, e2]
      have hD := h
      clear h c1 hE e1 e2 hb hp hs
      go_enter Try.func34, Try.ntmps34
      go_wp2_with ((with_reducible refine (C1.out _).mono ?_); rintro e w1 ⟨rfl, hB⟩; replace hD := hD.next hB; clear hB)
      go_ret
      exact ⟨rfl, _, hD⟩
  · have hb : d.hasB p = false := by
      cases hh : d.hasB p
      · rfl
      · exact absurd (hasB_iff.1 hh) hp
    have e1 : d.writeE p s = 1 := by rw [DiskD.writeE, hb]; rfl
    have e2 : d.writeD p s = d := by rw [DiskD.writeD, if_neg (by rw [e1]; decide)]
    rw [e1, e2]
    have hD := h
    clear h e1 e2 hb
    by_cases h0 : p < 0
    · clear hp
      go_enter Try.func34, Try.ntmps34
      go_wp2_with fail
      go_ret
      exact ⟨rfl, _, hD⟩
    · have h1 : (d.n : Int) ≤ p := by omega
      have h2 : 0 ≤ p := by omega
      clear hp h0
      go_enter Try.func34, Try.ntmps34
      go_wp2_with fail
      go_ret
      exact ⟨rfl, _, hD⟩
end Go.Proofs.Ytiekjjejoekdeaa
namespace Bw
theorem syncK_step (L : List WriteD) (K : Int → ByteArray) (k : Nat) (h : k < L.length) : syncK (L.take (k + 1)) K = setK (syncK (L.take k) K) L[k].1 L[k].2 := by
  rw [List.take_succ_eq_append_getElem h, syncK, List.foldl_append]
  rfl
end Bw
namespace Go.Proofs.Ytiekjjejoekdeaa
open Go.RowKit Bw
set_option linter.unusedVariables false
variable {W w : World} {X : Res} {T : List Res} {g : Nat} {vL vW : Value} {d : DiskD}
theorem ref4_New_body (n : Nat) (h1 : 1 ≤ n) (h2 : n ≤ 1024) (h : Hold W w [X]) : Calls Try.prog 10 #[.int .i64 n] w fun e w' => ∃ g vL vW, e = .returned (.tuple #[.pointer (some ⟨g, 0, none⟩), .int .i64 0]) ∧ Hold W w' (refs X g vL vW (initD n) []) := by
  have c1 := fun w => ref2_Seal ⟨#[]⟩ w (by decide)
  rw [show sealS ⟨#[]⟩ = page0 from rfl, show sealE ⟨#[]⟩ = 0 from rfl] at c1
  have C1 := Lib.hid c1; clear c1
  obtain ⟨inf, hi0', hz0, hz1, hz2⟩ := info_parts infoRS
  have HI := Lib.hid (show Try.prog.info? 9 = some inf ∧ inf.zero = _ ∧ inf.size = 1 ∧ inf.bytes = 16 from ⟨hi0', hz0, hz1, hz2⟩)
  clear hi0' hz0 hz1 hz2
  have j1 : ¬ (n : Int) < 1 := by omega
  have j2 : ¬ 1024 < (n : Int) := by omega
  have hD := h
  clear h
  go_enter Try.func10, Try.ntmps10
  go_upto_region 4 with fail
  have hm := ((hD.madeRow (.slice none 0 0) [.slice none 0 0] 61).nilZ 9 1).nilZ 68 2
  replace hD : Hold W _ [X, rowR w.heap.size (.slice none 0 0) [.slice none 0 0], ownZ 9 1 (.slice none 0 0) 0 (textsK 0 (fun _ => page0)), rW (.slice none 0 0) []] := hm
  clear hm
  generalize w.heap.size = g at *
  generalize w.alloc _ = w1 at *
  go_wp2_with ((with_reducible refine (C1.out _).mono ?_); rintro e w2 ⟨rfl, hB⟩; replace hD := hD.next hB; clear hB)
  go_loopw [7] (fun v7 wr => ∃ (k : Nat) (q : Option Addr) (cap : Nat), k ≤ n ∧ v7 = .int .i64 k ∧ Hold W wr [X, rowR g (.slice q k cap) [.slice none 0 0], ownZ 9 1 (.slice q k cap) k (textsK k (fun _ => page0)), rW (.slice none 0 0) []]) (fun v _ => n - (intOf v).toNat)
  case atStart => exact ⟨0, none, 0, by omega, rfl, hD⟩
  case round =>
    clear hD
    obtain ⟨k, q, cap, hk, rfl, hD⟩ := hrel
    obtain ⟨x0, x1, x2, x3⟩ := hD.row2 1 rfl
    by_cases hlt : k < n
    · have j3 : (k : Int) < (n : Int) := by omega
      have HT := Lib.hid (textsK_succ k (fun _ => page0))
      obtain ⟨hi0', hz0, hz1, hz2⟩ := HI.out
      go_wp2_with (at_builtin; refine wpList_appendZ rfl _ _ 48 rfl 9 inf (.string ⟨#[]⟩) 1 16 (by kernel_rfl) hi0' hz0 hz1 hz2 rfl (by decide) (hD.next ((Below.refl _ _).alloc (Nat.le_refl _) (.cells #[.string page0] 9))) 2 _ (textsK k (fun _ => page0)) k rfl rfl ⟨wr.heap.size, 0, none⟩ 1 [.string page0] rfl rfl (cell_one_new _ _ _) (fun x hx => by simp at hx; subst hx; rfl) (by unfold maxLen; omega) (by omega) ?_; intro b5 c5 w5 hw; clear x0 x1 x2 x3; obtain ⟨x0, x1, x2, x3⟩ := hw.row2 1 rfl)
      have h3 := hw.putRow 1 rfl 0 (.slice (some ⟨b5, 0, none⟩) (k + 1) c5) _ _ (by simp) rfl
      rw [HT.out] at h3
      exact ⟨⟨k + 1, some ⟨b5, 0, none⟩, c5, by omega, by go_num, h3⟩, by simp [intOf]; omega⟩
    · have j3 : ¬ (k : Int) < (n : Int) := by omega
      obtain rfl : k = n := by omega
      go_wp2_with fail
      go_ret2
      exact ⟨g, rfl, _, _, hD⟩

set_option maxHeartbeats 2000000 in
theorem ref4_Sync (h : Hold W w (refs X g vL vW d T)) (hok : d.Ok) (hl : d.W.length ≤ 1000) :
    Calls Try.prog 35 #[.pointer (some ⟨g, 0, none⟩)] w fun e w' => e = .returned (.tuple #[]) ∧ ∃ vW', Hold W w' (refs X g vL vW' d.syncD T) := by
  obtain ⟨qw, cw, rfl, -⟩ := refs_W h
  obtain ⟨b, cap, rfl, -⟩ := refs_L h (by have := hok.n1; omega)
  go_enter Try.func35, Try.ntmps35
  go_wp2_with fail
  go_loopw [2] (fun v2 wr => ∃ k : Nat, k ≤ d.W.length ∧ v2 = .int .i64 k ∧ Hold W wr (refs X g (.slice (some ⟨b, 0, none⟩) d.n cap) (.slice qw d.W.length cw) { d with K := syncK (d.W.take k) d.K } T)) (fun v _ => d.W.length - (intOf v).toNat)
  case atStart => exact ⟨0, by omega, rfl, h⟩
  case round =>
    clear h
    obtain ⟨k, hk, rfl, hD⟩ := hrel
    obtain ⟨x0, x1, x2, x3⟩ := refs_row hD
    by_cases hlt : k < d.W.length
    · have j0 : (0 : Int) ≤ (k : Int) := by omega
      have j1 : (k : Int) < (d.W.length : Int) := by omega
      obtain ⟨q', c', hv, hc⟩ := refs_W hD
      injection hv with hv _ _
      subst hv
      obtain ⟨bq, rfl, a1, a2⟩ := hc k hlt
      obtain ⟨hp0, hp1, -⟩ := hok.W1 _ (List.getElem_mem hlt)
      have hst := syncK_step d.W d.K k hlt
      clear hc
      simp only at a1 a2
      generalize d.W[k] = x at *
      obtain ⟨p, s⟩ := x
      simp only at a1 a2 hp0 hp1 hst
      obtain ⟨m, rfl⟩ := Int.eq_ofNat_of_zero_le hp0
      have hm : m < d.n := by omega
      go_upto_region 3 with fail
      refine wp_region_later_tail 21 (by kernel_rfl) (by kernel_rfl) ?_
      have l1 := Later.cell_of x0; have l2 := Later.cell_of x1; have l3 := Later.cell_of a1; have l4 := Later.cell_of a2
      have hne := later_ne wr
      simp only [List.take_succ_cons, List.take_zero]
      repeat (go_big_quiet_step (fail))
      refine wpQuiet_nil ?_
      intro w9 hw9
      obtain ⟨u9, rfl⟩ := hw9
      replace hD := hD.next u9.up
      clear l1 l2 l3 l4 hne x0 x1 x2 x3 a1 a2
      generalize u9.world = w9 at *
      obtain ⟨hcz, hfz⟩ := refs_free hD rfl m hm
      have hD2 := refs_put (d := { d with K := syncK (d.W.take k) d.K }) hD m s
      simp only [List.drop_succ_cons, List.drop_zero]
      go_wp2_with fail
      rw [← hst] at hD2
      exact ⟨⟨k + 1, by omega, by go_num, hD2⟩, by simp [intOf]; omega⟩
    · have j1 : ¬ (k : Int) < (d.W.length : Int) := by omega
      have hT := Lib.hid (show syncK (d.W.take k) d.K = syncK d.W d.K by rw [List.take_of_length_le (by omega)])
      have hD2 := refs_clear hD
      go_wp2_with fail
      go_end0
      rw [hT.out] at hD2
      exact ⟨rfl, _, hD2⟩
end Go.Proofs.Ytiekjjejoekdeaa
namespace Bw
theorem crashK_over : ∀ (W : List WriteD) (L : List Int) (K : Int → ByteArray) (k : Nat), L.length ≤ k → crashK (W.take k) L K = crashK W L K
  | [], L, K, k, _ => by simp
  | w :: W, [], K, k, _ => by cases k <;> simp [crashK]
  | w :: W, f :: L, K, 0, h => by simp at h
  | w :: W, f :: L, K, k + 1, h => by
    rw [List.take_succ_cons]
    exact crashK_over W L (meetK K w f) k (by simpa using h)
end Bw
namespace Go.Proofs.Ytiekjjejoekdeaa
open Go.RowKit Bw
set_option linter.unusedVariables false
variable {W w : World} {X : Res} {T : List Res} {g : Nat} {vL vW : Value} {d : DiskD}
set_option maxHeartbeats 4000000 in
set_option maxRecDepth 100000 in
theorem ref4_Crash (h : Hold W w (refs X g vL vW d T)) (hok : d.Ok) (hl : d.W.length ≤ 1000) (L : List Int) (fa : Option Addr) (fc : Nat) (hI : IntsAt W fa L) (hL : L.length ≤ 1000) :
    Calls Try.prog 36 #[.pointer (some ⟨g, 0, none⟩), .slice fa L.length fc] w fun e w' => e = .returned (.tuple #[]) ∧ ∃ vW', Hold W w' (refs X g vL vW' (d.crashD L) T) := by
  obtain ⟨qw, cw, rfl, -⟩ := refs_W h
  obtain ⟨b, cap, rfl, -⟩ := refs_L h (by have := hok.n1; omega)
  go_enter Try.func36, Try.ntmps36
  go_wp2_with fail
  go_loopw [4] (fun v4 wr => ∃ k : Nat, k ≤ d.W.length ∧ k ≤ L.length ∧ v4 = .int .i64 k ∧ Hold W wr (refs X g (.slice (some ⟨b, 0, none⟩) d.n cap) (.slice qw d.W.length cw) { d with K := crashK (d.W.take k) L d.K } T)) (fun v _ => d.W.length - (intOf v).toNat)
  case atStart => exact ⟨0, by omega, by omega, rfl, by rw [List.take_zero, crashK_nil]; exact h⟩
  case round =>
    clear h
    obtain ⟨k, hk, hk2, rfl, hD⟩ := hrel
    obtain ⟨x0, x1, x2, x3⟩ := refs_row hD
    by_cases hlt : k < d.W.length
    · by_cases hlt2 : k < L.length
      · have j0 : (0 : Int) ≤ (k : Int) := by omega
        have j1 : (k : Int) < (d.W.length : Int) := by omega
        have j2 : (k : Int) < (L.length : Int) := by omega
        obtain ⟨q', c', hv, hc⟩ := refs_W hD
        injection hv with hv _ _
        subst hv
        obtain ⟨bq, rfl, a1, a2⟩ := hc k hlt
        obtain ⟨hp0, hp1, hps⟩ := hok.W1 _ (List.getElem_mem hlt)
        have hst := crashK_step d.W L d.K k hlt
        rw [dif_pos hlt2] at hst
        obtain ⟨gi, oi, rfl, hcW⟩ := hI k hlt2
        have hcell := (AllS.of_up (S := fun _ => False) hD.up).cell hcW id
        clear hc
        simp only at a1 a2
        generalize d.W[k] = x at *
        obtain ⟨p, s⟩ := x
        simp only at a1 a2 hp0 hp1 hst hps
        obtain ⟨m, rfl⟩ := Int.eq_ofNat_of_zero_le hp0
        have hm : m < d.n := by omega
        generalize L[k] = f at *
        go_upto_region 4 with fail
        have r5 := RowAt.made wr 68 [.int .i64 m, .string s]
        replace hD := hD.next ((Below.refl _ _).alloc (Nat.le_refl _) (.cells #[.int .i64 m, .string s] 68))
        clear hcell x0 x1 x2 x3 a1 a2
        generalize wr.heap.size = g5 at *
        generalize wr.alloc (.cells #[.int .i64 m, .string s] 68) = w3 at *
        have hcell := (AllS.of_up (S := fun _ => False) hD.up).cell hcW id
        obtain ⟨x0, x1, x2, x3⟩ := refs_row hD
        obtain ⟨y0, y1, -, -⟩ := r5.c2
        obtain ⟨hcz, hfz⟩ := refs_free hD rfl m hm
        have HP := Lib.hid (fun (w : World) (vW : Value) (s : ByteArray) (h : Hold W w (refs X g (.slice (some ⟨b, 0, none⟩) d.n cap) vW { d with K := crashK (d.W.take k) L d.K } T)) => (show Hold W (w.setCell ⟨b, m, none⟩ (.string s)) (refs X g (.slice (some ⟨b, 0, none⟩) d.n cap) vW { d with K := setK (crashK (d.W.take k) L d.K) m s } T) from refs_put (d := { d with K := crashK (d.W.take k) L d.K }) h m s))
        have hKz : (crashK (d.W.take k) L d.K m).size = 256 := crashK_size _ _ _ (fun w hw => (hok.W1 w (List.mem_of_mem_take hw)).2.2) hok.K1 m
        simp only at hcz
        generalize hKK : crashK (d.W.take k) L d.K = KK at *
        by_cases hf1 : f = 1
        · have hK2 : meetK KK ((m : Int), s) f = setK KK m s := by rw [hf1]; rfl
          have b1 : (f == 1) = true := by rw [hf1]; rfl
          have b2 : (f == 2) = false := by rw [hf1]; rfl
          rw [hK2] at hst
          clear hf1 hK2 hcz hfz
          go_upto_region 5 with fail
          refine wp_region_later_tail 9 (by kernel_rfl) (by kernel_rfl) ?_
          have l1 := Later.cell_of x0; have l2 := Later.cell_of y0; have l3 := Later.cell_of y1
          have hne := later_ne w3
          simp only [List.take_succ_cons, List.take_zero]
          repeat (go_big_quiet_step (fail))
          refine wpQuiet_nil ?_
          intro w9 hw9
          obtain ⟨u9, rfl⟩ := hw9
          replace hD := hD.next u9.up
          clear l1 l2 l3 hne x0 x1 x2 x3 y0 y1 r5 hcell
          generalize u9.world = w9 at *
          obtain ⟨hcz, hfz⟩ := refs_free hD rfl m hm
          have hD2 := HP.out _ _ s hD
          have hcell2 := (AllS.of_up (S := fun _ => False) hD2.up).cell hcW id
          simp only [List.drop_succ_cons, List.drop_zero]
          go_upto_region 6 with fail
          clear hcz hfz
          generalize w9.setCell ⟨b, m, none⟩ (.string s) = w10 at *
          go_wp2_with fail
          rw [← hst] at hD2
          exact ⟨⟨k + 1, by omega, by omega, by go_num, hD2⟩, by simp [intOf]; omega⟩
        · by_cases hf2 : f = 2
          · have hK2 : meetK KK ((m : Int), s) f = setK KK m (tornS s (KK m)) := by rw [hf2]; rfl
            have b1 : (f == 1) = false := by rw [hf2]; rfl
            have b2 : (f == 2) = true := by rw [hf2]; rfl
            rw [hK2] at hst
            have C2 := Lib.hid (fun w => ref2_Torn s (KK m) w (by omega) (by omega))
            clear hf1 hf2 hK2
            go_upto_region 7 with fail
            refine wp_region_later_tail 18 (by kernel_rfl) (by kernel_rfl) ?_
            have l1 := Later.cell_of x0; have l2 := Later.cell_of y0; have l3 := Later.cell_of y1; have l4 := Later.cell_of hcz
            have hne := later_ne w3
            simp only [List.take_succ_cons, List.take_zero]
            repeat (go_big_quiet_step ((go_at_call 49; with_reducible exact Calls.later_same (C2.out _))))
            refine wpQuiet_nil ?_
            intro w9 hw9
            obtain ⟨u9, rfl⟩ := hw9
            replace hD := hD.next u9.up
            clear l1 l2 l3 l4 hne x0 x1 x2 x3 y0 y1 r5 hcell hcz hfz
            generalize u9.world = w9 at *
            obtain ⟨hcz, hfz⟩ := refs_free hD rfl m hm
            have hD2 := HP.out _ _ (tornS s (KK m)) hD
            simp only [List.drop_succ_cons, List.drop_zero]
            go_wp2_with fail
            rw [← hst] at hD2
            exact ⟨⟨k + 1, by omega, by omega, by go_num, hD2⟩, by simp [intOf]; omega⟩
          · have hK2 : meetK KK ((m : Int), s) f = KK := by simp [meetK, hf1, hf2]
            have b1 : (f == 1) = false := beq_eq_false_iff_ne.2 hf1
            have b2 : (f == 2) = false := beq_eq_false_iff_ne.2 hf2
            rw [hK2] at hst
            clear hf1 hf2 hK2 hcz hfz
            go_wp2_with fail
            rw [← hst] at hD
            exact ⟨⟨k + 1, by omega, by omega, by go_num, hD⟩, by simp [intOf]; omega⟩
      · have j1 : (k : Int) < (d.W.length : Int) := by omega
        have j2 : ¬ (k : Int) < (L.length : Int) := by omega
        have hT := Lib.hid (crashK_over d.W L d.K k (by omega))
        have hD2 := refs_clear hD
        clear hlt hlt2
        go_wp2_with fail
        go_end0
        rw [hT.out] at hD2
        exact ⟨rfl, _, hD2⟩
    · have j1 : ¬ (k : Int) < (d.W.length : Int) := by omega
      have hT := Lib.hid (show crashK (d.W.take k) L d.K = crashK d.W L d.K by rw [List.take_of_length_le (by omega)])
      have hD2 := refs_clear hD
      clear hlt
      go_wp2_with fail
      go_end0
      rw [hT.out] at hD2
      exact ⟨rfl, _, hD2⟩
end Go.Proofs.Ytiekjjejoekdeaa
