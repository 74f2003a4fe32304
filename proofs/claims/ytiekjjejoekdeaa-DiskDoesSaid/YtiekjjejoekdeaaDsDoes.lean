import Derived.Test.YtiekjjejoekdeaaRfPlay
import Derived.Test.YtiekjjejoekdeaaDsFixed
import Derived.Deep.CutBlock
namespace Bw
theorem writeD_n (d : DiskD) (p : Int) (s : ByteArray) : (d.writeD p s).n = d.n := by unfold DiskD.writeD; split <;> rfl
theorem playD_n (d : DiskD) (o : OpD) : (playD d o).n = d.n := by
  unfold playD
  split
  · exact writeD_n _ _ _
  · split
    · rfl
    · split <;> rfl
end Bw
namespace Go.Proofs.Ytiekjjejoekdeaa
open Go.RowKit Bw
set_option linter.unusedVariables false
namespace does
theorem up_cell {W w : World} {p : Addr} {v : Value} (hu : Up W w) (hc : W.cell? p = some v) : w.cell? p = some v := (AllS.of_up (S := fun _ => False) hu).cell hc id
variable {W w : World} {g a c gr : Nat} {q : Option Nat} {vL vW : Value} {d : DiskD}
set_option maxHeartbeats 4000000 in
set_option maxRecDepth 100000 in
theorem law (P : Int) (a1 : Option Addr) (n1 m1 : Nat) (f1 : Nat → OpD) (p1 : Nat → Option Addr) (z1 : Nat → Nat) (l1 : n1 ≤ 9223372036854775807) (W : World) (w1 : OpsAt W a1 n1 f1 p1 z1) :
    Calls Try.prog 3 #[.int .i64 P, .slice a1 n1 m1] W fun e w' => e = .returned (.bool true) ∧ Below W.heap.size W w' := by
  have hD := Hold.start W
  obtain ⟨m, hm, hm16⟩ : ∃ m : Nat, bits .and .i64 P 15 = (m : Int) ∧ m < 16 := by
    have h1 := Int.emod_nonneg P (show (16 : Int) ≠ 0 by omega)
    have h2 := Int.emod_lt_of_pos P (show (0 : Int) < 16 by omega)
    exact ⟨(P % 16).toNat, by rw [bits_15]; omega, by omega⟩
  have C2 := Lib.hid law4_fixed
  go_enter Try.func3, Try.ntmps3
  go_upto_region 2 with fail
  have e1 : (1 : Int) + (m : Int) = ((1 + m : Nat) : Int) := by omega
  rw [e1]
  have hn1 : 1 ≤ 1 + m := by omega
  have hn16 : 1 + m ≤ 16 := by omega
  clear e1 hm hm16
  generalize 1 + m = n at *
  have N1 := hNew n hn1 (by omega) hD
  have N2 := fun {w : World} {X : Res} (h : Hold W w [X]) => ref4_New_body n hn1 (by omega) h
  go_upto_region 4 with (first
    | ((with_reducible refine N1.mono ?_); rintro e w3 ⟨g, a, rfl, hw⟩; replace hD : Hold W w3 [diskR g a none 0 (initD n)] := hw; clear hw N1)
    | ((with_reducible refine (N2 hD).mono ?_); rintro e w4 ⟨gr, vL, vW, rfl, hw⟩; replace hD := hw; clear hw N2))
  go_wp2_with fail
  go_loopw [6, 8, 10] (fun v6 v8 v10 wr => ∃ (k g a gr : Nat) (q : Option Nat) (vL vW : Value) (d : DiskD), k ≤ n1 ∧ k ≤ 60 ∧ v6 = .pointer (some ⟨g, 0, none⟩) ∧ v8 = .pointer (some ⟨gr, 0, none⟩) ∧ v10 = .int .i64 k ∧ d.n = n ∧ Hold W wr (refs (diskR g a q k d) gr vL vW d [])) (fun _ _ v _ => n1 - (intOf v).toNat)
  case atStart => exact ⟨0, g, a, gr, none, vL, vW, initD n, by omega, by omega, rfl, rfl, rfl, rfl, hD⟩
  case round =>
  clear hD
  obtain ⟨k, g, a, gr, q, vL, vW, d, hk, hk2, rfl, rfl, rfl, hdn, hD⟩ := hrel
  by_cases hlt : k < n1
  · by_cases hlt2 : k < 60
    · have j0 : (0 : Int) ≤ (k : Int) := by omega
      have j1 : (k : Int) < (n1 : Int) := by omega
      have j2 : (k : Int) < 60 := by omega
      obtain ⟨hok, hwl⟩ := refs_ok hD
      obtain ⟨hO, go, oo, rfl, cW0, cW1, cW2, cW3⟩ := w1 k hlt
      have HPL := Lib.hid (fun (w : World) (g a gr : Nat) (q : Option Nat) (vL vW : Value) (h : Hold W w (refs (diskR g a q k d) gr vL vW d [])) => law4_play h (by omega) (f1 k) (p1 k) (z1 k) hO)
      have hdn2 := playD_n d (f1 k)
      clear hO
      generalize playD d (f1 k) = D at *
      generalize f1 k = F at *
      obtain ⟨Fk, Fp, Fs, Ff⟩ := F
      simp only at cW0 cW1 cW2 cW3 HPL
      have c0 := up_cell hD.up cW0
      go_upto_if 59 with fail
      clear c0
      go_cut [6, 8] (fun v6 v8 wx => ∃ (g a gr : Nat) (q : Option Nat) (vL vW : Value), v6 = .pointer (some ⟨g, 0, none⟩) ∧ v8 = .pointer (some ⟨gr, 0, none⟩) ∧ Hold W wx (refs (diskR g a q k d) gr vL vW d []))
      case first =>
        by_cases h3 : Fk = 3
        · have b3 : (Fk == 3) = true := by rw [h3]; rfl
          have K1 := hCopy hD 0 rfl (by omega)
          have K2 := fun {w : World} {Y : Res} (h : Hold W w (refs (diskR g a q k d) gr vL vW d [Y])) => ref4_Copy h hok (by omega)
          have K3 := fun {w : World} {Y : Res} {g' : Nat} {vL' vW' : Value} (h : Hold W w (refs Y g' vL' vW' d [diskR g a q k d])) => hWrite h 4 rfl (by omega) 0 ⟨#[115, 112, 111, 105, 108, 116]⟩ (by decide)
          have K4 := fun {w : World} {Y : Res} {g' : Nat} {vL' vW' : Value} {q' : Option Nat} (h : Hold W w (refs Y g' vL' vW' d [diskR g a q' (k + 1) (d.writeD 0 ⟨#[115, 112, 111, 105, 108, 116]⟩)])) => hSync h 4 rfl (by omega)
          clear h3
          go_wp2_with (first
            | ((with_reducible refine K1.mono ?_); rintro e w3 ⟨g2, a2, q2, rfl, -, hw⟩; replace hD : Hold W w3 (refs (diskR g a q k d) gr vL vW d [diskR g2 a2 q2 k d]) := hw; clear hw K1)
            | ((with_reducible refine (K2 hD).mono ?_); rintro e w4 ⟨gr2, vL2, vW2, rfl, hw⟩; replace hD := hw; clear hw K2)
            | ((with_reducible refine (K3 hD).mono ?_); rintro e w5 ⟨rfl, q3, hw⟩; replace hD : Hold W w5 (refs (diskR g2 a2 q2 k d) gr2 vL2 vW2 d [diskR g a q3 (k + 1) (d.writeD 0 ⟨#[115, 112, 111, 105, 108, 116]⟩)]) := hw; clear hw K3)
            | ((with_reducible refine (K4 hD).mono ?_); rintro e w6 ⟨rfl, hw⟩; replace hD : Hold W w6 (refs (diskR g2 a2 q2 k d) gr2 vL2 vW2 d [diskR g a none (k + 1) (d.writeD 0 ⟨#[115, 112, 111, 105, 108, 116]⟩).syncD]) := hw; clear hw K4))
          go_meet
          exact ⟨g2, a2, gr2, q2, vL2, vW2, rfl, rfl, Hold.drop (l := refs (diskR g2 a2 q2 k d) gr2 vL2 vW2 d []) hD⟩
        · have b3 : (Fk == 3) = false := beq_eq_false_iff_ne.2 h3
          go_wp2_with fail
          go_meet
          exact ⟨g, a, gr, q, vL, vW, rfl, rfl, hD⟩
      case rest =>
      clear hD
      obtain ⟨g, a, gr, q, vL, vW, rfl, rfl, hD⟩ := hcut
      have HP := HPL.out _ _ _ _ _ _ _ hD
      have c0 := up_cell hD.up cW0
      have c1 := up_cell hD.up cW1
      have c2 := up_cell hD.up cW2
      have c3 := up_cell hD.up cW3
      clear HPL
      have H1 := fun {w : World} {g a gr : Nat} {q : Option Nat} {vL vW : Value} (h : Hold W w (refs (diskR g a q (k + 1) D) gr vL vW D [])) => hDirty h 0 rfl (by omega)
      have H2 := fun {w : World} {g a gr : Nat} {q : Option Nat} {vL vW : Value} (h : Hold W w (refs (diskR g a q (k + 1) D) gr vL vW D [])) => ref4_Dirty h (refs_ok h).1 (by have := (refs_ok h).2; omega)
      have H3 := fun {w : World} {va vb : Option Addr} {ca cb : Nat} (ha : IntsAt w va D.dirtyD) (hb : IntsAt w vb D.dirtyD) (hl : D.dirtyD.length ≤ 1099511627776) => ref2_Ints D.dirtyD D.dirtyD va vb ca cb w ha hb hl
      have H4 := fun {w : World} {g a gr : Nat} {q : Option Nat} {vL vW : Value} (h : Hold W w (refs (diskR g a q (k + 1) D) gr vL vW D [])) => hLen h 0 rfl
      rw [show decide (D.dirtyD = D.dirtyD) = true from decide_eq_true rfl] at H3
      rw [hdn2, hdn] at H4
      go_upto_region 19 with (first
        | ((with_reducible refine HP.mono ?_); rintro e w3 ⟨rfl, q2, vL2, vW2, hw⟩; have hDl : D.dirtyD.length ≤ 1099511627776 := (by have := (refs_ok hw).2; rw [DiskD.dirtyD, List.length_map]; omega); replace hD := hw; clear hw HP c0 c1 c2 c3)
        | ((with_reducible refine (H1 hD).mono ?_); rintro e w4 ⟨v4, cap4, rfl, hB, hw⟩; have hI := (hw.get 4 (R := intsR v4 D.dirtyD) rfl).1; replace hD := hw.drop; clear hw hB)
        | ((with_reducible refine (H2 hD).mono ?_); rintro e w5 ⟨v5, cap5, rfl, hI5, hB⟩; replace hI := hI.up hB; replace hD := hD.next hB; clear hB)
        | ((with_reducible refine (H3 hI hI5 hDl).mono ?_); rintro e w6 ⟨rfl, hB⟩; replace hD := hD.next hB; clear hB hI hI5)
        | ((with_reducible refine (H4 hD).mono ?_); rintro e w7 ⟨rfl, rfl⟩))
      clear H1 H2 H3 H4
      obtain ⟨hokD, hDl2⟩ := refs_ok hD
      have G1 := fun (p : Int) {w : World} (h : Hold W w (refs (diskR g a q2 (k + 1) D) gr vL2 vW2 D [])) => hRead h 0 rfl (by omega) p
      have G2 := fun (p : Int) {w : World} (h : Hold W w (refs (diskR g a q2 (k + 1) D) gr vL2 vW2 D [])) => ref4_Read h hokD (by omega) p
      have G3 := fun (p : Int) {w : World} (h : Hold W w (refs (diskR g a q2 (k + 1) D) gr vL2 vW2 D [])) => hRaw h 0 rfl (by omega) p
      have G4 := fun (p : Int) {w : World} (h : Hold W w (refs (diskR g a q2 (k + 1) D) gr vL2 vW2 D [])) => ref4_Raw h hokD (by omega) p
      go_wp2_with fail
      go_loopw [12] (fun v12 wr => ∃ p : Int, -1 ≤ p ∧ p ≤ (n : Int) + 1 ∧ v12 = .int .i64 p ∧ Hold W wr (refs (diskR g a q2 (k + 1) D) gr vL2 vW2 D [])) (fun v _ => ((n : Int) + 1 - intOf v).toNat)
      case atStart => exact ⟨-1, by omega, by omega, rfl, hD⟩
      case round =>
      clear hD
      obtain ⟨p, hp0, hp1, rfl, hD⟩ := hrel
      by_cases hpn : p ≤ (n : Int)
      · have g1 := fun {w : World} h => @G1 p w h
        have g2 := fun {w : World} h => @G2 p w h
        have g3 := fun {w : World} h => @G3 p w h
        have g4 := fun {w : World} h => @G4 p w h
        clear G1 G2 G3 G4
        generalize D.readS p = RS at *
        generalize D.readE p = RE at *
        generalize D.rawD p = RR at *
        go_wp2_with (first
          | ((with_reducible refine (g1 hD).mono ?_); rintro e w8 ⟨rfl, -, hw⟩; replace hD := hw; clear hw g1)
          | ((with_reducible refine (g2 hD).mono ?_); rintro e w9 ⟨rfl, hB⟩; replace hD := hD.next hB; clear hB g2)
          | ((with_reducible refine (g3 hD).mono ?_); rintro e w10 ⟨rfl, -, hw⟩; replace hD := hw; clear hw g3)
          | ((with_reducible refine (g4 hD).mono ?_); rintro e w11 ⟨rfl, rfl⟩; clear g4))
        exact ⟨⟨p + 1, by omega, by omega, by go_num, hD⟩, by simp [intOf]; omega⟩
      have i1 : (n : Int) < p := by omega
      clear G1 G2 G3 G4
      go_wp2_with fail
      exact ⟨⟨k + 1, g, a, gr, q2, vL2, vW2, D, by omega, by omega, rfl, rfl, by go_num, by rw [hdn2, hdn], hD⟩, by simp [intOf]; omega⟩
    · have j1 : (k : Int) < (n1 : Int) := by omega
      have j2 : ¬ (k : Int) < 60 := by omega
      go_wp2_with ((with_reducible refine (C2.out _).mono ?_); rintro e w5 ⟨rfl, hB⟩; replace hD := hD.next hB; clear hB)
      go_ret
      exact ⟨rfl, hD.up⟩
  · have j1 : ¬ (k : Int) < (n1 : Int) := by omega
    go_wp2_with ((with_reducible refine (C2.out _).mono ?_); rintro e w5 ⟨rfl, hB⟩; replace hD := hD.next hB; clear hB)
    go_ret
    exact ⟨rfl, hD.up⟩
theorem row (P : Int) {T : Prop} (_ : T) (a1 : Option Addr) (n1 m1 : Nat) (f1 : Nat → OpD) (p1 : Nat → Option Addr) (z1 : Nat → Nat) (l1 : n1 ≤ maxLen) (W : World) (w1 : OpsAt W a1 n1 f1 p1 z1) :
    Calls Try.prog 3 #[.int .i64 P, .slice a1 n1 m1] W fun e w' => e = .returned (.bool true) ∧ Below W.heap.size W w' := law P a1 n1 m1 f1 p1 z1 l1 W w1
end does
end Go.Proofs.Ytiekjjejoekdeaa
