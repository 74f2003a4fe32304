import Derived.Test.YtiekjjejoekdeaaDsFixed
namespace Bw
theorem read_init {n : Nat} {p : Int} (h0 : 0 ≤ p) (h1 : p < n) : (initD n).readE p = 0 ∧ (initD n).readS p = wholeS ByteArray.empty := by
  have hb : (initD n).hasB p = true := hasB_iff.2 ⟨h0, h1⟩
  have hr : (initD n).rawD p = page0 := by simp [DiskD.rawD, hb]; rfl
  obtain ⟨o1, o2⟩ := open_seal (s := ByteArray.empty) (by simp)
  simp only [DiskD.readE, DiskD.readS, hb, if_true, hr]
  exact ⟨o1, o2⟩
end Bw
namespace Go.Proofs.Ytiekjjejoekdeaa
open Go.RowKit Bw Go.Maps
set_option linter.unusedVariables false

set_option maxHeartbeats 1000000 in
theorem news_no (n : Int) (hn : ¬ (1 ≤ n ∧ n ≤ 1024)) (w : World) :
    Calls Try.prog 4 #[.int .i64 n] w fun e w' => e = .returned (.bool true) ∧ Below w.heap.size w w' := by
  have C1 := Lib.hid (fun w => disk_New_no n hn w)
  have p3 := Lib.hid (fun w => fxp (s := ByteArray.empty) (by decide) w)
  rw [show wholeS ByteArray.empty = ws0 from rfl, show ByteArray.empty = ⟨#[]⟩ from rfl] at p3
  generalize padE ⟨#[]⟩ 252 = E0 at *
  have C2 := Lib.hid law4_fixed
  have hu := Up.refl w
  by_cases h1 : n < 1
  · have j1 : ¬ 1 ≤ n := by omega
    clear hn
    go_enter Try.func4, Try.ntmps4
    go_wp2_with (first
      | ((with_reducible refine (C1.out _).mono ?_); rintro e w1 ⟨rfl, rfl⟩)
      | ((with_reducible refine (p3.out _).mono ?_); rintro e w2 ⟨rfl, hB⟩; replace hu := hu.next hB; clear hB)
      | ((with_reducible refine (C2.out _).mono ?_); rintro e w3 ⟨rfl, hB⟩; replace hu := hu.next hB; clear hB))
    go_loopw [7] (fun v7 wr => Up w wr) (fun _ _ => 0)
    case atStart => exact hu
    case round =>
      clear hu
      replace hu := hrel
      clear hrel
      go_wp2_with (first
      | ((with_reducible refine (C2.out _).mono ?_); rintro e w3 ⟨rfl, hB⟩; replace hu := hu.next hB; clear hB))
      go_ret
      exact ⟨rfl, hu⟩
  · have j1 : ¬ n ≤ 1024 := by omega
    have j2 : 1 ≤ n := by omega
    clear hn
    go_enter Try.func4, Try.ntmps4
    go_wp2_with (first
      | ((with_reducible refine (C1.out _).mono ?_); rintro e w1 ⟨rfl, rfl⟩)
      | ((with_reducible refine (p3.out _).mono ?_); rintro e w2 ⟨rfl, hB⟩; replace hu := hu.next hB; clear hB)
      | ((with_reducible refine (C2.out _).mono ?_); rintro e w3 ⟨rfl, hB⟩; replace hu := hu.next hB; clear hB))
    go_loopw [7] (fun v7 wr => Up w wr) (fun _ _ => 0)
    case atStart => exact hu
    case round =>
      clear hu
      replace hu := hrel
      clear hrel
      go_wp2_with (first
      | ((with_reducible refine (C2.out _).mono ?_); rintro e w3 ⟨rfl, hB⟩; replace hu := hu.next hB; clear hB))
      go_ret
      exact ⟨rfl, hu⟩

set_option maxHeartbeats 1000000 in
theorem news_yes (n : Nat) (n1 : 1 ≤ n) (n2 : n ≤ 1024) (w : World) :
    Calls Try.prog 4 #[.int .i64 n] w fun e w' => e = .returned (.bool true) ∧ Below w.heap.size w w' := by
  have p3 := Lib.hid (fun w => fxp (s := ByteArray.empty) (by decide) w)
  rw [show wholeS ByteArray.empty = ws0 from rfl, show ByteArray.empty = ⟨#[]⟩ from rfl] at p3
  generalize padE ⟨#[]⟩ 252 = E0 at *
  have C2 := Lib.hid law4_fixed
  have j1 : (1 : Int) ≤ n := by omega
  have j2 : (n : Int) ≤ 1024 := by omega
  have hD := Hold.start w
  go_enter Try.func4, Try.ntmps4
  go_wp2_with (first
    | ((with_reducible refine (hNew n n1 n2 hD).mono ?_); rintro e w1 ⟨g, a, rfl, hw⟩; replace hD : Hold w w1 [diskR g a none 0 (initD n)] := hw; clear hw)
    | ((with_reducible refine (p3.out _).mono ?_); rintro e w2 ⟨rfl, hB⟩; replace hD := hD.next hB; clear hB))
  go_loopw [7] (fun v7 wr => ∃ p : Nat, p ≤ n ∧ v7 = .int .i64 p ∧ Hold w wr [diskR g a none 0 (initD n)]) (fun v _ => n - (intOf v).toNat)
  case atStart => exact ⟨0, by omega, rfl, hD⟩
  case round =>
    clear hD
    obtain ⟨p, hp, rfl, hD⟩ := hrel
    by_cases hgo : p < n ∧ p < 20
    · obtain ⟨q1, q2⟩ := hgo
      obtain ⟨i1, i2⟩ := read_init (n := n) (p := p) (by omega) (by omega)
      have hR := hRead hD 0 rfl (by omega) p
      rw [i1, i2, show wholeS ByteArray.empty = ws0 from rfl] at hR
      have j3 : (p : Int) < n := by omega
      have j4 : (p : Int) < 20 := by omega
      clear i1 i2
      go_wp2_with ((with_reducible refine hR.mono ?_); rintro e w3 ⟨rfl, hB, hw⟩; clear hB hR; replace hD := hw; clear hw)
      exact ⟨⟨p + 1, by omega, by go_num, hD⟩, by simp [intOf]; omega⟩
    · have hL := hLen hD 0 rfl
      have hd := fun {w' : World} (h : Hold w w' [diskR g a none 0 (initD n)]) => hDirty h 0 rfl (by omega)
      rw [show (initD n).n = n from rfl] at hL
      have hdirty : (initD n).dirtyD.length = 0 := rfl
      rw [hdirty] at hd
      by_cases q1 : p < n
      · have j3 : (p : Int) < n := by omega
        have j4 : ¬ (p : Int) < 20 := by omega
        clear hgo
        go_wp2_with (first
        | ((with_reducible refine hL.mono ?_); rintro e w3 ⟨rfl, rfl⟩)
        | ((with_reducible refine (hd hD).mono ?_); rintro e w4 ⟨v, cap, rfl, hB, hw⟩; clear hB; replace hD := hw.drop; clear hw)
        | ((with_reducible refine (C2.out _).mono ?_); rintro e w5 ⟨rfl, hB⟩; replace hD := hD.next hB; clear hB))
        go_ret
        exact ⟨rfl, hD.up⟩
      · have j3 : ¬ (p : Int) < n := by omega
        clear hgo
        go_wp2_with (first
        | ((with_reducible refine hL.mono ?_); rintro e w3 ⟨rfl, rfl⟩)
        | ((with_reducible refine (hd hD).mono ?_); rintro e w4 ⟨v, cap, rfl, hB, hw⟩; clear hB; replace hD := hw.drop; clear hw)
        | ((with_reducible refine (C2.out _).mono ?_); rintro e w5 ⟨rfl, hB⟩; replace hD := hD.next hB; clear hB))
        go_ret
        exact ⟨rfl, hD.up⟩
theorem news_law (n : Int) (w : World) :
    Calls Try.prog 4 #[.int .i64 n] w fun e w' => e = .returned (.bool true) ∧ Below w.heap.size w w' := by
  by_cases hn : 1 ≤ n ∧ n ≤ 1024
  · obtain ⟨k, rfl⟩ := Int.eq_ofNat_of_zero_le (show 0 ≤ n by omega)
    exact news_yes k (by omega) (by omega) w
  · exact news_no n hn w
theorem news_row (n : Int) {P : Prop} (_ : P) (w : World) :
    Calls Try.prog 4 #[.int .i64 n] w fun e w' => e = .returned (.bool true) ∧ Below w.heap.size w w' := news_law n w
end Go.Proofs.Ytiekjjejoekdeaa
