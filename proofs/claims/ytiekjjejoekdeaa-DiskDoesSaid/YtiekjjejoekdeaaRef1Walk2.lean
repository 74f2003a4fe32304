import Derived.Test.YtiekjjejoekdeaaRef1Walk1
import Derived.Deep.RegionWith
namespace Go.Proofs.Ytiekjjejoekdeaa
open Go.RowKit Bw
set_option linter.unusedVariables false

theorem bcell {W w1 : World} (hb : Below W.heap.size W w1) : (∀ b o, b < W.heap.size → w1.cell? ⟨b, o, none⟩ = W.cell? ⟨b, o, none⟩) ∧ (∀ b o, b < W.heap.size → w1.frozen? ⟨b, o, none⟩ = W.frozen? ⟨b, o, none⟩) :=
  ⟨fun b o h => hb.cell (p := ⟨b, o, none⟩) h, fun b o h => hb.frozen (p := ⟨b, o, none⟩) h⟩

theorem conv_one (x : Int) (g : Nat) (w : World) (hc : w.cell? ⟨g, 0, none⟩ = some (.int .u8 (IntKind.u8.wrap x))) :
    (convert 72 9 (.slice (some ⟨g, 0, none⟩) 1 1)).run Try.prog w = .ok (.string (str [UInt8.ofNat (x % 256).toNat])) w := by
  have := run_convert_bytes_back (P := Try.prog) w 72 9 5 ⟨g, 0, none⟩ 1 [UInt8.ofNat (x % 256).toNat] Try.underlying72 Try.underlying5 Try.underlying9 (fun j hj => by
    have hj0 : j = 0 := by simpa using hj
    subst hj0
    have e : (UInt8.ofNat (x % 256).toNat).toNat = (x % 256).toNat % 256 := UInt8.toNat_ofNat'
    rw [add_none, hc, IntKind.wrap_u8]
    simp only [List.getElem_cons_zero, e]
    congr 2; omega)
  exact this

theorem conv_plain (x : Int) (h0 : 0 ≤ x) (h1 : x < 256) (g : Nat) (w : World) (hc : w.cell? ⟨g, 0, none⟩ = some (.int .u8 x)) :
    (convert 72 9 (.slice (some ⟨g, 0, none⟩) 1 1)).run Try.prog w = .ok (.string (str [UInt8.ofNat (x % 256).toNat])) w :=
  conv_one x g w (by rw [hc, IntKind.wrap_u8]; congr 2; omega)

set_option maxHeartbeats 400000 in
theorem ref1_little (k : Nat) : ∀ (n K : Int) (w : World), 0 ≤ n → n < 18446744073709551616 → K = k → k ≤ 1099511627776 →
    Calls Try.prog 41 #[.int .u64 n, .int .i64 K] w fun e w' => e = .returned (.string (str (toLE n.toNat k))) ∧ Below w.heap.size w w' := by
  induction k with
  | zero =>
    intro n K w hn0 hn hK hk
    subst hK
    have h0 : (((0 : Nat) : Int) == 0) = true := rfl
    go_enter Try.func41, Try.ntmps41
    go_wp2_with fail
    go_ret
    exact ⟨rfl, Below.refl _ _⟩
  | succ k ih =>
    intro n K w hn0 hn hK hk
    have h0 : (K == 0) = false := by simp; omega
    have hc : ∀ w, Calls Try.prog 41 #[.int .u64 (n / 256), .int .i64 (K - 1)] w fun e w' => e = .returned (.string (str (toLE (n / 256).toNat k))) ∧ Below w.heap.size w w' :=
      fun w => ih (n / 256) (K - 1) w (by omega) (by omega) (by omega) (by omega)
    have e1 : IntKind.u64.wrap (n.tdiv 256) = n / 256 := by rw [Int.tdiv_eq_ediv_of_nonneg hn0]; exact IntWalk.u64_in _ ⟨by omega, by omega⟩
    have e2 : IntKind.i64.wrap (K - 1) = K - 1 := IntWalk.i64_in _ ⟨by omega, by omega⟩
    have E1 := Lib.hid e1
    have E2 := Lib.hid e2
    clear e1 e2
    have e3 : str (toLE n.toNat (k + 1)) = str [UInt8.ofNat (n.tmod 256 % 256).toNat] ++ str (toLE (n / 256).toNat k) := by
      apply lst_inj
      rw [Int.tmod_eq_emod_of_nonneg hn0]
      have h2 : UInt8.ofNat (n % 256 % 256).toNat = UInt8.ofNat n.toNat := by
        apply UInt8.toNat_inj.1
        have e : ∀ m, (UInt8.ofNat m).toNat = m % 256 := fun m => UInt8.toNat_ofNat'
        rw [e, e]; omega
      rw [h2, lst_append, lst_str, lst_str, lst_str, toLE, show n.toNat / 256 = (n / 256).toNat by omega]
      rfl
    rw [e3]
    have hX : (str (toLE (n / 256).toNat k)).size ≤ 1099511627776 := by rw [size_str, toLE_length]; omega
    have hY : (str [UInt8.ofNat (n.tmod 256 % 256).toNat]).size ≤ 1 := Nat.le_refl _
    have hcv := conv_one (n.tmod 256)
    generalize str (toLE (n / 256).toNat k) = X at *
    generalize str [UInt8.ofNat (n.tmod 256 % 256).toNat] = Y at *
    clear e3 hK hk ih
    have HI := Lib.hid hc; clear hc
    go_enter Try.func41, Try.ntmps41
    go_wp2_with fail
    have e1 := E1.out
    have e2 := E2.out
    clear E1 E2 hn hn0
    go_region_with (go_at_call 41; (with_reducible refine (HI.out _).mono ?_); rintro e w1 ⟨rfl, hw1⟩; obtain ⟨hcc, hff⟩ := bcell hw1)
    all_goals
      clear e1 e2 hcv
      go_wp2
      go_ret
      first
        | exact ⟨rfl, (((Below.refl _ w).alloc (Nat.le_refl _) _).drew).trans (hw1.mono (by simp))⟩
        | exact ⟨rfl, ((Below.refl _ w).drew.trans hw1).alloc hw1.size _⟩
end Go.Proofs.Ytiekjjejoekdeaa
