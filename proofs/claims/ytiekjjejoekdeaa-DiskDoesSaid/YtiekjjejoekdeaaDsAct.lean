import Derived.Test.YtiekjjejoekdeaaDsHold
import Derived.Test.YtiekjjejoekdeaaDsOpen
namespace Bw
open Go
def cutN (n : Int) (s : ByteArray) : ByteArray := s.extract 0 (min (s.size : Int) n).toNat
theorem cutN_size {n : Int} (s : ByteArray) (hn : 0 ≤ n) : ((cutN n s).size : Int) ≤ n := by
  unfold cutN
  rw [ByteArray.size_extract]
  omega
theorem bits_low (p : Int) (n : Nat) (hn : n < 63) : bits .and .i64 p ((2 ^ n - 1 : Nat) : Int) = p % (2 ^ n : Nat) := by
  show IntKind.i64.wrap ((BitVec.ofInt 64 p &&& BitVec.ofInt 64 ((2 ^ n - 1 : Nat) : Int)).toNat : Int) = _
  have hp : 2 ^ n ≤ 2 ^ 62 := Nat.pow_le_pow_right (by omega) (by omega)
  have hp0 : 0 < 2 ^ n := Nat.pos_of_ne_zero (by simp)
  have h2 : (BitVec.ofInt 64 ((2 ^ n - 1 : Nat) : Int)).toNat = 2 ^ n - 1 := by
    rw [BitVec.ofInt_natCast, BitVec.toNat_ofNat]; exact Nat.mod_eq_of_lt (by omega)
  rw [BitVec.toNat_and, h2, Nat.and_two_pow_sub_one_eq_mod, BitVec.toNat_ofInt]
  have hd : ((2 ^ n : Nat) : Int) ∣ ((2 ^ 64 : Nat) : Int) := by
    rw [show (64 : Nat) = n + (64 - n) by omega, Nat.pow_add]
    exact ⟨((2 ^ (64 - n) : Nat) : Int), by simp⟩
  have e1 : (((p % ((2 ^ 64 : Nat) : Int)).toNat % 2 ^ n : Nat) : Int) = p % ((2 ^ n : Nat) : Int) := by
    rw [Int.natCast_emod, Int.toNat_of_nonneg (Int.emod_nonneg _ (by decide)), Int.emod_emod_of_dvd _ hd]
  rw [e1]
  have l0 := Int.emod_nonneg p (show ((2 ^ n : Nat) : Int) ≠ 0 by omega)
  have l1 := Int.emod_lt_of_pos p (show (0 : Int) < ((2 ^ n : Nat) : Int) by omega)
  have l2 : ((2 ^ n : Nat) : Int) ≤ 4611686018427387904 := by have : (2 ^ 62 : Nat) = 4611686018427387904 := rfl; omega
  generalize ((2 ^ n : Nat) : Int) = N at *
  rw [IntKind.wrap_i64]
  omega
theorem bits_7 (p : Int) : bits .and .i64 p 7 = p % 8 := bits_low p 3 (by omega)
theorem bits_15 (p : Int) : bits .and .i64 p 15 = p % 16 := bits_low p 4 (by omega)
/-- What a call of a script makes of a disk. -/
theorem cutN_if (n : Int) (s : ByteArray) : s.extract 0 (if n < (s.size : Int) then n else (s.size : Int)).toNat = cutN n s := by
  unfold cutN
  congr 2
  split <;> omega
def actD (d : DiskD) (o : OpD) : DiskD := if o.k = 0 then d.writeD (o.p % 8) (cutN 252 o.s) else if o.k = 1 then d.syncD else if o.k = 2 then d.crashD (o.f.take 60) else d
end Bw
namespace Go.Proofs.Ytiekjjejoekdeaa
open Go.RowKit Bw Go.Maps
set_option linter.unusedVariables false
variable {W w : World} {l : List Res} {g a c : Nat} {q : Option Nat} {d : DiskD}

theorem set_getR {l : List Res} {i : Nat} {R T : Res} (hi : l[i]? = some R) : (l.set i T)[i]? = some T := by
  rw [List.getElem?_set_self (List.getElem?_eq_some_iff.1 hi).1]
theorem hold_same {W w : World} {l : List Res} {i : Nat} {R : Res} (h : Hold W w l) (hi : l[i]? = some R) : Hold W w (l.set i R) := by
  have e : l.set i R = l := by
    obtain ⟨hl, rfl⟩ := List.getElem?_eq_some_iff.1 hi
    exact List.set_getElem_self hl
  rw [e]; exact h
theorem hold_disk_mono {i c' : Nat} (h : Hold W w (l.set i (diskR g a q c d))) (hl : i < l.length) (hc : c ≤ c') : Hold W w (l.set i (diskR g a q c' d)) := by
  have h1 : DiskAt w ⟨g, a, q⟩ c d := h.get i (R := diskR g a q c d) (by rw [List.getElem?_set_self hl])
  have := h.step i (R := diskR g a q c d) (by rw [List.getElem?_set_self hl]) (diskR g a q c' d) (DiskAt.mono h1 hc) (fun k hk => .inl hk) (AllS.refl _ w)
  rw [List.set_set] at this
  exact this
def ActPost (W : World) (l : List Res) (i g a c : Nat) (d : DiskD) (e : Ending) (w' : World) : Prop := e = .returned (.tuple #[]) ∧ ∃ q', Hold W w' (l.set i (diskR g a q' c d))

theorem _root_.Bw.RowAt.c4 {w : World} {g : Nat} {a b c d : Value} (h : RowAt w g [a, b, c, d]) : w.cell? ⟨g, 0, none⟩ = some a ∧ w.cell? ⟨g, 1, none⟩ = some b ∧ w.cell? ⟨g, 2, none⟩ = some c ∧ w.cell? ⟨g, 3, none⟩ = some d ∧ True :=
  ⟨h.cell 0 (by simp), h.cell 1 (by simp), h.cell 2 (by simp), h.cell 3 (by simp), trivial⟩
set_option maxHeartbeats 1000000 in
theorem act0 (h : Hold W w l) (i : Nat) (hi : l[i]? = some (diskR g a q c d)) (hc : c ≤ 1000000) (p : Int) (s : ByteArray) (f : List Int) (pa : Option Addr) (ca : Nat) :
    Calls Try.prog 28 #[.pointer (some ⟨g, 0, none⟩), .agg #[.int .i64 0, .int .i64 p, .string s, .slice pa f.length ca]] w (ActPost W l i g a (c + 1) (d.writeD (p % 8) (cutN 252 s))) := by
    have b7 := bits_7 p
    have C1 := Lib.hid (fun w (h : Hold W w l) => hWrite h i hi (by omega) (p % 8) (cutN 252 s) (by have := cutN_size (n := 252) s (by omega); omega))
    have HC := Lib.hid (cutN_if 252 s)
    go_enter Try.func28, Try.ntmps28
    go_upto_region 3 with fail
    have r5 := RowAt.made w 32 [.int .i64 0, .int .i64 p, .string s, .slice pa f.length ca]
    replace h := h.next ((Below.refl _ w).alloc (Nat.le_refl _) (.cells #[.int .i64 0, .int .i64 p, .string s, .slice pa f.length ca] 32))
    generalize w.heap.size = g5 at *
    generalize w.alloc (.cells #[.int .i64 0, .int .i64 p, .string s, .slice pa f.length ca] 32) = w3 at *
    obtain ⟨y0, y1, y2, y3, -⟩ := r5.c4
    have m0 : (0 : Int) ≤ min (s.size : Int) 252 := by omega
    have m1 : min (s.size : Int) 252 ≤ (s.size : Int) := by omega
    clear hi
    refine wp_region_later_tail 11 (by kernel_rfl) (by kernel_rfl) ?_
    have l1 := Later.cell_of y1; have l2 := Later.cell_of y2; have l3 := Later.cell_of y3
    have hne := later_ne w3
    simp only [List.take_succ_cons, List.take_zero]
    repeat (go_big_quiet_step (fail))
    refine wpQuiet_nil ?_
    intro w9 hw9
    obtain ⟨u9, rfl⟩ := hw9
    replace h := h.next u9.up
    clear l1 l2 l3 hne y0 y1 y2 y3 r5
    generalize u9.world = w9 at *
    simp only [List.drop_succ_cons, List.drop_zero]
    rw [HC.out]
    clear m0 m1 b7 HC
    generalize (if (252 : Int) < (s.size : Int) then (252 : Int) else (s.size : Int)) = mm at *
    go_wp2_with ((with_reducible refine (C1.out _ h).mono ?_); rintro e w4 ⟨rfl, q', hw⟩)
    go_end0
    exact ⟨rfl, q', hw⟩
set_option maxHeartbeats 1000000 in
theorem act1 (h : Hold W w l) (i : Nat) (hi : l[i]? = some (diskR g a q c d)) (hc : c ≤ 1000000) (p : Int) (s : ByteArray) (f : List Int) (pa : Option Addr) (ca : Nat) :
    Calls Try.prog 28 #[.pointer (some ⟨g, 0, none⟩), .agg #[.int .i64 1, .int .i64 p, .string s, .slice pa f.length ca]] w (ActPost W l i g a c d.syncD) := by
    have C1 := Lib.hid (fun w (h : Hold W w l) => hSync h i hi (by omega))
    go_enter Try.func28, Try.ntmps28
    go_upto_region 5 with fail
    have r5 := RowAt.made w 32 [.int .i64 1, .int .i64 p, .string s, .slice pa f.length ca]
    replace h := h.next ((Below.refl _ w).alloc (Nat.le_refl _) (.cells #[.int .i64 1, .int .i64 p, .string s, .slice pa f.length ca] 32))
    generalize w.heap.size = g5 at *
    generalize w.alloc (.cells #[.int .i64 1, .int .i64 p, .string s, .slice pa f.length ca] 32) = w3 at *
    obtain ⟨y0, y1, y2, y3, -⟩ := r5.c4
    clear y0 y1 y2 y3 r5
    go_wp2_with ((with_reducible refine (C1.out _ h).mono ?_); rintro e w4 ⟨rfl, hw⟩)
    go_end0
    exact ⟨rfl, _, hw⟩
set_option maxHeartbeats 1000000 in
theorem act2 (h : Hold W w l) (i : Nat) (hi : l[i]? = some (diskR g a q c d)) (hc : c ≤ 1000000) (p : Int) (s : ByteArray) (f : List Int) (pa : Option Addr) (ca : Nat) (hl : f.length ≤ 9223372036854775807) (hca : f.length ≤ ca) (hf : IntsAt W pa f) :
    Calls Try.prog 28 #[.pointer (some ⟨g, 0, none⟩), .agg #[.int .i64 2, .int .i64 p, .string s, .slice pa f.length ca]] w (ActPost W l i g a c (d.crashD (f.take 60))) := by
  have hcr : ∀ w, Hold W w l → ∀ n, n = (f.take 60).length → ∀ fc, Calls Try.prog 26 #[.pointer (some ⟨g, 0, none⟩), .slice pa n fc] w fun e w' => e = .returned (.tuple #[]) ∧ Hold W w' (l.set i (diskR g a none c (d.crashD (f.take 60)))) := by
    rintro w h n rfl fc
    have hD : DiskAt w ⟨g, a, q⟩ c d := h.get i hi
    have hcw : d.W.length ≤ c := by obtain ⟨v, m, _, _, h3, _⟩ := hD.mem; omega
    refine hCrash h i hi (by omega) (f.take 60) pa fc ?_ (by rw [List.length_take]; omega) ?_
    · intro k hk
      have hk' : k < f.length := by rw [List.length_take] at hk; omega
      rw [List.getElem_take]
      exact (hf.up h.up) k hk'
    · intro hne x hx hk
      have h1 := hf.lt (fun e => hne (by rw [e]; rfl)) x hx
      have h2 := h.new i hi _ hk
      omega
  by_cases hlen : f.length ≤ 60
  · have C1 := Lib.hid (fun w h => hcr w h f.length (by rw [List.length_take]; omega))
    have j1 : ¬ (60 : Int) < (f.length : Int) := by omega
    clear hcr hlen
    go_enter Try.func28, Try.ntmps28
    go_upto_region 7 with fail
    have r5 := RowAt.made w 32 [.int .i64 2, .int .i64 p, .string s, .slice pa f.length ca]
    replace h := h.next ((Below.refl _ w).alloc (Nat.le_refl _) (.cells #[.int .i64 2, .int .i64 p, .string s, .slice pa f.length ca] 32))
    generalize w.heap.size = g5 at *
    generalize w.alloc (.cells #[.int .i64 2, .int .i64 p, .string s, .slice pa f.length ca] 32) = w3 at *
    obtain ⟨y0, y1, y2, y3, -⟩ := r5.c4
    clear hi hf
    go_wp2_with ((with_reducible refine (C1.out _ h _).mono ?_); rintro e w4 ⟨rfl, hw⟩)
    go_end0
    exact ⟨rfl, _, hw⟩
  · have C1 := Lib.hid (fun w h => hcr w h 60 (by rw [List.length_take]; omega))
    have j1 : (60 : Int) < (f.length : Int) := by omega
    have j2 : (60 : Int) ≤ (f.length : Int) := by omega
    have j3 : (60 : Int) ≤ (ca : Int) := by omega
    have j4 : 60 ≤ ca := by omega
    clear hcr hlen
    go_enter Try.func28, Try.ntmps28
    go_upto_region 7 with fail
    have r5 := RowAt.made w 32 [.int .i64 2, .int .i64 p, .string s, .slice pa f.length ca]
    replace h := h.next ((Below.refl _ w).alloc (Nat.le_refl _) (.cells #[.int .i64 2, .int .i64 p, .string s, .slice pa f.length ca] 32))
    generalize w.heap.size = g5 at *
    generalize w.alloc (.cells #[.int .i64 2, .int .i64 p, .string s, .slice pa f.length ca] 32) = w3 at *
    obtain ⟨y0, y1, y2, y3, -⟩ := r5.c4
    clear hi hf
    go_wp2_with ((with_reducible refine (C1.out _ h _).mono ?_); rintro e w4 ⟨rfl, hw⟩)
    go_end0
    exact ⟨rfl, _, hw⟩
set_option maxHeartbeats 1000000 in
theorem act3 (h : Hold W w l) (i : Nat) (hi : l[i]? = some (diskR g a q c d)) (k : Int) (k0 : k ≠ 0) (k1 : k ≠ 1) (k2 : k ≠ 2) (p : Int) (s : ByteArray) (f : List Int) (pa : Option Addr) (ca : Nat) :
    Calls Try.prog 28 #[.pointer (some ⟨g, 0, none⟩), .agg #[.int .i64 k, .int .i64 p, .string s, .slice pa f.length ca]] w (ActPost W l i g a c d) := by
    have j0 : (k == 0) = false := beq_eq_false_iff_ne.2 k0
    have j1 : (k == 1) = false := beq_eq_false_iff_ne.2 k1
    have j2 : (k == 2) = false := beq_eq_false_iff_ne.2 k2
    have HS := Lib.hid (fun (w : World) (h : Hold W w l) => hold_same h hi)
    clear k0 k1 k2 hi
    have hu := h.next ((Below.refl _ w).alloc (Nat.le_refl _) (.cells #[.int .i64 k, .int .i64 p, .string s, .slice pa f.length ca] 32))
    clear h
    go_enter Try.func28, Try.ntmps28
    go_wp2_with fail
    go_end0
    exact ⟨rfl, q, HS.out _ hu⟩
theorem law4_act (h : Hold W w l) (i : Nat) (hi : l[i]? = some (diskR g a q c d)) (hc : c ≤ 1000000) (o : OpD) (pa : Option Addr) (ca : Nat) (hO : OpIn W o pa ca) :
    Calls Try.prog 28 #[.pointer (some ⟨g, 0, none⟩), .agg #[.int .i64 o.k, .int .i64 o.p, .string o.s, .slice pa o.f.length ca]] w (ActPost W l i g a (c + 1) (actD d o)) := by
  obtain ⟨-, -, -, hF0, hF1, -, hF3⟩ := hO
  have hil : i < l.length := (List.getElem?_eq_some_iff.1 hi).1
  obtain ⟨k, p, s, f⟩ := o
  simp only at hF0 hF1 hF3 ⊢
  have up : ∀ {d' : DiskD} {e : Ending} {w' : World}, ActPost W l i g a c d' e w' → ActPost W l i g a (c + 1) d' e w' := fun ⟨h1, q', h2⟩ => ⟨h1, q', hold_disk_mono h2 hil (by omega)⟩
  unfold actD
  by_cases k0 : k = 0
  · subst k0
    exact act0 h i hi hc p s f pa ca
  · rw [if_neg k0]
    by_cases k1 : k = 1
    · subst k1
      exact (act1 h i hi hc p s f pa ca).mono fun _ _ => up
    · rw [if_neg k1]
      by_cases k2 : k = 2
      · subst k2
        exact (act2 h i hi hc p s f pa ca hF1 hF0 hF3).mono fun _ _ => up
      · rw [if_neg k2]
        exact (act3 h i hi k k0 k1 k2 p s f pa ca).mono fun _ _ => up
theorem new8 (h : Hold W w []) : Calls Try.prog 9 #[.int .i64 8] w fun e w' => ∃ g a, e = .returned (.tuple #[.pointer (some ⟨g, 0, none⟩), .int .i64 0]) ∧ Hold W w' [diskR g a none 0 (initD 8)] := hNew 8 (by omega) (by omega) h
end Go.Proofs.Ytiekjjejoekdeaa
