/- The fixed calls of layer 4. -/
import Derived.Test.YtiekjjejoekdeaaDsHold
import Derived.Test.YtiekjjejoekdeaaDsFix0
namespace Go.Proofs.Ytiekjjejoekdeaa
open Go.RowKit Bw Go.Maps
set_option linter.unusedVariables false
def wsA : ByteArray := wholeS fA
def wsC : ByteArray := wholeS fC
def ws0 : ByteArray := wholeS ByteArray.empty
def fX0 : ByteArray := fd7.readS 0
def fX1 : ByteArray := fo1.readS (-1)
def fX2 : ByteArray := fd7.rawD 0
section
variable {W w : World} {g a g2 a2 : Nat} {q q2 : Option Nat}
theorem fx0 (h : Hold W w []) : Calls Try.prog 9 #[.int .i64 2] w fun e w' => ∃ g a, e = .returned (.tuple #[.pointer (some ⟨g, 0, none⟩), .int .i64 0]) ∧ Hold W w' [diskR g a none 0 fd0] := hNew 2 (by omega) (by omega) h
theorem fx0' (w : World) : Calls Try.prog 9 #[.int .i64 0] w fun e w' => e = .returned (.tuple #[.pointer none, .int .i64 1]) ∧ w = w' := disk_New_no 0 (by omega) w
theorem fx1 (h : Hold W w [diskR g a q 0 fd0]) : Calls Try.prog 20 #[.pointer (some ⟨g, 0, none⟩), .int .i64 1] w fun e w' => e = .returned (.tuple #[.string ws0, .int .i64 0]) ∧ Below w.heap.size w w' ∧ Hold W w' [diskR g a q 0 fd0] := by
  have := hRead h 0 rfl (by omega) 1
  rw [fr0, fs0] at this
  exact this
theorem fx2 (h : Hold W w [diskR g a q 0 fd0]) : Calls Try.prog 13 #[.pointer (some ⟨g, 0, none⟩), .int .i64 0, .string ⟨#[97]⟩] w fun e w' => e = .returned (.int .i64 0) ∧ ∃ q', Hold W w' [diskR g a q' 1 fd1] := by
  have := hWrite h 0 rfl (by omega) 0 fA (by decide)
  rw [fe1] at this
  exact this
theorem fx3 (h : Hold W w [diskR g a q 1 fd1]) : Calls Try.prog 14 #[.pointer (some ⟨g, 0, none⟩)] w fun e w' => e = .returned (.tuple #[]) ∧ Hold W w' [diskR g a none 1 fd2] := hSync h 0 rfl (by omega)
theorem fx4 (h : Hold W w [diskR g a q 1 fd2]) : Calls Try.prog 13 #[.pointer (some ⟨g, 0, none⟩), .int .i64 0, .string ⟨#[98]⟩] w fun e w' => e = .returned (.int .i64 0) ∧ ∃ q', Hold W w' [diskR g a q' 2 fd3] := by
  have := hWrite h 0 rfl (by omega) 0 fB (by decide)
  rw [fe3] at this
  exact this
theorem fx5 (h : Hold W w [diskR g a q 2 fd3]) : Calls Try.prog 13 #[.pointer (some ⟨g, 0, none⟩), .int .i64 1, .string ⟨#[99]⟩] w fun e w' => e = .returned (.int .i64 0) ∧ ∃ q', Hold W w' [diskR g a q' 3 fd4] := by
  have := hWrite h 0 rfl (by omega) 1 fC (by decide)
  rw [fe4] at this
  exact this
theorem fx6 (h : Hold W w [diskR g a q 3 fd4]) : Calls Try.prog 13 #[.pointer (some ⟨g, 0, none⟩), .int .i64 2, .string ⟨#[120]⟩] w fun e w' => e = .returned (.int .i64 1) ∧ ∃ q', Hold W w' [diskR g a q' 4 fd5] := by
  have := hWrite h 0 rfl (by omega) 2 fX (by decide)
  rw [fe5] at this
  exact this
theorem fx7 (h : Hold W w [diskR g a q 4 fd5]) : Calls Try.prog 13 #[.pointer (some ⟨g, 0, none⟩), .int .i64 0, .string fZ] w fun e w' => e = .returned (.int .i64 2) ∧ ∃ q', Hold W w' [diskR g a q' 5 fd6] := by
  have := hWrite h 0 rfl (by omega) 0 fZ (by decide +kernel)
  rw [fe6] at this
  exact this
variable {v : Option Addr}
theorem fx8 (h : Hold W w [diskR g a q 5 fd6]) : Calls Try.prog 17 #[.pointer (some ⟨g, 0, none⟩)] w fun e w' => ∃ v cap, e = .returned (.slice v 2 cap) ∧ Hold W w' [diskR g a q 5 fd6, intsR v [0, 1]] := by
  have := hDirty h 0 rfl (by omega)
  rw [fdirty6] at this
  exact this.mono fun e w' ⟨v, cap, he, _, h⟩ => ⟨v, cap, he, h⟩
theorem fx9 (h : Hold W w [diskR g a q 5 fd6, intsR v [0, 1]]) : Calls Try.prog 11 #[.pointer (some ⟨g, 0, none⟩)] w fun e w' => ∃ g' a' q', e = .returned (.pointer (some ⟨g', 0, none⟩)) ∧ Below w.heap.size w w' ∧ Hold W w' [diskR g a q 5 fd6, intsR v [0, 1], diskR g' a' q' 5 fd6] := hCopy h 0 rfl (by omega)
theorem fx10 (h : Hold W w [diskR g a q 5 fd6, intsR v [0, 1], diskR g2 a2 q2 5 fd6]) : Calls Try.prog 26 #[.pointer (some ⟨g, 0, none⟩), .slice (some ⟨w.heap.size, 0, none⟩) 2 2] (w.alloc (.cells #[.int .i64 2, .int .i64 1] 3)) fun e w' => e = .returned (.tuple #[]) ∧ Hold W w' [diskR g a none 5 fd7, intsR v [0, 1], diskR g2 a2 q2 5 fd6] := by
  have h2 := h.next ((Below.refl _ w).alloc (Nat.le_refl _) (.cells #[.int .i64 2, .int .i64 1] 3))
  refine hCrash h2 0 rfl (by rw [fw6]; omega) [2, 1] (some ⟨w.heap.size, 0, none⟩) 2 ?_ (by simp) ?_
  · have hr := RowAt.made w 3 [.int .i64 2, .int .i64 1]
    obtain ⟨r0, r1, -⟩ := hr.c2
    intro k hk
    refine ⟨w.heap.size, 0, rfl, ?_⟩
    have hk' : k = 0 ∨ k = 1 := by simp at hk; omega
    rcases hk' with rfl | rfl
    · exact r0
    · exact r1
  · intro _ x hx hk
    obtain rfl := Option.some.inj hx
    have := (diskR g a q 5 fd6).lt (h.get 0 rfl) hk
    simp at this
theorem fx11 (h : Hold W w [diskR g a q 5 fd7, intsR v [0, 1], diskR g2 a2 q2 5 fd6]) : Calls Try.prog 20 #[.pointer (some ⟨g, 0, none⟩), .int .i64 0] w fun e w' => e = .returned (.tuple #[.string fX0, .int .i64 5]) ∧ Below w.heap.size w w' ∧ Hold W w' [diskR g a q 5 fd7, intsR v [0, 1], diskR g2 a2 q2 5 fd6] := by
  have := hRead h 0 rfl (by omega) 0
  rw [fr7] at this
  exact this
theorem fx12 (h : Hold W w [diskR g a q 5 fd7, intsR v [0, 1], diskR g2 a2 q2 5 fd6]) : Calls Try.prog 20 #[.pointer (some ⟨g, 0, none⟩), .int .i64 1] w fun e w' => e = .returned (.tuple #[.string wsC, .int .i64 0]) ∧ Below w.heap.size w w' ∧ Hold W w' [diskR g a q 5 fd7, intsR v [0, 1], diskR g2 a2 q2 5 fd6] := by
  have := hRead h 0 rfl (by omega) 1
  rw [fr7', fs7'] at this
  exact this
theorem fx13 (h : Hold W w [diskR g a q 5 fd7, intsR v [0, 1], diskR g2 a2 q2 5 fd6]) : Calls Try.prog 26 #[.pointer (some ⟨g2, 0, none⟩), .slice none 0 0] w fun e w' => e = .returned (.tuple #[]) ∧ Hold W w' [diskR g a q 5 fd7, intsR v [0, 1], diskR g2 a2 none 5 fo1] :=
  hCrash h 2 rfl (by rw [fw6]; omega) [] none 0 (IntsAt.nil _ _) (by simp) (fun _ x hx => by cases hx)
theorem fx14 (h : Hold W w [diskR g a q 5 fd7, intsR v [0, 1], diskR g2 a2 q2 5 fo1]) : Calls Try.prog 20 #[.pointer (some ⟨g2, 0, none⟩), .int .i64 0] w fun e w' => e = .returned (.tuple #[.string wsA, .int .i64 0]) ∧ Below w.heap.size w w' ∧ Hold W w' [diskR g a q 5 fd7, intsR v [0, 1], diskR g2 a2 q2 5 fo1] := by
  have := hRead h 2 rfl (by omega) 0
  rw [fro, fso] at this
  exact this
theorem fx15 (h : Hold W w [diskR g a q 5 fd7, intsR v [0, 1], diskR g2 a2 q2 5 fo1]) : Calls Try.prog 20 #[.pointer (some ⟨g2, 0, none⟩), .int .i64 (-1)] w fun e w' => e = .returned (.tuple #[.string fX1, .int .i64 1]) ∧ Below w.heap.size w w' ∧ Hold W w' [diskR g a q 5 fd7, intsR v [0, 1], diskR g2 a2 q2 5 fo1] := by
  have := hRead h 2 rfl (by omega) (-1)
  rw [fro'] at this
  exact this
theorem fx16 (h : Hold W w [diskR g a q 5 fd7, intsR v [0, 1], diskR g2 a2 q2 5 fo1]) : Calls Try.prog 22 #[.pointer (some ⟨g, 0, none⟩), .int .i64 0] w fun e w' => e = .returned (.string fX2) ∧ Below w.heap.size w w' ∧ Hold W w' [diskR g a q 5 fd7, intsR v [0, 1], diskR g2 a2 q2 5 fo1] := hRaw h 0 rfl (by omega) 0
theorem fx17 (h : Hold W w [diskR g a q 5 fd7, intsR v [0, 1], diskR g2 a2 q2 5 fo1]) : Calls Try.prog 22 #[.pointer (some ⟨g, 0, none⟩), .int .i64 2] w fun e w' => e = .returned (.string ⟨#[]⟩) ∧ Below w.heap.size w w' ∧ Hold W w' [diskR g a q 5 fd7, intsR v [0, 1], diskR g2 a2 q2 5 fo1] := by
  have := hRaw h 0 rfl (by omega) 2
  rw [fraw2] at this
  exact this
theorem fx18 (h : Hold W w [diskR g a q 5 fd7, intsR v [0, 1], diskR g2 a2 q2 5 fo1]) : Calls Try.prog 19 #[.pointer (some ⟨g, 0, none⟩)] w fun e w' => e = .returned (.int .i64 2) ∧ w' = w := by
  have := hLen h 0 rfl
  rw [fn7] at this
  exact this
theorem fx19 (h : Hold W w [diskR g a q 5 fd7, intsR v [0, 1], diskR g2 a2 q2 5 fo1]) : Calls Try.prog 17 #[.pointer (some ⟨g, 0, none⟩)] w fun e w' => ∃ u cap, e = .returned (.slice u 0 cap) ∧ Below w.heap.size w w' ∧ Hold W w' [diskR g a q 5 fd7, intsR v [0, 1], diskR g2 a2 q2 5 fo1] := by
  have := hDirty h 0 rfl (by omega)
  rw [fdirty7] at this
  exact this.mono fun e w' ⟨u, cap, he, hB, h⟩ => ⟨u, cap, he, hB, h.drop⟩
theorem fxI {cap : Nat} (h : Hold W w [diskR g a q 5 fd7, intsR v [0, 1], diskR g2 a2 q2 5 fo1]) : Calls Try.prog 16 #[.slice v 2 cap, .slice (some ⟨w.heap.size, 0, none⟩) 2 2] (w.alloc (.cells #[.int .i64 0, .int .i64 1] 3)) fun e w' => e = .returned (.bool true) ∧ Below w.heap.size w w' := by
  have hB := (Below.refl w.heap.size w).alloc (Nat.le_refl _) (.cells #[.int .i64 0, .int .i64 1] 3)
  have hr := RowAt.made w 3 [.int .i64 0, .int .i64 1]
  obtain ⟨r0, r1, -⟩ := hr.c2
  have := ref2_Ints [0, 1] [0, 1] v (some ⟨w.heap.size, 0, none⟩) cap 2 _ ((h.get 1 rfl).1.up hB) (fun k hk => by
    refine ⟨w.heap.size, 0, rfl, ?_⟩
    have hk' : k = 0 ∨ k = 1 := by simp at hk; omega
    rcases hk' with rfl | rfl
    · exact r0
    · exact r1) (by simp)
  rw [show decide (([0, 1] : List Int) = [0, 1]) = true from rfl] at this
  exact this.mono fun e w' ⟨he, hu⟩ => ⟨he, (show Up w w' from (show Up w _ from hB).next hu)⟩
end
end Go.Proofs.Ytiekjjejoekdeaa
