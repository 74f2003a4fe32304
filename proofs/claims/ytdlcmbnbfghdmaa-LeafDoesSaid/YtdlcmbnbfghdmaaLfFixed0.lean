/- The fixed calls of layer 10: their answers. -/
import Derived.Test.YtdlcmbnbfghdmaaLfCut
import Derived.Test.YtdlcmbnbfghdmaaLfWalk7
import Derived.Test.YtdlcmbnbfghdmaaLfWalk9
import Derived.Test.YtdlcmbnbfghdmaaLfWalk11
namespace Bw
def f1L : List PairD := [(⟨#[98]⟩, ⟨#[120]⟩)]
def f2L : List PairD := [(⟨#[97]⟩, ⟨#[]⟩), (⟨#[98]⟩, ⟨#[120]⟩)]
def f3L : List PairD := [(⟨#[97]⟩, ⟨#[]⟩)]
def e1S : ByteArray := ⟨#[76, 1, 0, 0, 0, 1, 98, 1, 120]⟩
def e2S : ByteArray := ⟨#[76, 2, 0, 0, 0, 1, 97, 0, 1, 98, 1, 120]⟩
end Bw
namespace Go.Proofs.Ytdlcmbnbfghdmaa
open Go.RowKit Bw
set_option linter.unusedVariables false
def LfGot (w : World) (n : Nat) (L : List PairD) (H : ByteArray) (N E : Int) (e : Ending) (w' : World) : Prop := ∃ q c, e = .returned (.tuple #[.agg #[.slice q n c, .string H, .int .i64 N], .int .i64 E]) ∧ (slR q c L).holds w' ∧ NewQ w q ∧ Below w.heap.size w w'
theorem got_of {w : World} {x : LfD} {E E' : Int} {n : Nat} {L : List PairD} {H : ByteArray} {N : Int} {e : Ending} {w' : World} (h : LfPost w x E e w') (h1 : x = ⟨L, H, N⟩) (h2 : L.length = n) (h3 : E = E') : LfGot w n L H N E' e w' := by
  subst h1 h2 h3
  exact h
abbrev lf1 (q : Option Addr) (c : Nat) : Value := .agg #[.slice q 1 c, .string ⟨#[]⟩, .int .i64 0]
abbrev lf2 (q : Option Addr) (c : Nat) : Value := .agg #[.slice q 2 c, .string ⟨#[]⟩, .int .i64 0]
abbrev lf3 (q : Option Addr) (c : Nat) : Value := .agg #[.slice q 1 c, .string ⟨#[98]⟩, .int .i64 7]
theorem sm0 : LfD.Sm ⟨[], ⟨#[]⟩, 0⟩ := LfD.sm (by kernel_rfl)
theorem sm1 : LfD.Sm ⟨f1L, ⟨#[]⟩, 0⟩ := LfD.sm (by kernel_rfl)
theorem sm2 : LfD.Sm ⟨f2L, ⟨#[]⟩, 0⟩ := LfD.sm (by kernel_rfl)
theorem sm3 : LfD.Sm ⟨f3L, ⟨#[98]⟩, 7⟩ := LfD.sm (by kernel_rfl)
theorem fp1 (w : World) : Calls Try.prog 25 #[.agg #[.slice none 0 0, .string ⟨#[]⟩, .int .i64 0], .string ⟨#[98]⟩, .string ⟨#[120]⟩] w (LfGot w 1 f1L ⟨#[]⟩ 0 0) :=
  (leaf_Put ⟨[], ⟨#[]⟩, 0⟩ sm0 ⟨#[98]⟩ ⟨#[120]⟩ (by decide) (by decide) none 0 w ⟨PairsAt.nil w none, Nat.le_refl _, fun _ => rfl⟩).mono fun e w' h => got_of h (by kernel_rfl) rfl (by kernel_rfl)
theorem fp2 (w : World) (q : Option Addr) (c : Nat) (h : SlAt w q c f1L) : Calls Try.prog 25 #[lf1 q c, .string ⟨#[97]⟩, .string ⟨#[]⟩] w (LfGot w 2 f2L ⟨#[]⟩ 0 0) :=
  (leaf_Put ⟨f1L, ⟨#[]⟩, 0⟩ sm1 ⟨#[97]⟩ ⟨#[]⟩ (by decide) (by decide) q c w h).mono fun e w' h => got_of h (by kernel_rfl) rfl (by kernel_rfl)
theorem fp3 (w : World) (q : Option Addr) (c : Nat) (h : SlAt w q c f3L) : Calls Try.prog 25 #[lf3 q c, .string ⟨#[98]⟩, .string ⟨#[120]⟩] w (LfGot w 0 [] ⟨#[]⟩ 0 1) :=
  (leaf_Put ⟨f3L, ⟨#[98]⟩, 7⟩ sm3 ⟨#[98]⟩ ⟨#[120]⟩ (by decide) (by decide) q c w h).mono fun e w' h => got_of h (by kernel_rfl) rfl (by kernel_rfl)
theorem fg1 (w : World) (q : Option Addr) (c : Nat) (h : SlAt w q c f2L) : Calls Try.prog 23 #[lf2 q c, .string ⟨#[98]⟩] w fun e w' => e = .returned (.tuple #[.string ⟨#[120]⟩, .int .i64 0]) ∧ Below w.heap.size w w' := by
  have := leaf_Get ⟨f2L, ⟨#[]⟩, 0⟩ sm2 q c ⟨#[98]⟩ w h.1
  rw [show getS ⟨f2L, ⟨#[]⟩, 0⟩ ⟨#[98]⟩ = ⟨#[120]⟩ by kernel_rfl, show getE ⟨f2L, ⟨#[]⟩, 0⟩ ⟨#[98]⟩ = 0 by kernel_rfl] at this
  exact this
theorem fg2 (w : World) (q : Option Addr) (c : Nat) (h : SlAt w q c f2L) : Calls Try.prog 23 #[lf2 q c, .string ⟨#[99]⟩] w fun e w' => e = .returned (.tuple #[.string ⟨#[]⟩, .int .i64 7]) ∧ Below w.heap.size w w' := by
  have := leaf_Get ⟨f2L, ⟨#[]⟩, 0⟩ sm2 q c ⟨#[99]⟩ w h.1
  rw [show getS ⟨f2L, ⟨#[]⟩, 0⟩ ⟨#[99]⟩ = ⟨#[]⟩ by kernel_rfl, show getE ⟨f2L, ⟨#[]⟩, 0⟩ ⟨#[99]⟩ = 7 by kernel_rfl] at this
  exact this
theorem fd1 (w : World) (q : Option Addr) (c : Nat) (h : SlAt w q c f2L) : Calls Try.prog 27 #[lf2 q c, .string ⟨#[98]⟩] w (LfGot w 1 f3L ⟨#[]⟩ 0 0) :=
  (leaf_Del ⟨f2L, ⟨#[]⟩, 0⟩ sm2 ⟨#[98]⟩ q c w h).mono fun e w' h => got_of h (by kernel_rfl) rfl (by kernel_rfl)
def LfGot2 (w : World) (e : Ending) (w' : World) : Prop := ∃ q c q2 c2, e = .returned (.tuple #[lf3 q c, lf1 q2 c2, .int .i64 0]) ∧ (slR q c f3L).holds w' ∧ NewQ w q ∧ (slR q2 c2 f1L).holds w' ∧ NewQ w q2 ∧ Below w.heap.size w w'
theorem fs1 (w : World) (q : Option Addr) (c : Nat) (h : SlAt w q c f2L) : Calls Try.prog 29 #[lf2 q c, .int .i64 6] w (LfGot2 w) :=
  (leaf_Split ⟨f2L, ⟨#[]⟩, 0⟩ sm2 6 q c w h).mono fun e w' h => by
    rw [show sA ⟨f2L, ⟨#[]⟩, 0⟩ 6 = ⟨f3L, ⟨#[98]⟩, 7⟩ by kernel_rfl, show sB ⟨f2L, ⟨#[]⟩, 0⟩ 6 = ⟨f1L, ⟨#[]⟩, 0⟩ by kernel_rfl, show sE ⟨f2L, ⟨#[]⟩, 0⟩ 6 = 0 by kernel_rfl] at h
    exact h
theorem fs2 (w : World) (q : Option Addr) (c : Nat) (h : SlAt w q c f1L) : Calls Try.prog 29 #[lf1 q c, .int .i64 6] w fun e w' => ∃ q c q2 c2, e = .returned (.tuple #[.agg #[.slice q 0 c, .string ⟨#[]⟩, .int .i64 0], .agg #[.slice q2 0 c2, .string ⟨#[]⟩, .int .i64 0], .int .i64 1]) ∧ Below w.heap.size w w' :=
  (leaf_Split ⟨f1L, ⟨#[]⟩, 0⟩ sm1 6 q c w h).mono fun e w' h => by
    rw [show sA ⟨f1L, ⟨#[]⟩, 0⟩ 6 = ⟨[], ⟨#[]⟩, 0⟩ by kernel_rfl, show sB ⟨f1L, ⟨#[]⟩, 0⟩ 6 = ⟨[], ⟨#[]⟩, 0⟩ by kernel_rfl, show sE ⟨f1L, ⟨#[]⟩, 0⟩ 6 = 1 by kernel_rfl] at h
    obtain ⟨q, c, q2, c2, h1, -, -, -, -, h2⟩ := h
    exact ⟨q, c, q2, c2, h1, h2⟩
theorem fj1 (w : World) (q q2 : Option Addr) (c c2 : Nat) (h : SlAt w q c f3L) (h2 : SlAt w q2 c2 f1L) : Calls Try.prog 31 #[lf3 q c, lf1 q2 c2] w (LfGot w 2 f2L ⟨#[]⟩ 0 0) :=
  (leaf_Join ⟨f3L, ⟨#[98]⟩, 7⟩ ⟨f1L, ⟨#[]⟩, 0⟩ sm3 sm1 q q2 c c2 w h h2).mono fun e w' h => got_of h (by kernel_rfl) rfl (by kernel_rfl)
theorem fe1 (w : World) (q : Option Addr) (c : Nat) (h : SlAt w q c f1L) : Calls Try.prog 18 #[lf1 q c] w fun e w' => e = .returned (.string ⟨#[76, 1, 0, 0, 0, 1, 98, 1, 120]⟩) ∧ Below w.heap.size w w' := by
  have := leaf_Encode ⟨f1L, ⟨#[]⟩, 0⟩ sm1 q c w h.1
  rw [show LfD.enc ⟨f1L, ⟨#[]⟩, 0⟩ = ⟨#[76, 1, 0, 0, 0, 1, 98, 1, 120]⟩ by kernel_rfl] at this
  exact this
theorem fe2 (w : World) (q : Option Addr) (c : Nat) (h : SlAt w q c f2L) : Calls Try.prog 18 #[lf2 q c] w fun e w' => e = .returned (.string e2S) ∧ Below w.heap.size w w' := by
  have := leaf_Encode ⟨f2L, ⟨#[]⟩, 0⟩ sm2 q c w h.1
  rw [show LfD.enc ⟨f2L, ⟨#[]⟩, 0⟩ = e2S by kernel_rfl] at this
  exact this
theorem dec1_l : lst (e2S ++ ⟨#[0]⟩) = lst ⟨#[76, 2, 0, 0, 0, 1, 97, 0, 1, 98, 1, 120, 0]⟩ := by kernel_rfl
theorem dec2_l : lst (e2S ++ ⟨#[1]⟩) = lst ⟨#[76, 2, 0, 0, 0, 1, 97, 0, 1, 98, 1, 120, 1]⟩ := by kernel_rfl
theorem dec1_s : (e2S ++ ⟨#[0]⟩ : ByteArray).size = 13 := by kernel_rfl
theorem dec2_s : (e2S ++ ⟨#[1]⟩ : ByteArray).size = 13 := by kernel_rfl
theorem dec1_o : decLO (e2S ++ ⟨#[0]⟩) = some ⟨f2L, ⟨#[]⟩, 0⟩ := by
  unfold decLO
  rw [dec1_s, dec1_l]
  kernel_rfl
theorem dec2_o : decLO (e2S ++ ⟨#[1]⟩) = none := by
  unfold decLO
  rw [dec2_s, dec2_l]
  kernel_rfl
theorem fdec1 (w : World) : Calls Try.prog 11 #[.string (e2S ++ ⟨#[0]⟩)] w (LfGot w 2 f2L ⟨#[]⟩ 0 0) := by
  have := leaf_Decode (e2S ++ ⟨#[0]⟩) (by rw [dec1_s]; decide) w
  rw [decLD, decLE, dec1_o] at this
  exact this.mono fun e w' h => got_of h rfl rfl rfl
theorem fdec2 (w : World) : Calls Try.prog 11 #[.string (e2S ++ ⟨#[1]⟩)] w (LfGot w 0 [] ⟨#[]⟩ 0 4) := by
  have := leaf_Decode (e2S ++ ⟨#[1]⟩) (by rw [dec2_s]; decide) w
  rw [decLD, decLE, dec2_o] at this
  exact this.mono fun e w' h => got_of h rfl rfl rfl
theorem fsame (w : World) (q q2 : Option Addr) (c c2 : Nat) (h : SlAt w q c f2L) (h2 : SlAt w q2 c2 f2L) : Calls Try.prog 20 #[lf2 q c, lf2 q2 c2] w fun e w' => e = .returned (.bool true) ∧ Below w.heap.size w w' := by
  have := leaf_Same ⟨f2L, ⟨#[]⟩, 0⟩ ⟨f2L, ⟨#[]⟩, 0⟩ q q2 c c2 w h.1 h2.1 (by decide) (by decide)
  rw [show LfD.same ⟨f2L, ⟨#[]⟩, 0⟩ ⟨f2L, ⟨#[]⟩, 0⟩ = true by kernel_rfl] at this
  exact this
theorem fsize (w : World) (q : Option Addr) (c : Nat) (h : SlAt w q c f2L) : Calls Try.prog 16 #[lf2 q c] w fun e w' => e = .returned (.int .i64 12) ∧ Below w.heap.size w w' := by
  have := leaf_Size ⟨f2L, ⟨#[]⟩, 0⟩ sm2 q c w h.1
  rw [show LfD.size ⟨f2L, ⟨#[]⟩, 0⟩ = 12 by kernel_rfl] at this
  exact this
theorem fright (w : World) (q : Option Addr) (c : Nat) (h : SlAt w q c f2L) : Calls Try.prog 13 #[lf2 q c] w fun e w' => e = .returned (.bool true) ∧ Below w.heap.size w w' := by
  have := leaf_Right ⟨f2L, ⟨#[]⟩, 0⟩ sm2 q c w h.1
  rw [show LfD.right ⟨f2L, ⟨#[]⟩, 0⟩ = true by kernel_rfl] at this
  exact this
theorem fright2 (w : World) : Calls Try.prog 13 #[.agg #[.slice none 0 0, .string ⟨#[]⟩, .int .i64 (-1)]] w fun e w' => e = .returned (.bool false) ∧ Below w.heap.size w w' := by
  have := leaf_Right ⟨[], ⟨#[]⟩, -1⟩ ⟨by decide, by decide, by simp⟩ none 0 w (PairsAt.nil w none)
  rw [show LfD.right ⟨[], ⟨#[]⟩, -1⟩ = false by kernel_rfl] at this
  exact this
end Go.Proofs.Ytdlcmbnbfghdmaa
