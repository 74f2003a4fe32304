import Derived.Test.YtijbfacfloljoaaSumWalk4
namespace Go.Proofs.Ytijbfacfloljoaa
open Go.RowKit Bw
set_option linter.unusedVariables false

def zeros (n : Nat) : ByteArray := str (List.replicate n 0)

theorem c253 : (253 : Int) = ((253 : Nat) : Int) := rfl
theorem c256 : (256 : Int) = ((256 : Nat) : Int) := rfl
theorem l253 : 253 = (List.replicate 253 (0 : UInt8)).length := List.length_replicate.symm
theorem l256 : 256 = (List.replicate 256 (0 : UInt8)).length := List.length_replicate.symm
theorem n253 : 253 ≤ 281474976710656 := by omega
theorem n256 : 256 ≤ 281474976710656 := by omega

theorem wpList_toStringAs {P : Program} {w : World} {ops : Array Oper} {rest : List Oper} {o : Oper} {a : Act} {Q : Exit → Act → World → Prop} (hgd : o.guard = none) (x : Operand) (sT dT e : TypeId) (ho : o.op = .convert sT dT x)
    (hs : P.underlying sT = some (.slice e)) (hd : P.underlying dT = some .string) (he : P.underlying e = some (.int .u8))
    (l : List UInt8) (r : ByteArray) (hr : str l = r) (g off n cap : Nat) (hx : a.eval x = .slice (some ⟨g, off, none⟩) n cap) (hn : n = l.length) (hl : BytesAt w g off l)
    (h : wpList P ops Q rest (a.put o.dst (.string r)) w) : wpList P ops Q (o :: rest) a w := by
  subst hr
  exact wpList_toString hgd x sT dT e ho hs hd he l g off n cap hx hn hl h
theorem z253 : str (List.replicate 253 0) = zeros 253 := rfl
theorem z256 : str (List.replicate 256 0) = zeros 256 := rfl

theorem zeros_open : openE (zeros 256) = 5 := by
  have h : crcOf ((zeros 256).extract 0 252) ≠ 0 := by decide +kernel
  have h2 : le ((lst (zeros 256)).drop 252) = 0 := by decide +kernel
  have h3 : (zeros 256).size = 256 := by rw [zeros, size_str, List.length_replicate]
  rw [openE, if_pos h3, h2, if_neg (fun e => h e.symm)]

set_option maxHeartbeats 2000000 in
set_option maxRecDepth 100000 in
theorem law2_fixed (w : World) :
    Calls Try.prog 17 #[] w fun e w' => e = .returned (.bool true) ∧ Below w.heap.size w w' := by
  have hab : (⟨#[97, 98]⟩ : ByteArray).size ≤ 252 := by decide +kernel
  obtain ⟨o1, o2⟩ := open_seal hab
  have c1 := fun w => sum_Seal ⟨#[97, 98]⟩ w (by decide +kernel)
  rw [show sealE ⟨#[97, 98]⟩ = 0 by decide +kernel] at c1
  have c2 := fun w => sum_Open (sealS ⟨#[97, 98]⟩) w (by rw [sealS_size hab]; omega)
  rw [o1, o2] at c2
  have hz : (sealS ⟨#[97, 98]⟩).size = 256 := sealS_size hab
  have c3 := fun w => sum_Seal (zeros 253) w (by decide +kernel)
  rw [show sealE (zeros 253) = 2 by decide +kernel, show sealS (zeros 253) = ByteArray.empty by decide +kernel] at c3
  have c4 := fun w => sum_Open ⟨#[97, 98]⟩ w (by decide +kernel)
  rw [show openE ⟨#[97, 98]⟩ = 4 by decide +kernel, show openS ⟨#[97, 98]⟩ = ByteArray.empty by decide +kernel] at c4
  have c5 := fun w => sum_Open (zeros 256) w (by decide +kernel)
  rw [zeros_open, show openS (zeros 256) = ByteArray.empty by rw [openS, zeros_open]; rfl] at c5
  have c6 := fun w => ref1_Pad ⟨#[97, 98]⟩ (252 : Nat) w (by decide +kernel)
  rw [wholeS_pad hab, show ((252 : Nat) : Int) = 252 from rfl] at c6
  have c7 := fun w => sum_Of ⟨#[49, 50, 51, 52, 53, 54, 55, 56, 57]⟩ w (by decide +kernel)
  rw [show crcOf ⟨#[49, 50, 51, 52, 53, 54, 55, 56, 57]⟩ = 3808858755 by decide +kernel, show ((3808858755 : Nat) : Int) = 3808858755 from rfl] at c7
  have c8 := fun w => sum_Of ⟨#[]⟩ w (by decide +kernel)
  rw [show crcOf ⟨#[]⟩ = 0 by decide +kernel, show ((0 : Nat) : Int) = 0 from rfl] at c8
  have c9 := fun w => sum_Torn ⟨#[97, 98]⟩ ⟨#[120, 121, 122]⟩ w (by decide +kernel) (by decide +kernel)
  rw [show tornS ⟨#[97, 98]⟩ ⟨#[120, 121, 122]⟩ = ⟨#[97, 98]⟩ by decide +kernel] at c9
  clear o1 o2 hab
  have hz2 : ((sealS ⟨#[97, 98]⟩).size : Int) = 256 := by rw [hz]; rfl
  clear hz
  generalize sealS ⟨#[97, 98]⟩ = P at *
  generalize wholeS ⟨#[97, 98]⟩ = W at *
  generalize padE ⟨#[97, 98]⟩ 252 = E6 at *
  have C1 := Lib.hid c1; clear c1
  have C2 := Lib.hid c2; clear c2
  have C3 := Lib.hid c3; clear c3
  have C4 := Lib.hid c4; clear c4
  have C5 := Lib.hid c5; clear c5
  have C6 := Lib.hid c6; clear c6
  have C7 := Lib.hid c7; clear c7
  have C8 := Lib.hid c8; clear c8
  have C9 := Lib.hid c9; clear c9
  have hu := Up.refl w
  go_enter Try.func17, Try.ntmps17
  go_wp2_with (first
    | (with_reducible refine (C1.out _).mono ?_; rintro e w1 ⟨rfl, hw1⟩; replace hu := hu.next hw1; clear hw1)
    | (with_reducible refine (C2.out _).mono ?_; rintro e w2 ⟨rfl, hw1⟩; replace hu := hu.next hw1; clear hw1)
    | (with_reducible refine wpList_makeBytes rfl _ _ 32 5 rfl Try.underlying32 u8info _ _ _ _ 253 rfl rfl c253 c253 n253 _ _ (Below.refl _ _) (Nat.le_refl _) ?_; intro g3 w3 hb3 hw3 hw3' hg3 hg3'; replace hu := hu.next hw3)
    | (with_reducible refine wpList_toStringAs rfl _ 32 9 5 rfl Try.underlying32 Try.underlying9 Try.underlying5 (List.replicate 253 0) _ z253 g3 0 253 253 rfl l253 hb3 ?_)
    | (with_reducible refine (C3.out _).mono ?_; rintro e w4 ⟨rfl, hw1⟩; replace hu := hu.next hw1; clear hw1)
    | (with_reducible refine (C4.out _).mono ?_; rintro e w5 ⟨rfl, hw1⟩; replace hu := hu.next hw1; clear hw1)
    | (with_reducible refine wpList_makeBytes rfl _ _ 32 5 rfl Try.underlying32 u8info _ _ _ _ 256 rfl rfl c256 c256 n256 _ _ (Below.refl _ _) (Nat.le_refl _) ?_; intro g6 w6 hb6 hw6 hw6' hg6 hg6'; replace hu := hu.next hw6)
    | (with_reducible refine wpList_toStringAs rfl _ 32 9 5 rfl Try.underlying32 Try.underlying9 Try.underlying5 (List.replicate 256 0) _ z256 g6 0 256 256 rfl l256 hb6 ?_)
    | (with_reducible refine (C5.out _).mono ?_; rintro e w7 ⟨rfl, hw1⟩; replace hu := hu.next hw1; clear hw1)
    | (with_reducible refine (C6.out _).mono ?_; rintro e w8 ⟨rfl, hw1⟩; replace hu := hu.next hw1; clear hw1)
    | (with_reducible refine (C7.out _).mono ?_; rintro e w9 ⟨rfl, hw1⟩; replace hu := hu.next hw1; clear hw1)
    | (with_reducible refine (C8.out _).mono ?_; rintro e w10 ⟨rfl, hw1⟩; replace hu := hu.next hw1; clear hw1)
    | (with_reducible refine (C9.out _).mono ?_; rintro e w11 ⟨rfl, hw1⟩; replace hu := hu.next hw1; clear hw1))
  go_ret
  exact ⟨rfl, hu⟩
end Go.Proofs.Ytijbfacfloljoaa
