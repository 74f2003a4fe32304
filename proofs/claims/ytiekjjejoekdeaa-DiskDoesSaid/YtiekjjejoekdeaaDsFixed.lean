/- The fixed calls of layer 4: the walk. -/
import Derived.Test.YtiekjjejoekdeaaDsFix
namespace Go.Proofs.Ytiekjjejoekdeaa
open Go.RowKit Bw Go.Maps
set_option linter.unusedVariables false
theorem c253 : (253 : Int) = ((253 : Nat) : Int) := rfl
theorem l253 : 253 = (List.replicate 253 (0 : UInt8)).length := List.length_replicate.symm
theorem n253 : 253 ≤ 281474976710656 := by omega
theorem z253 : str (List.replicate 253 0) = fZ := rfl
theorem wpList_toStringAs {P : Program} {w : World} {ops : Array Oper} {rest : List Oper} {o : Oper} {a : Act} {Q : Exit → Act → World → Prop} (hgd : o.guard = none) (x : Operand) (sT dT e : TypeId) (ho : o.op = .convert sT dT x)
    (hs : P.underlying sT = some (.slice e)) (hd : P.underlying dT = some .string) (he : P.underlying e = some (.int .u8))
    (l : List UInt8) (r : ByteArray) (hr : str l = r) (g off n cap : Nat) (hx : a.eval x = .slice (some ⟨g, off, none⟩) n cap) (hn : n = l.length) (hl : BytesAt w g off l)
    (h : wpList P ops Q rest (a.put o.dst (.string r)) w) : wpList P ops Q (o :: rest) a w := by
  subst hr
  exact wpList_toString hgd x sT dT e ho hs hd he l g off n cap hx hn hl h
theorem fxp {s : ByteArray} (h : s.size ≤ 252) (w : World) : Calls Try.prog 25 #[.string s, .int .i64 252] w fun e w' => e = .returned (.tuple #[.string (wholeS s), .int .i64 (padE s 252)]) ∧ Below w.heap.size w w' := by
  have := ref1_Pad s (252 : Nat) w (by omega)
  rw [wholeS_pad h] at this
  exact this

set_option maxHeartbeats 4000000 in
set_option maxRecDepth 100000 in
theorem law4_fixed (w : World) :
    Calls Try.prog 24 #[] w fun e w' => e = .returned (.bool true) ∧ Below w.heap.size w w' := by
  have p1 := Lib.hid (fun w => fxp (s := fA) (by decide) w)
  have p2 := Lib.hid (fun w => fxp (s := fC) (by decide) w)
  have p3 := Lib.hid (fun w => fxp (s := ByteArray.empty) (by decide) w)
  rw [show wholeS fA = wsA from rfl, show fA = ⟨#[97]⟩ from rfl] at p1
  rw [show wholeS fC = wsC from rfl, show fC = ⟨#[99]⟩ from rfl] at p2
  rw [show wholeS ByteArray.empty = ws0 from rfl, show ByteArray.empty = ⟨#[]⟩ from rfl] at p3
  generalize padE ⟨#[97]⟩ 252 = EA at *
  generalize padE ⟨#[99]⟩ 252 = EC at *
  generalize padE ⟨#[]⟩ 252 = E0 at *
  have hz : (fX2.size : Int) = 256 := by rw [fX2, fraw0]; rfl
  have hD := Hold.start w
  go_enter Try.func24, Try.ntmps24
  go_wp2_with (first
    | ((with_reducible refine (fx0 hD).mono ?_); rintro e w1 ⟨g, a, rfl, hw1⟩; replace hD := hw1; clear hw1)
    | ((with_reducible refine (fx0' _).mono ?_); rintro e w2 ⟨rfl, rfl⟩)
    | ((with_reducible refine (fx1 hD).mono ?_); rintro e w3 ⟨rfl, hu3, hw3⟩; clear hu3; replace hD := hw3; clear hw3)
    | ((with_reducible refine (fx2 hD).mono ?_); rintro e w4 ⟨rfl, q4, hw4⟩; replace hD := hw4; clear hw4)
    | ((with_reducible refine (fx3 hD).mono ?_); rintro e w5 ⟨rfl, hw5⟩; replace hD := hw5; clear hw5)
    | ((with_reducible refine (fx4 hD).mono ?_); rintro e w6 ⟨rfl, q6, hw6⟩; replace hD := hw6; clear hw6)
    | ((with_reducible refine (fx5 hD).mono ?_); rintro e w7 ⟨rfl, q7, hw7⟩; replace hD := hw7; clear hw7)
    | ((with_reducible refine (fx6 hD).mono ?_); rintro e w8 ⟨rfl, q8, hw8⟩; replace hD := hw8; clear hw8)
    | ((with_reducible refine wpList_makeBytes rfl _ _ 72 5 rfl Try.underlying72 u8info _ _ _ _ 253 rfl rfl c253 c253 n253 _ _ (Below.refl _ _) (Nat.le_refl _) ?_); intro g9 w9 hb9 hw9 hw9' hg9 hg9'; replace hD := hD.next hw9)
    | (with_reducible refine wpList_toStringAs rfl _ 72 9 5 rfl Try.underlying72 Try.underlying9 Try.underlying5 (List.replicate 253 0) _ z253 g9 0 253 253 rfl l253 hb9 ?_)
    | ((with_reducible refine (fx7 hD).mono ?_); rintro e w10 ⟨rfl, q10, hw10⟩; replace hD := hw10; clear hw10)
    | ((with_reducible refine (fx8 hD).mono ?_); rintro e w11 ⟨vI, capI, rfl, hw11⟩; replace hD := hw11; clear hw11)
    | ((with_reducible refine (fx9 hD).mono ?_); rintro e w12 ⟨g2, a2, q12, rfl, hB, hw12⟩; clear hB; replace hD := hw12; clear hw12)
    | ((with_reducible refine (fx10 hD).mono ?_); rintro e w13 ⟨rfl, hw13⟩; replace hD := hw13; clear hw13)
    | ((with_reducible refine (fx11 hD).mono ?_); rintro e w14 ⟨rfl, hB, hw14⟩; clear hB; replace hD := hw14; clear hw14)
    | ((with_reducible refine (fx12 hD).mono ?_); rintro e w15 ⟨rfl, hB, hw15⟩; clear hB; replace hD := hw15; clear hw15)
    | ((with_reducible refine (fx13 hD).mono ?_); rintro e w16 ⟨rfl, hw16⟩; replace hD := hw16; clear hw16)
    | ((with_reducible refine (fx14 hD).mono ?_); rintro e w17 ⟨rfl, hB, hw17⟩; clear hB; replace hD := hw17; clear hw17)
    | ((with_reducible refine (fx15 hD).mono ?_); rintro e w18 ⟨rfl, hB, hw18⟩; clear hB; replace hD := hw18; clear hw18)
    | ((with_reducible refine (p1.out _).mono ?_); rintro e w19 ⟨rfl, hB⟩; replace hD := hD.next hB; clear hB)
    | ((with_reducible refine (p2.out _).mono ?_); rintro e w20 ⟨rfl, hB⟩; replace hD := hD.next hB; clear hB)
    | ((with_reducible refine (p3.out _).mono ?_); rintro e w21 ⟨rfl, hB⟩; replace hD := hD.next hB; clear hB)
    | ((with_reducible refine (fxI hD).mono ?_); rintro e w22 ⟨rfl, hB⟩; replace hD := hD.next hB; clear hB)
    | ((with_reducible refine (fx16 hD).mono ?_); rintro e w23 ⟨rfl, hB, hw23⟩; replace hD := hw23; clear hw23 hB)
    | ((with_reducible refine (fx17 hD).mono ?_); rintro e w24 ⟨rfl, hB, hw24⟩; replace hD := hw24; clear hw24 hB)
    | ((with_reducible refine (fx18 hD).mono ?_); rintro e w25 ⟨rfl, rfl⟩)
    | ((with_reducible refine (fx19 hD).mono ?_); rintro e w26 ⟨vJ, capJ, rfl, hB, hw26⟩; replace hD := hw26; clear hw26 hB))
  go_ret
  exact ⟨rfl, hD.up⟩
end Go.Proofs.Ytiekjjejoekdeaa
