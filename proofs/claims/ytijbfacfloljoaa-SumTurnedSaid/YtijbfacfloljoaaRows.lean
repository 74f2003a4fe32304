/-
  No cell of these rows narrows 'for every input' (looked for: loops, veiled, ifaces, maps, wideKeys, modest, calm, conditions, laid).
  DERIVED. THE GIVEN ROWS OF THIS SEAT. 6 by the template 'for every input the law returns true; each argument reads behind the call as it read before'; 0 by the template 'total and deterministic' (their statements: YtijbfacfloljoaaTotals.lean).
  GIVEN WITH THE SEED: the statements are not yours to turn. If you find one false, say at which input.
  Laid BY PROGRAM, IN A SANDBOX (cutbox-rows.mjs): the forced cells as the released guide's own fill.sh prints them over the translation 06b92f39e69a498f… (all of the seat's roots in one cut). By AI agents, Wed Nov 11 2026. No macro, syntax, notation, axiom, sorry.
-/
import Derived.Test.YtijbfacfloljoaaChecked
import GoSem.Claim
import GoSem.ClaimJoined
import GoSem.ClaimMapViews
import Derived.JoinedTies
import Derived.KernelRfl
namespace Go.Proofs.Ytijbfacfloljoaa
/- THE CELL 'sum', in the pinned program and in every row, IS THE sha256 OF THE DUMP (.gsa) THAT YtijbfacfloljoaaProg.lean LOADS. Nothing in Lean hashes anything: it is a label: what it is worth is what the hold of that sum in a sandbox is worth. -/
noncomputable def Try.pinned : Pinned := { name := "ytijbfacfloljoaa", sum := "06b92f39e69a498fd8c0a97559f70d6867377150305c5309cd17f560766d969f", checked := Try.checked }
namespace Rows
def none {H : Type} : Left H := { results := [], args := [] }

/-- 'budwoodlaw02.SumPages': WHATEVER THE INPUT: true; the input reads as it did. -/
def sumPagesSpec : ChangeSpec := { name := "sumPages", fn := fun _ => fun
  | [d1, d2] => { results := [.lit (.bool true)], args := [d1, d2] }
  | _ => none }
def sumPagesRow : OpenClaim := { program := "ytijbfacfloljoaa", sum := "06b92f39e69a498fd8c0a97559f70d6867377150305c5309cd17f560766d969f", func := "budwood/budwoodlaw02.SumPages", spec := "sumPages", unfollowed := true, recurses := true, apart := false }
def SumPagesSaid : Prop := sumPagesRow.holds Try.pinned (OpenSpec.ofChange sumPagesSpec)

/-- ITS FALSE NEIGHBOUR: 'it returns false'. Refute it at one input. -/
def sumPagesWrong : ChangeSpec := { name := "sumPages", fn := fun _ => fun
  | [d1, d2] => { results := [.lit (.bool false)], args := [d1, d2] }
  | _ => none }
def SumPagesWrongFalsely : Prop := sumPagesRow.holds Try.pinned (OpenSpec.ofChange sumPagesWrong)

/-- 'budwoodlaw02.SumBack': WHATEVER THE INPUT: true; the input reads as it did. -/
def sumBackSpec : ChangeSpec := { name := "sumBack", fn := fun _ => fun
  | [d] => { results := [.lit (.bool true)], args := [d] }
  | _ => none }
def sumBackRow : OpenClaim := { program := "ytijbfacfloljoaa", sum := "06b92f39e69a498fd8c0a97559f70d6867377150305c5309cd17f560766d969f", func := "budwood/budwoodlaw02.SumBack", spec := "sumBack", unfollowed := true, recurses := true, apart := false }
def SumBackSaid : Prop := sumBackRow.holds Try.pinned (OpenSpec.ofChange sumBackSpec)

/-- ITS FALSE NEIGHBOUR: 'it returns false'. Refute it at one input. -/
def sumBackWrong : ChangeSpec := { name := "sumBack", fn := fun _ => fun
  | [d] => { results := [.lit (.bool false)], args := [d] }
  | _ => none }
def SumBackWrongFalsely : Prop := sumBackRow.holds Try.pinned (OpenSpec.ofChange sumBackWrong)

/-- 'budwoodlaw02.SumBytes': WHATEVER THE INPUT: true; the input reads as it did. -/
def sumBytesSpec : ChangeSpec := { name := "sumBytes", fn := fun _ => fun
  | [d1, d2, d3] => { results := [.lit (.bool true)], args := [d1, d2, d3] }
  | _ => none }
def sumBytesRow : OpenClaim := { program := "ytijbfacfloljoaa", sum := "06b92f39e69a498fd8c0a97559f70d6867377150305c5309cd17f560766d969f", func := "budwood/budwoodlaw02.SumBytes", spec := "sumBytes", unfollowed := true, recurses := true, apart := false }
def SumBytesSaid : Prop := sumBytesRow.holds Try.pinned (OpenSpec.ofChange sumBytesSpec)

/-- ITS FALSE NEIGHBOUR: 'it returns false'. Refute it at one input. -/
def sumBytesWrong : ChangeSpec := { name := "sumBytes", fn := fun _ => fun
  | [d1, d2, d3] => { results := [.lit (.bool false)], args := [d1, d2, d3] }
  | _ => none }
def SumBytesWrongFalsely : Prop := sumBytesRow.holds Try.pinned (OpenSpec.ofChange sumBytesWrong)

/-- 'budwoodlaw02.SumTorn': WHATEVER THE INPUT: true; the input reads as it did. -/
def sumTornSpec : ChangeSpec := { name := "sumTorn", fn := fun _ => fun
  | [d1, d2] => { results := [.lit (.bool true)], args := [d1, d2] }
  | _ => none }
def sumTornRow : OpenClaim := { program := "ytijbfacfloljoaa", sum := "06b92f39e69a498fd8c0a97559f70d6867377150305c5309cd17f560766d969f", func := "budwood/budwoodlaw02.SumTorn", spec := "sumTorn", unfollowed := true, recurses := true, apart := false }
def SumTornSaid : Prop := sumTornRow.holds Try.pinned (OpenSpec.ofChange sumTornSpec)

/-- ITS FALSE NEIGHBOUR: 'it returns false'. Refute it at one input. -/
def sumTornWrong : ChangeSpec := { name := "sumTorn", fn := fun _ => fun
  | [d1, d2] => { results := [.lit (.bool false)], args := [d1, d2] }
  | _ => none }
def SumTornWrongFalsely : Prop := sumTornRow.holds Try.pinned (OpenSpec.ofChange sumTornWrong)

/-- 'budwoodlaw02.SumWhole': WHATEVER THE INPUT: true; the input reads as it did. -/
def sumWholeSpec : ChangeSpec := { name := "sumWhole", fn := fun _ => fun
  | [d1, d2] => { results := [.lit (.bool true)], args := [d1, d2] }
  | _ => none }
def sumWholeRow : OpenClaim := { program := "ytijbfacfloljoaa", sum := "06b92f39e69a498fd8c0a97559f70d6867377150305c5309cd17f560766d969f", func := "budwood/budwoodlaw02.SumWhole", spec := "sumWhole", unfollowed := true, recurses := true, apart := false }
def SumWholeSaid : Prop := sumWholeRow.holds Try.pinned (OpenSpec.ofChange sumWholeSpec)

/-- ITS FALSE NEIGHBOUR: 'it returns false'. Refute it at one input. -/
def sumWholeWrong : ChangeSpec := { name := "sumWhole", fn := fun _ => fun
  | [d1, d2] => { results := [.lit (.bool false)], args := [d1, d2] }
  | _ => none }
def SumWholeWrongFalsely : Prop := sumWholeRow.holds Try.pinned (OpenSpec.ofChange sumWholeWrong)

/-- 'budwoodlaw02.SumTurned': WHATEVER THE INPUT: true; the input reads as it did. -/
def sumTurnedSpec : ChangeSpec := { name := "sumTurned", fn := fun _ => fun
  | [d1, d2] => { results := [.lit (.bool true)], args := [d1, d2] }
  | _ => none }
def sumTurnedRow : OpenClaim := { program := "ytijbfacfloljoaa", sum := "06b92f39e69a498fd8c0a97559f70d6867377150305c5309cd17f560766d969f", func := "budwood/budwoodlaw02.SumTurned", spec := "sumTurned", unfollowed := true, recurses := true, apart := false }
def SumTurnedSaid : Prop := sumTurnedRow.holds Try.pinned (OpenSpec.ofChange sumTurnedSpec)

/-- ITS FALSE NEIGHBOUR: 'it returns false'. Refute it at one input. -/
def sumTurnedWrong : ChangeSpec := { name := "sumTurned", fn := fun _ => fun
  | [d1, d2] => { results := [.lit (.bool false)], args := [d1, d2] }
  | _ => none }
def SumTurnedWrongFalsely : Prop := sumTurnedRow.holds Try.pinned (OpenSpec.ofChange sumTurnedWrong)

/- THE SECOND FORM. 'bulk': how many values and letters a reading holds, each counted each time it is reached (what is shared counts as often as it is met; a slice's spare places count too). A statement '..UptoSaid' is the law's where the arguments, and the package variables that the reading takes, are together of bulk at most 1048576: NARROWER than '..Said'. Prove '..Said' where nothing that the law and all that it calls make is longer than what came in: it says more and counts as full. Else prove '..UptoSaid'. A law counts once. -/
mutual
def uptoBulk {H : Type} : DataW H → Nat
  | .lit (.string bytes) => bytes.length + 1
  | .lit _ => 1
  | .nil => 1
  | .ptr d => uptoBulk d + 1
  | .slice elems spare => uptoBulkAll elems + uptoBulkAll spare + 1
  | .agg parts => uptoBulkAll parts + 1
  | .iface _ d => uptoBulk d + 1
  | .map entries => uptoBulkEntries entries + 1
  | .held _ => 1
def uptoBulkAll {H : Type} : List (DataW H) → Nat
  | [] => 0
  | d :: r => uptoBulk d + uptoBulkAll r
def uptoBulkEntries {H : Type} : List (Lit × DataW H) → Nat
  | [] => 0
  | x :: r => uptoBulkEntry x + uptoBulkEntries r
def uptoBulkEntry {H : Type} : Lit × DataW H → Nat
  | (.string bytes, d) => bytes.length + uptoBulk d + 1
  | (_, d) => uptoBulk d + 1
 end
def uptoSmall : (H : Type) → List (DataW H) → Bool := fun _ ds => decide (uptoBulkAll ds ≤ 1048576)
def OpenSpec.upto (s : _root_.Go.ChangeSpec) : _root_.Go.OpenSpec := { _root_.Go.OpenSpec.ofChange s with cond := some uptoSmall }

/-- 'budwoodlaw02.SumPages', WHERE WHAT IT READS IS OF BULK AT MOST 1048576: true; the input reads as it did. -/
def sumPagesUptoRow : OpenClaim := { program := "ytijbfacfloljoaa", sum := "06b92f39e69a498fd8c0a97559f70d6867377150305c5309cd17f560766d969f", func := "budwood/budwoodlaw02.SumPages", spec := "sumPages", unfollowed := true, recurses := true, apart := false, narrowed := true }
def SumPagesUptoSaid : Prop := sumPagesUptoRow.holds Try.pinned (OpenSpec.upto sumPagesSpec)

/-- 'budwoodlaw02.SumBack', WHERE WHAT IT READS IS OF BULK AT MOST 1048576: true; the input reads as it did. -/
def sumBackUptoRow : OpenClaim := { program := "ytijbfacfloljoaa", sum := "06b92f39e69a498fd8c0a97559f70d6867377150305c5309cd17f560766d969f", func := "budwood/budwoodlaw02.SumBack", spec := "sumBack", unfollowed := true, recurses := true, apart := false, narrowed := true }
def SumBackUptoSaid : Prop := sumBackUptoRow.holds Try.pinned (OpenSpec.upto sumBackSpec)

/-- 'budwoodlaw02.SumBytes', WHERE WHAT IT READS IS OF BULK AT MOST 1048576: true; the input reads as it did. -/
def sumBytesUptoRow : OpenClaim := { program := "ytijbfacfloljoaa", sum := "06b92f39e69a498fd8c0a97559f70d6867377150305c5309cd17f560766d969f", func := "budwood/budwoodlaw02.SumBytes", spec := "sumBytes", unfollowed := true, recurses := true, apart := false, narrowed := true }
def SumBytesUptoSaid : Prop := sumBytesUptoRow.holds Try.pinned (OpenSpec.upto sumBytesSpec)

/-- 'budwoodlaw02.SumTorn', WHERE WHAT IT READS IS OF BULK AT MOST 1048576: true; the input reads as it did. -/
def sumTornUptoRow : OpenClaim := { program := "ytijbfacfloljoaa", sum := "06b92f39e69a498fd8c0a97559f70d6867377150305c5309cd17f560766d969f", func := "budwood/budwoodlaw02.SumTorn", spec := "sumTorn", unfollowed := true, recurses := true, apart := false, narrowed := true }
def SumTornUptoSaid : Prop := sumTornUptoRow.holds Try.pinned (OpenSpec.upto sumTornSpec)

/-- 'budwoodlaw02.SumWhole', WHERE WHAT IT READS IS OF BULK AT MOST 1048576: true; the input reads as it did. -/
def sumWholeUptoRow : OpenClaim := { program := "ytijbfacfloljoaa", sum := "06b92f39e69a498fd8c0a97559f70d6867377150305c5309cd17f560766d969f", func := "budwood/budwoodlaw02.SumWhole", spec := "sumWhole", unfollowed := true, recurses := true, apart := false, narrowed := true }
def SumWholeUptoSaid : Prop := sumWholeUptoRow.holds Try.pinned (OpenSpec.upto sumWholeSpec)

/-- 'budwoodlaw02.SumTurned', WHERE WHAT IT READS IS OF BULK AT MOST 1048576: true; the input reads as it did. -/
def sumTurnedUptoRow : OpenClaim := { program := "ytijbfacfloljoaa", sum := "06b92f39e69a498fd8c0a97559f70d6867377150305c5309cd17f560766d969f", func := "budwood/budwoodlaw02.SumTurned", spec := "sumTurned", unfollowed := true, recurses := true, apart := false, narrowed := true }
def SumTurnedUptoSaid : Prop := sumTurnedUptoRow.holds Try.pinned (OpenSpec.upto sumTurnedSpec)

end Rows
end Go.Proofs.Ytijbfacfloljoaa
