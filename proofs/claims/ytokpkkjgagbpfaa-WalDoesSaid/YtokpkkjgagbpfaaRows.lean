/-
  No cell of these rows narrows 'for every input' (looked for: loops, veiled, ifaces, maps, wideKeys, modest, calm, conditions, laid).
  DERIVED. THE GIVEN ROWS OF THIS SEAT. 6 by the template 'for every input the law returns true; each argument reads behind the call as it read before'; 0 by the template 'total and deterministic' (their statements: YtokpkkjgagbpfaaTotals.lean).
  GIVEN WITH THE SEED: the statements are not yours to turn. If you find one false, say at which input.
  Laid BY PROGRAM, IN A SANDBOX (cutbox-rows.mjs): the forced cells as the released guide's own fill.sh prints them over the translation 3b139608264da3ff… (all of the seat's roots in one cut). By AI agents, Wed Nov 11 2026. No macro, syntax, notation, axiom, sorry.
-/
import Derived.Test.YtokpkkjgagbpfaaChecked
import GoSem.Claim
import GoSem.ClaimJoined
import GoSem.ClaimMapViews
import Derived.JoinedTies
import Derived.KernelRfl
namespace Go.Proofs.Ytokpkkjgagbpfaa
/- THE CELL 'sum', in the pinned program and in every row, IS THE sha256 OF THE DUMP (.gsa) THAT YtokpkkjgagbpfaaProg.lean LOADS. Nothing in Lean hashes anything: it is a label: what it is worth is what the hold of that sum in a sandbox is worth. -/
noncomputable def Try.pinned : Pinned := { name := "ytokpkkjgagbpfaa", sum := "3b139608264da3ff238badbe118cf7f928b5e22c078901162ec7fc04d5a0ac7f", checked := Try.checked }
namespace Rows
def none {H : Type} : Left H := { results := [], args := [] }

/-- 'budwoodlaw06.WalDoes': WHATEVER THE INPUT: true; the input reads as it did. -/
def walDoesSpec : ChangeSpec := { name := "walDoes", fn := fun _ => fun
  | [d1, d2] => { results := [.lit (.bool true)], args := [d1, d2] }
  | _ => none }
def walDoesRow : OpenClaim := { program := "ytokpkkjgagbpfaa", sum := "3b139608264da3ff238badbe118cf7f928b5e22c078901162ec7fc04d5a0ac7f", func := "budwood/budwoodlaw06.WalDoes", spec := "walDoes", unfollowed := true, recurses := true, apart := false }
def WalDoesSaid : Prop := walDoesRow.holds Try.pinned (OpenSpec.ofChange walDoesSpec)

/-- ITS FALSE NEIGHBOUR: 'it returns false'. Refute it at one input. -/
def walDoesWrong : ChangeSpec := { name := "walDoes", fn := fun _ => fun
  | [d1, d2] => { results := [.lit (.bool false)], args := [d1, d2] }
  | _ => none }
def WalDoesWrongFalsely : Prop := walDoesRow.holds Try.pinned (OpenSpec.ofChange walDoesWrong)

/-- 'budwoodlaw06.WalSafe': WHATEVER THE INPUT: true; the input reads as it did. -/
def walSafeSpec : ChangeSpec := { name := "walSafe", fn := fun _ => fun
  | [d1, d2] => { results := [.lit (.bool true)], args := [d1, d2] }
  | _ => none }
def walSafeRow : OpenClaim := { program := "ytokpkkjgagbpfaa", sum := "3b139608264da3ff238badbe118cf7f928b5e22c078901162ec7fc04d5a0ac7f", func := "budwood/budwoodlaw06.WalSafe", spec := "walSafe", unfollowed := true, recurses := true, apart := false }
def WalSafeSaid : Prop := walSafeRow.holds Try.pinned (OpenSpec.ofChange walSafeSpec)

/-- ITS FALSE NEIGHBOUR: 'it returns false'. Refute it at one input. -/
def walSafeWrong : ChangeSpec := { name := "walSafe", fn := fun _ => fun
  | [d1, d2] => { results := [.lit (.bool false)], args := [d1, d2] }
  | _ => none }
def WalSafeWrongFalsely : Prop := walSafeRow.holds Try.pinned (OpenSpec.ofChange walSafeWrong)

/-- 'budwoodlaw06.WalTurns': WHATEVER THE INPUT: true; the input reads as it did. -/
def walTurnsSpec : ChangeSpec := { name := "walTurns", fn := fun _ => fun
  | [d1, d2] => { results := [.lit (.bool true)], args := [d1, d2] }
  | _ => none }
def walTurnsRow : OpenClaim := { program := "ytokpkkjgagbpfaa", sum := "3b139608264da3ff238badbe118cf7f928b5e22c078901162ec7fc04d5a0ac7f", func := "budwood/budwoodlaw06.WalTurns", spec := "walTurns", unfollowed := true, recurses := true, apart := false }
def WalTurnsSaid : Prop := walTurnsRow.holds Try.pinned (OpenSpec.ofChange walTurnsSpec)

/-- ITS FALSE NEIGHBOUR: 'it returns false'. Refute it at one input. -/
def walTurnsWrong : ChangeSpec := { name := "walTurns", fn := fun _ => fun
  | [d1, d2] => { results := [.lit (.bool false)], args := [d1, d2] }
  | _ => none }
def WalTurnsWrongFalsely : Prop := walTurnsRow.holds Try.pinned (OpenSpec.ofChange walTurnsWrong)

/-- 'budwoodlaw06.WalParts': WHATEVER THE INPUT: true; the input reads as it did. -/
def walPartsSpec : ChangeSpec := { name := "walParts", fn := fun _ => fun
  | [d1, d2] => { results := [.lit (.bool true)], args := [d1, d2] }
  | _ => none }
def walPartsRow : OpenClaim := { program := "ytokpkkjgagbpfaa", sum := "3b139608264da3ff238badbe118cf7f928b5e22c078901162ec7fc04d5a0ac7f", func := "budwood/budwoodlaw06.WalParts", spec := "walParts", unfollowed := true, recurses := true, apart := false }
def WalPartsSaid : Prop := walPartsRow.holds Try.pinned (OpenSpec.ofChange walPartsSpec)

/-- ITS FALSE NEIGHBOUR: 'it returns false'. Refute it at one input. -/
def walPartsWrong : ChangeSpec := { name := "walParts", fn := fun _ => fun
  | [d1, d2] => { results := [.lit (.bool false)], args := [d1, d2] }
  | _ => none }
def WalPartsWrongFalsely : Prop := walPartsRow.holds Try.pinned (OpenSpec.ofChange walPartsWrong)

/-- 'budwoodlaw06.WalRoom': WHATEVER THE INPUT: true; the input reads as it did. -/
def walRoomSpec : ChangeSpec := { name := "walRoom", fn := fun _ => fun
  | [d1, d2] => { results := [.lit (.bool true)], args := [d1, d2] }
  | _ => none }
def walRoomRow : OpenClaim := { program := "ytokpkkjgagbpfaa", sum := "3b139608264da3ff238badbe118cf7f928b5e22c078901162ec7fc04d5a0ac7f", func := "budwood/budwoodlaw06.WalRoom", spec := "walRoom", unfollowed := true, recurses := true, apart := false }
def WalRoomSaid : Prop := walRoomRow.holds Try.pinned (OpenSpec.ofChange walRoomSpec)

/-- ITS FALSE NEIGHBOUR: 'it returns false'. Refute it at one input. -/
def walRoomWrong : ChangeSpec := { name := "walRoom", fn := fun _ => fun
  | [d1, d2] => { results := [.lit (.bool false)], args := [d1, d2] }
  | _ => none }
def WalRoomWrongFalsely : Prop := walRoomRow.holds Try.pinned (OpenSpec.ofChange walRoomWrong)

/-- 'budwoodlaw06.WalSure': WHATEVER THE INPUT: true; the input reads as it did. -/
def walSureSpec : ChangeSpec := { name := "walSure", fn := fun _ => fun
  | [d1, d2] => { results := [.lit (.bool true)], args := [d1, d2] }
  | _ => none }
def walSureRow : OpenClaim := { program := "ytokpkkjgagbpfaa", sum := "3b139608264da3ff238badbe118cf7f928b5e22c078901162ec7fc04d5a0ac7f", func := "budwood/budwoodlaw06.WalSure", spec := "walSure", unfollowed := true, recurses := true, apart := false }
def WalSureSaid : Prop := walSureRow.holds Try.pinned (OpenSpec.ofChange walSureSpec)

/-- ITS FALSE NEIGHBOUR: 'it returns false'. Refute it at one input. -/
def walSureWrong : ChangeSpec := { name := "walSure", fn := fun _ => fun
  | [d1, d2] => { results := [.lit (.bool false)], args := [d1, d2] }
  | _ => none }
def WalSureWrongFalsely : Prop := walSureRow.holds Try.pinned (OpenSpec.ofChange walSureWrong)

/- THE SECOND FORM. 'bulk': how many values and letters a reading holds, each counted each time it is reached (what is shared counts as often as it is met; a slice's spare places count too). A statement '..UptoSaid' is the law's where the arguments, and the package variables that the reading takes, are together of bulk at most 1048576: NARROWER than '..Said'. Prove '..Said' where nothing that the law and all that it calls make is longer than what came in: it says more and counts as full. Else prove '..UptoSaid'. A law counts once. -/
mutual
def uptoBulk {H : Type} : DataW H → Nat
  | .lit (.string bytes) => bytes.length + 1
  | .lit _ => 1
  | .nil => 1
  | .ptr d => uptoBulk d + 1
  | .slice elems spare => uptoBulkAll elems + uptoBulkAll spare + 1
  | .agg parts => uptoBulkAll parts + 1
  | .iface _ d => uptoBulk d + 1
  | .map entries => uptoBulkEntries entries + 1
  | .held _ => 1
def uptoBulkAll {H : Type} : List (DataW H) → Nat
  | [] => 0
  | d :: r => uptoBulk d + uptoBulkAll r
def uptoBulkEntries {H : Type} : List (Lit × DataW H) → Nat
  | [] => 0
  | x :: r => uptoBulkEntry x + uptoBulkEntries r
def uptoBulkEntry {H : Type} : Lit × DataW H → Nat
  | (.string bytes, d) => bytes.length + uptoBulk d + 1
  | (_, d) => uptoBulk d + 1
 end
def uptoSmall : (H : Type) → List (DataW H) → Bool := fun _ ds => decide (uptoBulkAll ds ≤ 1048576)
def OpenSpec.upto (s : _root_.Go.ChangeSpec) : _root_.Go.OpenSpec := { _root_.Go.OpenSpec.ofChange s with cond := some uptoSmall }

/-- 'budwoodlaw06.WalDoes', WHERE WHAT IT READS IS OF BULK AT MOST 1048576: true; the input reads as it did. -/
def walDoesUptoRow : OpenClaim := { program := "ytokpkkjgagbpfaa", sum := "3b139608264da3ff238badbe118cf7f928b5e22c078901162ec7fc04d5a0ac7f", func := "budwood/budwoodlaw06.WalDoes", spec := "walDoes", unfollowed := true, recurses := true, apart := false, narrowed := true }
def WalDoesUptoSaid : Prop := walDoesUptoRow.holds Try.pinned (OpenSpec.upto walDoesSpec)

/-- 'budwoodlaw06.WalSafe', WHERE WHAT IT READS IS OF BULK AT MOST 1048576: true; the input reads as it did. -/
def walSafeUptoRow : OpenClaim := { program := "ytokpkkjgagbpfaa", sum := "3b139608264da3ff238badbe118cf7f928b5e22c078901162ec7fc04d5a0ac7f", func := "budwood/budwoodlaw06.WalSafe", spec := "walSafe", unfollowed := true, recurses := true, apart := false, narrowed := true }
def WalSafeUptoSaid : Prop := walSafeUptoRow.holds Try.pinned (OpenSpec.upto walSafeSpec)

/-- 'budwoodlaw06.WalTurns', WHERE WHAT IT READS IS OF BULK AT MOST 1048576: true; the input reads as it did. -/
def walTurnsUptoRow : OpenClaim := { program := "ytokpkkjgagbpfaa", sum := "3b139608264da3ff238badbe118cf7f928b5e22c078901162ec7fc04d5a0ac7f", func := "budwood/budwoodlaw06.WalTurns", spec := "walTurns", unfollowed := true, recurses := true, apart := false, narrowed := true }
def WalTurnsUptoSaid : Prop := walTurnsUptoRow.holds Try.pinned (OpenSpec.upto walTurnsSpec)

/-- 'budwoodlaw06.WalParts', WHERE WHAT IT READS IS OF BULK AT MOST 1048576: true; the input reads as it did. -/
def walPartsUptoRow : OpenClaim := { program := "ytokpkkjgagbpfaa", sum := "3b139608264da3ff238badbe118cf7f928b5e22c078901162ec7fc04d5a0ac7f", func := "budwood/budwoodlaw06.WalParts", spec := "walParts", unfollowed := true, recurses := true, apart := false, narrowed := true }
def WalPartsUptoSaid : Prop := walPartsUptoRow.holds Try.pinned (OpenSpec.upto walPartsSpec)

/-- 'budwoodlaw06.WalRoom', WHERE WHAT IT READS IS OF BULK AT MOST 1048576: true; the input reads as it did. -/
def walRoomUptoRow : OpenClaim := { program := "ytokpkkjgagbpfaa", sum := "3b139608264da3ff238badbe118cf7f928b5e22c078901162ec7fc04d5a0ac7f", func := "budwood/budwoodlaw06.WalRoom", spec := "walRoom", unfollowed := true, recurses := true, apart := false, narrowed := true }
def WalRoomUptoSaid : Prop := walRoomUptoRow.holds Try.pinned (OpenSpec.upto walRoomSpec)

/-- 'budwoodlaw06.WalSure', WHERE WHAT IT READS IS OF BULK AT MOST 1048576: true; the input reads as it did. -/
def walSureUptoRow : OpenClaim := { program := "ytokpkkjgagbpfaa", sum := "3b139608264da3ff238badbe118cf7f928b5e22c078901162ec7fc04d5a0ac7f", func := "budwood/budwoodlaw06.WalSure", spec := "walSure", unfollowed := true, recurses := true, apart := false, narrowed := true }
def WalSureUptoSaid : Prop := walSureUptoRow.holds Try.pinned (OpenSpec.upto walSureSpec)

end Rows
end Go.Proofs.Ytokpkkjgagbpfaa
