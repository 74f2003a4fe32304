/-
  No cell of these rows narrows 'for every input' (looked for: loops, veiled, ifaces, maps, wideKeys, modest, calm, conditions, laid).
  DERIVED. THE GIVEN ROWS OF THIS SEAT. 7 by the template 'for every input the law returns true; each argument reads behind the call as it read before'; 0 by the template 'total and deterministic' (their statements: YtibeeomeafakgaaTotals.lean).
  GIVEN WITH THE SEED: the statements are not yours to turn. If you find one false, say at which input.
  Laid BY PROGRAM, IN A SANDBOX (cutbox-rows.mjs): the forced cells as the released guide's own fill.sh prints them over the translation e5ea86e29ad80ea4… (all of the seat's roots in one cut). By AI agents, Wed Nov 11 2026. No macro, syntax, notation, axiom, sorry.
-/
import Derived.Test.YtibeeomeafakgaaChecked
import GoSem.Claim
import GoSem.ClaimJoined
import GoSem.ClaimMapViews
import Derived.JoinedTies
import Derived.KernelRfl
namespace Go.Proofs.Ytibeeomeafakgaa
/- THE CELL 'sum', in the pinned program and in every row, IS THE sha256 OF THE DUMP (.gsa) THAT YtibeeomeafakgaaProg.lean LOADS. Nothing in Lean hashes anything: it is a label: what it is worth is what the hold of that sum in a sandbox is worth. -/
noncomputable def Try.pinned : Pinned := { name := "ytibeeomeafakgaa", sum := "e5ea86e29ad80ea41ec467be40a498569cffc393e90f396a945b1218ff154e48", checked := Try.checked }
namespace Rows
def none {H : Type} : Left H := { results := [], args := [] }

/-- 'budwoodlaw05.RecPuts': WHATEVER THE INPUT: true; the input reads as it did. -/
def recPutsSpec : ChangeSpec := { name := "recPuts", fn := fun _ => fun
  | [d1, d2, d3] => { results := [.lit (.bool true)], args := [d1, d2, d3] }
  | _ => none }
def recPutsRow : OpenClaim := { program := "ytibeeomeafakgaa", sum := "e5ea86e29ad80ea41ec467be40a498569cffc393e90f396a945b1218ff154e48", func := "budwood/budwoodlaw05.RecPuts", spec := "recPuts", unfollowed := true, recurses := true, apart := false }
def RecPutsSaid : Prop := recPutsRow.holds Try.pinned (OpenSpec.ofChange recPutsSpec)

/-- ITS FALSE NEIGHBOUR: 'it returns false'. Refute it at one input. -/
def recPutsWrong : ChangeSpec := { name := "recPuts", fn := fun _ => fun
  | [d1, d2, d3] => { results := [.lit (.bool false)], args := [d1, d2, d3] }
  | _ => none }
def RecPutsWrongFalsely : Prop := recPutsRow.holds Try.pinned (OpenSpec.ofChange recPutsWrong)

/-- 'budwoodlaw05.RecGets': WHATEVER THE INPUT: true; the input reads as it did. -/
def recGetsSpec : ChangeSpec := { name := "recGets", fn := fun _ => fun
  | [d] => { results := [.lit (.bool true)], args := [d] }
  | _ => none }
def recGetsRow : OpenClaim := { program := "ytibeeomeafakgaa", sum := "e5ea86e29ad80ea41ec467be40a498569cffc393e90f396a945b1218ff154e48", func := "budwood/budwoodlaw05.RecGets", spec := "recGets", unfollowed := true, recurses := true, apart := false }
def RecGetsSaid : Prop := recGetsRow.holds Try.pinned (OpenSpec.ofChange recGetsSpec)

/-- ITS FALSE NEIGHBOUR: 'it returns false'. Refute it at one input. -/
def recGetsWrong : ChangeSpec := { name := "recGets", fn := fun _ => fun
  | [d] => { results := [.lit (.bool false)], args := [d] }
  | _ => none }
def RecGetsWrongFalsely : Prop := recGetsRow.holds Try.pinned (OpenSpec.ofChange recGetsWrong)

/-- 'budwoodlaw05.RecBack': WHATEVER THE INPUT: true; the input reads as it did. -/
def recBackSpec : ChangeSpec := { name := "recBack", fn := fun _ => fun
  | [d1, d2] => { results := [.lit (.bool true)], args := [d1, d2] }
  | _ => none }
def recBackRow : OpenClaim := { program := "ytibeeomeafakgaa", sum := "e5ea86e29ad80ea41ec467be40a498569cffc393e90f396a945b1218ff154e48", func := "budwood/budwoodlaw05.RecBack", spec := "recBack", unfollowed := true, recurses := true, apart := false }
def RecBackSaid : Prop := recBackRow.holds Try.pinned (OpenSpec.ofChange recBackSpec)

/-- ITS FALSE NEIGHBOUR: 'it returns false'. Refute it at one input. -/
def recBackWrong : ChangeSpec := { name := "recBack", fn := fun _ => fun
  | [d1, d2] => { results := [.lit (.bool false)], args := [d1, d2] }
  | _ => none }
def RecBackWrongFalsely : Prop := recBackRow.holds Try.pinned (OpenSpec.ofChange recBackWrong)

/-- 'budwoodlaw05.RecCuts': WHATEVER THE INPUT: true; the input reads as it did. -/
def recCutsSpec : ChangeSpec := { name := "recCuts", fn := fun _ => fun
  | [d1, d2] => { results := [.lit (.bool true)], args := [d1, d2] }
  | _ => none }
def recCutsRow : OpenClaim := { program := "ytibeeomeafakgaa", sum := "e5ea86e29ad80ea41ec467be40a498569cffc393e90f396a945b1218ff154e48", func := "budwood/budwoodlaw05.RecCuts", spec := "recCuts", unfollowed := true, recurses := true, apart := false }
def RecCutsSaid : Prop := recCutsRow.holds Try.pinned (OpenSpec.ofChange recCutsSpec)

/-- ITS FALSE NEIGHBOUR: 'it returns false'. Refute it at one input. -/
def recCutsWrong : ChangeSpec := { name := "recCuts", fn := fun _ => fun
  | [d1, d2] => { results := [.lit (.bool false)], args := [d1, d2] }
  | _ => none }
def RecCutsWrongFalsely : Prop := recCutsRow.holds Try.pinned (OpenSpec.ofChange recCutsWrong)

/-- 'budwoodlaw05.RecKinds': WHATEVER THE INPUT: true; the input reads as it did. -/
def recKindsSpec : ChangeSpec := { name := "recKinds", fn := fun _ => fun
  | [d] => { results := [.lit (.bool true)], args := [d] }
  | _ => none }
def recKindsRow : OpenClaim := { program := "ytibeeomeafakgaa", sum := "e5ea86e29ad80ea41ec467be40a498569cffc393e90f396a945b1218ff154e48", func := "budwood/budwoodlaw05.RecKinds", spec := "recKinds", unfollowed := true, recurses := true, apart := false }
def RecKindsSaid : Prop := recKindsRow.holds Try.pinned (OpenSpec.ofChange recKindsSpec)

/-- ITS FALSE NEIGHBOUR: 'it returns false'. Refute it at one input. -/
def recKindsWrong : ChangeSpec := { name := "recKinds", fn := fun _ => fun
  | [d] => { results := [.lit (.bool false)], args := [d] }
  | _ => none }
def RecKindsWrongFalsely : Prop := recKindsRow.holds Try.pinned (OpenSpec.ofChange recKindsWrong)

/-- 'budwoodlaw05.RecKeys': WHATEVER THE INPUT: true; the input reads as it did. -/
def recKeysSpec : ChangeSpec := { name := "recKeys", fn := fun _ => fun
  | [d1, d2] => { results := [.lit (.bool true)], args := [d1, d2] }
  | _ => none }
def recKeysRow : OpenClaim := { program := "ytibeeomeafakgaa", sum := "e5ea86e29ad80ea41ec467be40a498569cffc393e90f396a945b1218ff154e48", func := "budwood/budwoodlaw05.RecKeys", spec := "recKeys", unfollowed := true, recurses := true, apart := false }
def RecKeysSaid : Prop := recKeysRow.holds Try.pinned (OpenSpec.ofChange recKeysSpec)

/-- ITS FALSE NEIGHBOUR: 'it returns false'. Refute it at one input. -/
def recKeysWrong : ChangeSpec := { name := "recKeys", fn := fun _ => fun
  | [d1, d2] => { results := [.lit (.bool false)], args := [d1, d2] }
  | _ => none }
def RecKeysWrongFalsely : Prop := recKeysRow.holds Try.pinned (OpenSpec.ofChange recKeysWrong)

/-- 'budwoodlaw05.RecOwn': WHATEVER THE INPUT: true; the input reads as it did. -/
def recOwnSpec : ChangeSpec := { name := "recOwn", fn := fun _ => fun
  | [d1, d2] => { results := [.lit (.bool true)], args := [d1, d2] }
  | _ => none }
def recOwnRow : OpenClaim := { program := "ytibeeomeafakgaa", sum := "e5ea86e29ad80ea41ec467be40a498569cffc393e90f396a945b1218ff154e48", func := "budwood/budwoodlaw05.RecOwn", spec := "recOwn", unfollowed := true, recurses := true, apart := false }
def RecOwnSaid : Prop := recOwnRow.holds Try.pinned (OpenSpec.ofChange recOwnSpec)

/-- ITS FALSE NEIGHBOUR: 'it returns false'. Refute it at one input. -/
def recOwnWrong : ChangeSpec := { name := "recOwn", fn := fun _ => fun
  | [d1, d2] => { results := [.lit (.bool false)], args := [d1, d2] }
  | _ => none }
def RecOwnWrongFalsely : Prop := recOwnRow.holds Try.pinned (OpenSpec.ofChange recOwnWrong)

/- THE SECOND FORM. 'bulk': how many values and letters a reading holds, each counted each time it is reached (what is shared counts as often as it is met; a slice's spare places count too). A statement '..UptoSaid' is the law's where the arguments, and the package variables that the reading takes, are together of bulk at most 1048576: NARROWER than '..Said'. Prove '..Said' where nothing that the law and all that it calls make is longer than what came in: it says more and counts as full. Else prove '..UptoSaid'. A law counts once. -/
mutual
def uptoBulk {H : Type} : DataW H → Nat
  | .lit (.string bytes) => bytes.length + 1
  | .lit _ => 1
  | .nil => 1
  | .ptr d => uptoBulk d + 1
  | .slice elems spare => uptoBulkAll elems + uptoBulkAll spare + 1
  | .agg parts => uptoBulkAll parts + 1
  | .iface _ d => uptoBulk d + 1
  | .map entries => uptoBulkEntries entries + 1
  | .held _ => 1
def uptoBulkAll {H : Type} : List (DataW H) → Nat
  | [] => 0
  | d :: r => uptoBulk d + uptoBulkAll r
def uptoBulkEntries {H : Type} : List (Lit × DataW H) → Nat
  | [] => 0
  | x :: r => uptoBulkEntry x + uptoBulkEntries r
def uptoBulkEntry {H : Type} : Lit × DataW H → Nat
  | (.string bytes, d) => bytes.length + uptoBulk d + 1
  | (_, d) => uptoBulk d + 1
 end
def uptoSmall : (H : Type) → List (DataW H) → Bool := fun _ ds => decide (uptoBulkAll ds ≤ 1048576)
def OpenSpec.upto (s : _root_.Go.ChangeSpec) : _root_.Go.OpenSpec := { _root_.Go.OpenSpec.ofChange s with cond := some uptoSmall }

/-- 'budwoodlaw05.RecPuts', WHERE WHAT IT READS IS OF BULK AT MOST 1048576: true; the input reads as it did. -/
def recPutsUptoRow : OpenClaim := { program := "ytibeeomeafakgaa", sum := "e5ea86e29ad80ea41ec467be40a498569cffc393e90f396a945b1218ff154e48", func := "budwood/budwoodlaw05.RecPuts", spec := "recPuts", unfollowed := true, recurses := true, apart := false, narrowed := true }
def RecPutsUptoSaid : Prop := recPutsUptoRow.holds Try.pinned (OpenSpec.upto recPutsSpec)

/-- 'budwoodlaw05.RecGets', WHERE WHAT IT READS IS OF BULK AT MOST 1048576: true; the input reads as it did. -/
def recGetsUptoRow : OpenClaim := { program := "ytibeeomeafakgaa", sum := "e5ea86e29ad80ea41ec467be40a498569cffc393e90f396a945b1218ff154e48", func := "budwood/budwoodlaw05.RecGets", spec := "recGets", unfollowed := true, recurses := true, apart := false, narrowed := true }
def RecGetsUptoSaid : Prop := recGetsUptoRow.holds Try.pinned (OpenSpec.upto recGetsSpec)

/-- 'budwoodlaw05.RecBack', WHERE WHAT IT READS IS OF BULK AT MOST 1048576: true; the input reads as it did. -/
def recBackUptoRow : OpenClaim := { program := "ytibeeomeafakgaa", sum := "e5ea86e29ad80ea41ec467be40a498569cffc393e90f396a945b1218ff154e48", func := "budwood/budwoodlaw05.RecBack", spec := "recBack", unfollowed := true, recurses := true, apart := false, narrowed := true }
def RecBackUptoSaid : Prop := recBackUptoRow.holds Try.pinned (OpenSpec.upto recBackSpec)

/-- 'budwoodlaw05.RecCuts', WHERE WHAT IT READS IS OF BULK AT MOST 1048576: true; the input reads as it did. -/
def recCutsUptoRow : OpenClaim := { program := "ytibeeomeafakgaa", sum := "e5ea86e29ad80ea41ec467be40a498569cffc393e90f396a945b1218ff154e48", func := "budwood/budwoodlaw05.RecCuts", spec := "recCuts", unfollowed := true, recurses := true, apart := false, narrowed := true }
def RecCutsUptoSaid : Prop := recCutsUptoRow.holds Try.pinned (OpenSpec.upto recCutsSpec)

/-- 'budwoodlaw05.RecKinds', WHERE WHAT IT READS IS OF BULK AT MOST 1048576: true; the input reads as it did. -/
def recKindsUptoRow : OpenClaim := { program := "ytibeeomeafakgaa", sum := "e5ea86e29ad80ea41ec467be40a498569cffc393e90f396a945b1218ff154e48", func := "budwood/budwoodlaw05.RecKinds", spec := "recKinds", unfollowed := true, recurses := true, apart := false, narrowed := true }
def RecKindsUptoSaid : Prop := recKindsUptoRow.holds Try.pinned (OpenSpec.upto recKindsSpec)

/-- 'budwoodlaw05.RecKeys', WHERE WHAT IT READS IS OF BULK AT MOST 1048576: true; the input reads as it did. -/
def recKeysUptoRow : OpenClaim := { program := "ytibeeomeafakgaa", sum := "e5ea86e29ad80ea41ec467be40a498569cffc393e90f396a945b1218ff154e48", func := "budwood/budwoodlaw05.RecKeys", spec := "recKeys", unfollowed := true, recurses := true, apart := false, narrowed := true }
def RecKeysUptoSaid : Prop := recKeysUptoRow.holds Try.pinned (OpenSpec.upto recKeysSpec)

/-- 'budwoodlaw05.RecOwn', WHERE WHAT IT READS IS OF BULK AT MOST 1048576: true; the input reads as it did. -/
def recOwnUptoRow : OpenClaim := { program := "ytibeeomeafakgaa", sum := "e5ea86e29ad80ea41ec467be40a498569cffc393e90f396a945b1218ff154e48", func := "budwood/budwoodlaw05.RecOwn", spec := "recOwn", unfollowed := true, recurses := true, apart := false, narrowed := true }
def RecOwnUptoSaid : Prop := recOwnUptoRow.holds Try.pinned (OpenSpec.upto recOwnSpec)

end Rows
end Go.Proofs.Ytibeeomeafakgaa
