/-
  No cell of these rows narrows 'for every input' (looked for: loops, veiled, ifaces, maps, wideKeys, modest, calm, conditions, laid).
  DERIVED. THE GIVEN ROWS OF THIS SEAT. 7 by the template 'for every input the law returns true; each argument reads behind the call as it read before'; 0 by the template 'total and deterministic' (their statements: YtdlcmbnbfghdmaaTotals.lean).
  GIVEN WITH THE SEED: the statements are not yours to turn. If you find one false, say at which input.
  Laid BY PROGRAM, IN A SANDBOX (cutbox-rows.mjs): the forced cells as the released guide's own fill.sh prints them over the translation 59fe13623409f3e0… (all of the seat's roots in one cut). By AI agents, Wed Nov 11 2026. No macro, syntax, notation, axiom, sorry.
-/
import Derived.Test.YtdlcmbnbfghdmaaChecked
import GoSem.Claim
import GoSem.ClaimJoined
import GoSem.ClaimMapViews
import Derived.JoinedTies
import Derived.KernelRfl
namespace Go.Proofs.Ytdlcmbnbfghdmaa
/- THE CELL 'sum', in the pinned program and in every row, IS THE sha256 OF THE DUMP (.gsa) THAT YtdlcmbnbfghdmaaProg.lean LOADS. Nothing in Lean hashes anything: it is a label: what it is worth is what the hold of that sum in a sandbox is worth. -/
noncomputable def Try.pinned : Pinned := { name := "ytdlcmbnbfghdmaa", sum := "59fe13623409f3e063ab3f1f52fad909bec93e067f8bc5e804790c491f218b21", checked := Try.checked }
namespace Rows
def none {H : Type} : Left H := { results := [], args := [] }

/-- 'budwoodlaw10.LeafPuts': WHATEVER THE INPUT: true; the input reads as it did. -/
def leafPutsSpec : ChangeSpec := { name := "leafPuts", fn := fun _ => fun
  | [d1, d2, d3] => { results := [.lit (.bool true)], args := [d1, d2, d3] }
  | _ => none }
def leafPutsRow : OpenClaim := { program := "ytdlcmbnbfghdmaa", sum := "59fe13623409f3e063ab3f1f52fad909bec93e067f8bc5e804790c491f218b21", func := "budwood/budwoodlaw10.LeafPuts", spec := "leafPuts", inPlace := ["internal/bytealg.abigen_runtime_cmpstring"], unfollowed := true, recurses := true, apart := false }
def LeafPutsSaid : Prop := leafPutsRow.holds Try.pinned (OpenSpec.ofChange leafPutsSpec)

/-- ITS FALSE NEIGHBOUR: 'it returns false'. Refute it at one input. -/
def leafPutsWrong : ChangeSpec := { name := "leafPuts", fn := fun _ => fun
  | [d1, d2, d3] => { results := [.lit (.bool false)], args := [d1, d2, d3] }
  | _ => none }
def LeafPutsWrongFalsely : Prop := leafPutsRow.holds Try.pinned (OpenSpec.ofChange leafPutsWrong)

/-- 'budwoodlaw10.LeafDoes': WHATEVER THE INPUT: true; the input reads as it did. -/
def leafDoesSpec : ChangeSpec := { name := "leafDoes", fn := fun _ => fun
  | [d1, d2, d3] => { results := [.lit (.bool true)], args := [d1, d2, d3] }
  | _ => none }
def leafDoesRow : OpenClaim := { program := "ytdlcmbnbfghdmaa", sum := "59fe13623409f3e063ab3f1f52fad909bec93e067f8bc5e804790c491f218b21", func := "budwood/budwoodlaw10.LeafDoes", spec := "leafDoes", inPlace := ["internal/bytealg.abigen_runtime_cmpstring"], unfollowed := true, recurses := true, apart := false }
def LeafDoesSaid : Prop := leafDoesRow.holds Try.pinned (OpenSpec.ofChange leafDoesSpec)

/-- ITS FALSE NEIGHBOUR: 'it returns false'. Refute it at one input. -/
def leafDoesWrong : ChangeSpec := { name := "leafDoes", fn := fun _ => fun
  | [d1, d2, d3] => { results := [.lit (.bool false)], args := [d1, d2, d3] }
  | _ => none }
def LeafDoesWrongFalsely : Prop := leafDoesRow.holds Try.pinned (OpenSpec.ofChange leafDoesWrong)

/-- 'budwoodlaw10.LeafBack': WHATEVER THE INPUT: true; the input reads as it did. -/
def leafBackSpec : ChangeSpec := { name := "leafBack", fn := fun _ => fun
  | [d1, d2] => { results := [.lit (.bool true)], args := [d1, d2] }
  | _ => none }
def leafBackRow : OpenClaim := { program := "ytdlcmbnbfghdmaa", sum := "59fe13623409f3e063ab3f1f52fad909bec93e067f8bc5e804790c491f218b21", func := "budwood/budwoodlaw10.LeafBack", spec := "leafBack", inPlace := ["internal/bytealg.abigen_runtime_cmpstring"], unfollowed := true, recurses := true, apart := false }
def LeafBackSaid : Prop := leafBackRow.holds Try.pinned (OpenSpec.ofChange leafBackSpec)

/-- ITS FALSE NEIGHBOUR: 'it returns false'. Refute it at one input. -/
def leafBackWrong : ChangeSpec := { name := "leafBack", fn := fun _ => fun
  | [d1, d2] => { results := [.lit (.bool false)], args := [d1, d2] }
  | _ => none }
def LeafBackWrongFalsely : Prop := leafBackRow.holds Try.pinned (OpenSpec.ofChange leafBackWrong)

/-- 'budwoodlaw10.LeafKeys': WHATEVER THE INPUT: true; the input reads as it did. -/
def leafKeysSpec : ChangeSpec := { name := "leafKeys", fn := fun _ => fun
  | [d1, d2] => { results := [.lit (.bool true)], args := [d1, d2] }
  | _ => none }
def leafKeysRow : OpenClaim := { program := "ytdlcmbnbfghdmaa", sum := "59fe13623409f3e063ab3f1f52fad909bec93e067f8bc5e804790c491f218b21", func := "budwood/budwoodlaw10.LeafKeys", spec := "leafKeys", inPlace := ["internal/bytealg.abigen_runtime_cmpstring"], unfollowed := true, recurses := true, apart := false }
def LeafKeysSaid : Prop := leafKeysRow.holds Try.pinned (OpenSpec.ofChange leafKeysSpec)

/-- ITS FALSE NEIGHBOUR: 'it returns false'. Refute it at one input. -/
def leafKeysWrong : ChangeSpec := { name := "leafKeys", fn := fun _ => fun
  | [d1, d2] => { results := [.lit (.bool false)], args := [d1, d2] }
  | _ => none }
def LeafKeysWrongFalsely : Prop := leafKeysRow.holds Try.pinned (OpenSpec.ofChange leafKeysWrong)

/-- 'budwoodlaw10.LeafSplits': WHATEVER THE INPUT: true; the input reads as it did. -/
def leafSplitsSpec : ChangeSpec := { name := "leafSplits", fn := fun _ => fun
  | [d1, d2, d3] => { results := [.lit (.bool true)], args := [d1, d2, d3] }
  | _ => none }
def leafSplitsRow : OpenClaim := { program := "ytdlcmbnbfghdmaa", sum := "59fe13623409f3e063ab3f1f52fad909bec93e067f8bc5e804790c491f218b21", func := "budwood/budwoodlaw10.LeafSplits", spec := "leafSplits", inPlace := ["internal/bytealg.abigen_runtime_cmpstring"], unfollowed := true, recurses := true, apart := false }
def LeafSplitsSaid : Prop := leafSplitsRow.holds Try.pinned (OpenSpec.ofChange leafSplitsSpec)

/-- ITS FALSE NEIGHBOUR: 'it returns false'. Refute it at one input. -/
def leafSplitsWrong : ChangeSpec := { name := "leafSplits", fn := fun _ => fun
  | [d1, d2, d3] => { results := [.lit (.bool false)], args := [d1, d2, d3] }
  | _ => none }
def LeafSplitsWrongFalsely : Prop := leafSplitsRow.holds Try.pinned (OpenSpec.ofChange leafSplitsWrong)

/-- 'budwoodlaw10.LeafSize': WHATEVER THE INPUT: true; the input reads as it did. -/
def leafSizeSpec : ChangeSpec := { name := "leafSize", fn := fun _ => fun
  | [d1, d2] => { results := [.lit (.bool true)], args := [d1, d2] }
  | _ => none }
def leafSizeRow : OpenClaim := { program := "ytdlcmbnbfghdmaa", sum := "59fe13623409f3e063ab3f1f52fad909bec93e067f8bc5e804790c491f218b21", func := "budwood/budwoodlaw10.LeafSize", spec := "leafSize", inPlace := ["internal/bytealg.abigen_runtime_cmpstring"], unfollowed := true, recurses := true, apart := false }
def LeafSizeSaid : Prop := leafSizeRow.holds Try.pinned (OpenSpec.ofChange leafSizeSpec)

/-- ITS FALSE NEIGHBOUR: 'it returns false'. Refute it at one input. -/
def leafSizeWrong : ChangeSpec := { name := "leafSize", fn := fun _ => fun
  | [d1, d2] => { results := [.lit (.bool false)], args := [d1, d2] }
  | _ => none }
def LeafSizeWrongFalsely : Prop := leafSizeRow.holds Try.pinned (OpenSpec.ofChange leafSizeWrong)

/-- 'budwoodlaw10.LeafHigh': WHATEVER THE INPUT: true; the input reads as it did. -/
def leafHighSpec : ChangeSpec := { name := "leafHigh", fn := fun _ => fun
  | [d1, d2, d3] => { results := [.lit (.bool true)], args := [d1, d2, d3] }
  | _ => none }
def leafHighRow : OpenClaim := { program := "ytdlcmbnbfghdmaa", sum := "59fe13623409f3e063ab3f1f52fad909bec93e067f8bc5e804790c491f218b21", func := "budwood/budwoodlaw10.LeafHigh", spec := "leafHigh", inPlace := ["internal/bytealg.abigen_runtime_cmpstring"], unfollowed := true, recurses := true, apart := false }
def LeafHighSaid : Prop := leafHighRow.holds Try.pinned (OpenSpec.ofChange leafHighSpec)

/-- ITS FALSE NEIGHBOUR: 'it returns false'. Refute it at one input. -/
def leafHighWrong : ChangeSpec := { name := "leafHigh", fn := fun _ => fun
  | [d1, d2, d3] => { results := [.lit (.bool false)], args := [d1, d2, d3] }
  | _ => none }
def LeafHighWrongFalsely : Prop := leafHighRow.holds Try.pinned (OpenSpec.ofChange leafHighWrong)

/- THE SECOND FORM. 'bulk': how many values and letters a reading holds, each counted each time it is reached (what is shared counts as often as it is met; a slice's spare places count too). A statement '..UptoSaid' is the law's where the arguments, and the package variables that the reading takes, are together of bulk at most 1048576: NARROWER than '..Said'. Prove '..Said' where nothing that the law and all that it calls make is longer than what came in: it says more and counts as full. Else prove '..UptoSaid'. A law counts once. -/
mutual
def uptoBulk {H : Type} : DataW H → Nat
  | .lit (.string bytes) => bytes.length + 1
  | .lit _ => 1
  | .nil => 1
  | .ptr d => uptoBulk d + 1
  | .slice elems spare => uptoBulkAll elems + uptoBulkAll spare + 1
  | .agg parts => uptoBulkAll parts + 1
  | .iface _ d => uptoBulk d + 1
  | .map entries => uptoBulkEntries entries + 1
  | .held _ => 1
def uptoBulkAll {H : Type} : List (DataW H) → Nat
  | [] => 0
  | d :: r => uptoBulk d + uptoBulkAll r
def uptoBulkEntries {H : Type} : List (Lit × DataW H) → Nat
  | [] => 0
  | x :: r => uptoBulkEntry x + uptoBulkEntries r
def uptoBulkEntry {H : Type} : Lit × DataW H → Nat
  | (.string bytes, d) => bytes.length + uptoBulk d + 1
  | (_, d) => uptoBulk d + 1
 end
def uptoSmall : (H : Type) → List (DataW H) → Bool := fun _ ds => decide (uptoBulkAll ds ≤ 1048576)
def OpenSpec.upto (s : _root_.Go.ChangeSpec) : _root_.Go.OpenSpec := { _root_.Go.OpenSpec.ofChange s with cond := some uptoSmall }

/-- 'budwoodlaw10.LeafPuts', WHERE WHAT IT READS IS OF BULK AT MOST 1048576: true; the input reads as it did. -/
def leafPutsUptoRow : OpenClaim := { program := "ytdlcmbnbfghdmaa", sum := "59fe13623409f3e063ab3f1f52fad909bec93e067f8bc5e804790c491f218b21", func := "budwood/budwoodlaw10.LeafPuts", spec := "leafPuts", inPlace := ["internal/bytealg.abigen_runtime_cmpstring"], unfollowed := true, recurses := true, apart := false, narrowed := true }
def LeafPutsUptoSaid : Prop := leafPutsUptoRow.holds Try.pinned (OpenSpec.upto leafPutsSpec)

/-- 'budwoodlaw10.LeafDoes', WHERE WHAT IT READS IS OF BULK AT MOST 1048576: true; the input reads as it did. -/
def leafDoesUptoRow : OpenClaim := { program := "ytdlcmbnbfghdmaa", sum := "59fe13623409f3e063ab3f1f52fad909bec93e067f8bc5e804790c491f218b21", func := "budwood/budwoodlaw10.LeafDoes", spec := "leafDoes", inPlace := ["internal/bytealg.abigen_runtime_cmpstring"], unfollowed := true, recurses := true, apart := false, narrowed := true }
def LeafDoesUptoSaid : Prop := leafDoesUptoRow.holds Try.pinned (OpenSpec.upto leafDoesSpec)

/-- 'budwoodlaw10.LeafBack', WHERE WHAT IT READS IS OF BULK AT MOST 1048576: true; the input reads as it did. -/
def leafBackUptoRow : OpenClaim := { program := "ytdlcmbnbfghdmaa", sum := "59fe13623409f3e063ab3f1f52fad909bec93e067f8bc5e804790c491f218b21", func := "budwood/budwoodlaw10.LeafBack", spec := "leafBack", inPlace := ["internal/bytealg.abigen_runtime_cmpstring"], unfollowed := true, recurses := true, apart := false, narrowed := true }
def LeafBackUptoSaid : Prop := leafBackUptoRow.holds Try.pinned (OpenSpec.upto leafBackSpec)

/-- 'budwoodlaw10.LeafKeys', WHERE WHAT IT READS IS OF BULK AT MOST 1048576: true; the input reads as it did. -/
def leafKeysUptoRow : OpenClaim := { program := "ytdlcmbnbfghdmaa", sum := "59fe13623409f3e063ab3f1f52fad909bec93e067f8bc5e804790c491f218b21", func := "budwood/budwoodlaw10.LeafKeys", spec := "leafKeys", inPlace := ["internal/bytealg.abigen_runtime_cmpstring"], unfollowed := true, recurses := true, apart := false, narrowed := true }
def LeafKeysUptoSaid : Prop := leafKeysUptoRow.holds Try.pinned (OpenSpec.upto leafKeysSpec)

/-- 'budwoodlaw10.LeafSplits', WHERE WHAT IT READS IS OF BULK AT MOST 1048576: true; the input reads as it did. -/
def leafSplitsUptoRow : OpenClaim := { program := "ytdlcmbnbfghdmaa", sum := "59fe13623409f3e063ab3f1f52fad909bec93e067f8bc5e804790c491f218b21", func := "budwood/budwoodlaw10.LeafSplits", spec := "leafSplits", inPlace := ["internal/bytealg.abigen_runtime_cmpstring"], unfollowed := true, recurses := true, apart := false, narrowed := true }
def LeafSplitsUptoSaid : Prop := leafSplitsUptoRow.holds Try.pinned (OpenSpec.upto leafSplitsSpec)

/-- 'budwoodlaw10.LeafSize', WHERE WHAT IT READS IS OF BULK AT MOST 1048576: true; the input reads as it did. -/
def leafSizeUptoRow : OpenClaim := { program := "ytdlcmbnbfghdmaa", sum := "59fe13623409f3e063ab3f1f52fad909bec93e067f8bc5e804790c491f218b21", func := "budwood/budwoodlaw10.LeafSize", spec := "leafSize", inPlace := ["internal/bytealg.abigen_runtime_cmpstring"], unfollowed := true, recurses := true, apart := false, narrowed := true }
def LeafSizeUptoSaid : Prop := leafSizeUptoRow.holds Try.pinned (OpenSpec.upto leafSizeSpec)

/-- 'budwoodlaw10.LeafHigh', WHERE WHAT IT READS IS OF BULK AT MOST 1048576: true; the input reads as it did. -/
def leafHighUptoRow : OpenClaim := { program := "ytdlcmbnbfghdmaa", sum := "59fe13623409f3e063ab3f1f52fad909bec93e067f8bc5e804790c491f218b21", func := "budwood/budwoodlaw10.LeafHigh", spec := "leafHigh", inPlace := ["internal/bytealg.abigen_runtime_cmpstring"], unfollowed := true, recurses := true, apart := false, narrowed := true }
def LeafHighUptoSaid : Prop := leafHighUptoRow.holds Try.pinned (OpenSpec.upto leafHighSpec)

end Rows
end Go.Proofs.Ytdlcmbnbfghdmaa
