/-
  No cell of these rows narrows 'for every input' (looked for: loops, veiled, ifaces, maps, wideKeys, modest, calm, conditions, laid).
  DERIVED. THE GIVEN ROWS OF THIS SEAT. 5 by the template 'for every input the law returns true; each argument reads behind the call as it read before'; 0 by the template 'total and deterministic' (their statements: YtbjnklgicakndaaTotals.lean).
  GIVEN WITH THE SEED: the statements are not yours to turn. If you find one false, say at which input.
  Laid BY PROGRAM, IN A SANDBOX (cutbox-rows.mjs): the forced cells as the released guide's own fill.sh prints them over the translation 650295c70f3570f3… (all of the seat's roots in one cut). By AI agents, Wed Nov 11 2026. No macro, syntax, notation, axiom, sorry.
-/
import Derived.Test.YtbjnklgicakndaaChecked
import GoSem.Claim
import GoSem.ClaimJoined
import GoSem.ClaimMapViews
import Derived.JoinedTies
import Derived.KernelRfl
namespace Go.Proofs.Ytbjnklgicakndaa
/- THE CELL 'sum', in the pinned program and in every row, IS THE sha256 OF THE DUMP (.gsa) THAT YtbjnklgicakndaaProg.lean LOADS. Nothing in Lean hashes anything: it is a label: what it is worth is what the hold of that sum in a sandbox is worth. -/
noncomputable def Try.pinned : Pinned := { name := "ytbjnklgicakndaa", sum := "650295c70f3570f3f91b5f4013a5c7af6960e369db8dbd81a1a21d7ac993086b", checked := Try.checked }
namespace Rows
def none {H : Type} : Left H := { results := [], args := [] }

/-- 'budwoodlaw20.ProgGoes': WHATEVER THE INPUT: true; the input reads as it did. -/
def progGoesSpec : ChangeSpec := { name := "progGoes", fn := fun _ => fun
  | [d1, d2] => { results := [.lit (.bool true)], args := [d1, d2] }
  | _ => none }
def progGoesRow : OpenClaim := { program := "ytbjnklgicakndaa", sum := "650295c70f3570f3f91b5f4013a5c7af6960e369db8dbd81a1a21d7ac993086b", func := "budwood/budwoodlaw20.ProgGoes", spec := "progGoes", apart := false }
def ProgGoesSaid : Prop := progGoesRow.holds Try.pinned (OpenSpec.ofChange progGoesSpec)

/-- ITS FALSE NEIGHBOUR: 'it returns false'. Refute it at one input. -/
def progGoesWrong : ChangeSpec := { name := "progGoes", fn := fun _ => fun
  | [d1, d2] => { results := [.lit (.bool false)], args := [d1, d2] }
  | _ => none }
def ProgGoesWrongFalsely : Prop := progGoesRow.holds Try.pinned (OpenSpec.ofChange progGoesWrong)

/-- 'budwoodlaw20.ProgRecs': WHATEVER THE INPUT: true; the input reads as it did. -/
def progRecsSpec : ChangeSpec := { name := "progRecs", fn := fun _ => fun
  | [d1, d2] => { results := [.lit (.bool true)], args := [d1, d2] }
  | _ => none }
def progRecsRow : OpenClaim := { program := "ytbjnklgicakndaa", sum := "650295c70f3570f3f91b5f4013a5c7af6960e369db8dbd81a1a21d7ac993086b", func := "budwood/budwoodlaw20.ProgRecs", spec := "progRecs", apart := false }
def ProgRecsSaid : Prop := progRecsRow.holds Try.pinned (OpenSpec.ofChange progRecsSpec)

/-- ITS FALSE NEIGHBOUR: 'it returns false'. Refute it at one input. -/
def progRecsWrong : ChangeSpec := { name := "progRecs", fn := fun _ => fun
  | [d1, d2] => { results := [.lit (.bool false)], args := [d1, d2] }
  | _ => none }
def ProgRecsWrongFalsely : Prop := progRecsRow.holds Try.pinned (OpenSpec.ofChange progRecsWrong)

/-- 'budwoodlaw20.ProgFalls': WHATEVER THE INPUT: true; the input reads as it did. -/
def progFallsSpec : ChangeSpec := { name := "progFalls", fn := fun _ => fun
  | [d] => { results := [.lit (.bool true)], args := [d] }
  | _ => none }
def progFallsRow : OpenClaim := { program := "ytbjnklgicakndaa", sum := "650295c70f3570f3f91b5f4013a5c7af6960e369db8dbd81a1a21d7ac993086b", func := "budwood/budwoodlaw20.ProgFalls", spec := "progFalls", apart := false }
def ProgFallsSaid : Prop := progFallsRow.holds Try.pinned (OpenSpec.ofChange progFallsSpec)

/-- ITS FALSE NEIGHBOUR: 'it returns false'. Refute it at one input. -/
def progFallsWrong : ChangeSpec := { name := "progFalls", fn := fun _ => fun
  | [d] => { results := [.lit (.bool false)], args := [d] }
  | _ => none }
def ProgFallsWrongFalsely : Prop := progFallsRow.holds Try.pinned (OpenSpec.ofChange progFallsWrong)

/-- 'budwoodlaw20.ProgOrder': WHATEVER THE INPUT: true; the input reads as it did. -/
def progOrderSpec : ChangeSpec := { name := "progOrder", fn := fun _ => fun
  | [d1, d2, d3] => { results := [.lit (.bool true)], args := [d1, d2, d3] }
  | _ => none }
def progOrderRow : OpenClaim := { program := "ytbjnklgicakndaa", sum := "650295c70f3570f3f91b5f4013a5c7af6960e369db8dbd81a1a21d7ac993086b", func := "budwood/budwoodlaw20.ProgOrder", spec := "progOrder", apart := false }
def ProgOrderSaid : Prop := progOrderRow.holds Try.pinned (OpenSpec.ofChange progOrderSpec)

/-- ITS FALSE NEIGHBOUR: 'it returns false'. Refute it at one input. -/
def progOrderWrong : ChangeSpec := { name := "progOrder", fn := fun _ => fun
  | [d1, d2, d3] => { results := [.lit (.bool false)], args := [d1, d2, d3] }
  | _ => none }
def ProgOrderWrongFalsely : Prop := progOrderRow.holds Try.pinned (OpenSpec.ofChange progOrderWrong)

/-- 'budwoodlaw20.ProgUnits': WHATEVER THE INPUT: true; the input reads as it did. -/
def progUnitsSpec : ChangeSpec := { name := "progUnits", fn := fun _ => fun
  | [d1, d2] => { results := [.lit (.bool true)], args := [d1, d2] }
  | _ => none }
def progUnitsRow : OpenClaim := { program := "ytbjnklgicakndaa", sum := "650295c70f3570f3f91b5f4013a5c7af6960e369db8dbd81a1a21d7ac993086b", func := "budwood/budwoodlaw20.ProgUnits", spec := "progUnits", apart := false }
def ProgUnitsSaid : Prop := progUnitsRow.holds Try.pinned (OpenSpec.ofChange progUnitsSpec)

/-- ITS FALSE NEIGHBOUR: 'it returns false'. Refute it at one input. -/
def progUnitsWrong : ChangeSpec := { name := "progUnits", fn := fun _ => fun
  | [d1, d2] => { results := [.lit (.bool false)], args := [d1, d2] }
  | _ => none }
def ProgUnitsWrongFalsely : Prop := progUnitsRow.holds Try.pinned (OpenSpec.ofChange progUnitsWrong)

/- THE SECOND FORM. 'bulk': how many values and letters a reading holds, each counted each time it is reached (what is shared counts as often as it is met; a slice's spare places count too). A statement '..UptoSaid' is the law's where the arguments, and the package variables that the reading takes, are together of bulk at most 1048576: NARROWER than '..Said'. Prove '..Said' where nothing that the law and all that it calls make is longer than what came in: it says more and counts as full. Else prove '..UptoSaid'. A law counts once. -/
mutual
def uptoBulk {H : Type} : DataW H → Nat
  | .lit (.string bytes) => bytes.length + 1
  | .lit _ => 1
  | .nil => 1
  | .ptr d => uptoBulk d + 1
  | .slice elems spare => uptoBulkAll elems + uptoBulkAll spare + 1
  | .agg parts => uptoBulkAll parts + 1
  | .iface _ d => uptoBulk d + 1
  | .map entries => uptoBulkEntries entries + 1
  | .held _ => 1
def uptoBulkAll {H : Type} : List (DataW H) → Nat
  | [] => 0
  | d :: r => uptoBulk d + uptoBulkAll r
def uptoBulkEntries {H : Type} : List (Lit × DataW H) → Nat
  | [] => 0
  | x :: r => uptoBulkEntry x + uptoBulkEntries r
def uptoBulkEntry {H : Type} : Lit × DataW H → Nat
  | (.string bytes, d) => bytes.length + uptoBulk d + 1
  | (_, d) => uptoBulk d + 1
 end
def uptoSmall : (H : Type) → List (DataW H) → Bool := fun _ ds => decide (uptoBulkAll ds ≤ 1048576)
def OpenSpec.upto (s : _root_.Go.ChangeSpec) : _root_.Go.OpenSpec := { _root_.Go.OpenSpec.ofChange s with cond := some uptoSmall }

/-- 'budwoodlaw20.ProgGoes', WHERE WHAT IT READS IS OF BULK AT MOST 1048576: true; the input reads as it did. -/
def progGoesUptoRow : OpenClaim := { program := "ytbjnklgicakndaa", sum := "650295c70f3570f3f91b5f4013a5c7af6960e369db8dbd81a1a21d7ac993086b", func := "budwood/budwoodlaw20.ProgGoes", spec := "progGoes", apart := false, narrowed := true }
def ProgGoesUptoSaid : Prop := progGoesUptoRow.holds Try.pinned (OpenSpec.upto progGoesSpec)

/-- 'budwoodlaw20.ProgRecs', WHERE WHAT IT READS IS OF BULK AT MOST 1048576: true; the input reads as it did. -/
def progRecsUptoRow : OpenClaim := { program := "ytbjnklgicakndaa", sum := "650295c70f3570f3f91b5f4013a5c7af6960e369db8dbd81a1a21d7ac993086b", func := "budwood/budwoodlaw20.ProgRecs", spec := "progRecs", apart := false, narrowed := true }
def ProgRecsUptoSaid : Prop := progRecsUptoRow.holds Try.pinned (OpenSpec.upto progRecsSpec)

/-- 'budwoodlaw20.ProgFalls', WHERE WHAT IT READS IS OF BULK AT MOST 1048576: true; the input reads as it did. -/
def progFallsUptoRow : OpenClaim := { program := "ytbjnklgicakndaa", sum := "650295c70f3570f3f91b5f4013a5c7af6960e369db8dbd81a1a21d7ac993086b", func := "budwood/budwoodlaw20.ProgFalls", spec := "progFalls", apart := false, narrowed := true }
def ProgFallsUptoSaid : Prop := progFallsUptoRow.holds Try.pinned (OpenSpec.upto progFallsSpec)

/-- 'budwoodlaw20.ProgOrder', WHERE WHAT IT READS IS OF BULK AT MOST 1048576: true; the input reads as it did. -/
def progOrderUptoRow : OpenClaim := { program := "ytbjnklgicakndaa", sum := "650295c70f3570f3f91b5f4013a5c7af6960e369db8dbd81a1a21d7ac993086b", func := "budwood/budwoodlaw20.ProgOrder", spec := "progOrder", apart := false, narrowed := true }
def ProgOrderUptoSaid : Prop := progOrderUptoRow.holds Try.pinned (OpenSpec.upto progOrderSpec)

/-- 'budwoodlaw20.ProgUnits', WHERE WHAT IT READS IS OF BULK AT MOST 1048576: true; the input reads as it did. -/
def progUnitsUptoRow : OpenClaim := { program := "ytbjnklgicakndaa", sum := "650295c70f3570f3f91b5f4013a5c7af6960e369db8dbd81a1a21d7ac993086b", func := "budwood/budwoodlaw20.ProgUnits", spec := "progUnits", apart := false, narrowed := true }
def ProgUnitsUptoSaid : Prop := progUnitsUptoRow.holds Try.pinned (OpenSpec.upto progUnitsSpec)

end Rows
end Go.Proofs.Ytbjnklgicakndaa
