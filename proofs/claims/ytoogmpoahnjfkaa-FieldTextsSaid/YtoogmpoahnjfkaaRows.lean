/-
  No cell of these rows narrows 'for every input' (looked for: loops, veiled, ifaces, maps, wideKeys, modest, calm, conditions, laid).
  DERIVED. THE GIVEN ROWS OF THIS SEAT. 7 by the template 'for every input the law returns true; each argument reads behind the call as it read before'; 0 by the template 'total and deterministic' (their statements: YtoogmpoahnjfkaaTotals.lean).
  GIVEN WITH THE SEED: the statements are not yours to turn. If you find one false, say at which input.
  Laid BY PROGRAM, IN A SANDBOX (cutbox-rows.mjs): the forced cells as the released guide's own fill.sh prints them over the translation 4832ffce7f4ae0e0… (all of the seat's roots in one cut). By AI agents, Wed Nov 11 2026. No macro, syntax, notation, axiom, sorry.
-/
import Derived.Test.YtoogmpoahnjfkaaChecked
import GoSem.Claim
import GoSem.ClaimJoined
import GoSem.ClaimMapViews
import Derived.JoinedTies
import Derived.KernelRfl
namespace Go.Proofs.Ytoogmpoahnjfkaa
/- THE CELL 'sum', in the pinned program and in every row, IS THE sha256 OF THE DUMP (.gsa) THAT YtoogmpoahnjfkaaProg.lean LOADS. Nothing in Lean hashes anything: it is a label: what it is worth is what the hold of that sum in a sandbox is worth. -/
noncomputable def Try.pinned : Pinned := { name := "ytoogmpoahnjfkaa", sum := "4832ffce7f4ae0e085c7ba876e31d5594dffe59c08369c22de512827ea4f0b89", checked := Try.checked }
namespace Rows
def none {H : Type} : Left H := { results := [], args := [] }

/-- 'budwoodlaw01.FieldNumbers': WHATEVER THE INPUT: true; the input reads as it did. -/
def fieldNumbersSpec : ChangeSpec := { name := "fieldNumbers", fn := fun _ => fun
  | [d1, d2, d3] => { results := [.lit (.bool true)], args := [d1, d2, d3] }
  | _ => none }
def fieldNumbersRow : OpenClaim := { program := "ytoogmpoahnjfkaa", sum := "4832ffce7f4ae0e085c7ba876e31d5594dffe59c08369c22de512827ea4f0b89", func := "budwood/budwoodlaw01.FieldNumbers", spec := "fieldNumbers", recurses := true, apart := false }
def FieldNumbersSaid : Prop := fieldNumbersRow.holds Try.pinned (OpenSpec.ofChange fieldNumbersSpec)

/-- ITS FALSE NEIGHBOUR: 'it returns false'. Refute it at one input. -/
def fieldNumbersWrong : ChangeSpec := { name := "fieldNumbers", fn := fun _ => fun
  | [d1, d2, d3] => { results := [.lit (.bool false)], args := [d1, d2, d3] }
  | _ => none }
def FieldNumbersWrongFalsely : Prop := fieldNumbersRow.holds Try.pinned (OpenSpec.ofChange fieldNumbersWrong)

/-- 'budwoodlaw01.FieldTexts': WHATEVER THE INPUT: true; the input reads as it did. -/
def fieldTextsSpec : ChangeSpec := { name := "fieldTexts", fn := fun _ => fun
  | [d1, d2, d3] => { results := [.lit (.bool true)], args := [d1, d2, d3] }
  | _ => none }
def fieldTextsRow : OpenClaim := { program := "ytoogmpoahnjfkaa", sum := "4832ffce7f4ae0e085c7ba876e31d5594dffe59c08369c22de512827ea4f0b89", func := "budwood/budwoodlaw01.FieldTexts", spec := "fieldTexts", recurses := true, apart := false }
def FieldTextsSaid : Prop := fieldTextsRow.holds Try.pinned (OpenSpec.ofChange fieldTextsSpec)

/-- ITS FALSE NEIGHBOUR: 'it returns false'. Refute it at one input. -/
def fieldTextsWrong : ChangeSpec := { name := "fieldTexts", fn := fun _ => fun
  | [d1, d2, d3] => { results := [.lit (.bool false)], args := [d1, d2, d3] }
  | _ => none }
def FieldTextsWrongFalsely : Prop := fieldTextsRow.holds Try.pinned (OpenSpec.ofChange fieldTextsWrong)

/-- 'budwoodlaw01.FieldBack': WHATEVER THE INPUT: true; the input reads as it did. -/
def fieldBackSpec : ChangeSpec := { name := "fieldBack", fn := fun _ => fun
  | [d1, d2, d3] => { results := [.lit (.bool true)], args := [d1, d2, d3] }
  | _ => none }
def fieldBackRow : OpenClaim := { program := "ytoogmpoahnjfkaa", sum := "4832ffce7f4ae0e085c7ba876e31d5594dffe59c08369c22de512827ea4f0b89", func := "budwood/budwoodlaw01.FieldBack", spec := "fieldBack", apart := false }
def FieldBackSaid : Prop := fieldBackRow.holds Try.pinned (OpenSpec.ofChange fieldBackSpec)

/-- ITS FALSE NEIGHBOUR: 'it returns false'. Refute it at one input. -/
def fieldBackWrong : ChangeSpec := { name := "fieldBack", fn := fun _ => fun
  | [d1, d2, d3] => { results := [.lit (.bool false)], args := [d1, d2, d3] }
  | _ => none }
def FieldBackWrongFalsely : Prop := fieldBackRow.holds Try.pinned (OpenSpec.ofChange fieldBackWrong)

/-- 'budwoodlaw01.FieldBare': WHATEVER THE INPUT: true; the input reads as it did. -/
def fieldBareSpec : ChangeSpec := { name := "fieldBare", fn := fun _ => fun
  | [d1, d2] => { results := [.lit (.bool true)], args := [d1, d2] }
  | _ => none }
def fieldBareRow : OpenClaim := { program := "ytoogmpoahnjfkaa", sum := "4832ffce7f4ae0e085c7ba876e31d5594dffe59c08369c22de512827ea4f0b89", func := "budwood/budwoodlaw01.FieldBare", spec := "fieldBare", apart := false }
def FieldBareSaid : Prop := fieldBareRow.holds Try.pinned (OpenSpec.ofChange fieldBareSpec)

/-- ITS FALSE NEIGHBOUR: 'it returns false'. Refute it at one input. -/
def fieldBareWrong : ChangeSpec := { name := "fieldBare", fn := fun _ => fun
  | [d1, d2] => { results := [.lit (.bool false)], args := [d1, d2] }
  | _ => none }
def FieldBareWrongFalsely : Prop := fieldBareRow.holds Try.pinned (OpenSpec.ofChange fieldBareWrong)

/-- 'budwoodlaw01.FieldSizes': WHATEVER THE INPUT: true; the input reads as it did. -/
def fieldSizesSpec : ChangeSpec := { name := "fieldSizes", fn := fun _ => fun
  | [d1, d2] => { results := [.lit (.bool true)], args := [d1, d2] }
  | _ => none }
def fieldSizesRow : OpenClaim := { program := "ytoogmpoahnjfkaa", sum := "4832ffce7f4ae0e085c7ba876e31d5594dffe59c08369c22de512827ea4f0b89", func := "budwood/budwoodlaw01.FieldSizes", spec := "fieldSizes", apart := false }
def FieldSizesSaid : Prop := fieldSizesRow.holds Try.pinned (OpenSpec.ofChange fieldSizesSpec)

/-- ITS FALSE NEIGHBOUR: 'it returns false'. Refute it at one input. -/
def fieldSizesWrong : ChangeSpec := { name := "fieldSizes", fn := fun _ => fun
  | [d1, d2] => { results := [.lit (.bool false)], args := [d1, d2] }
  | _ => none }
def FieldSizesWrongFalsely : Prop := fieldSizesRow.holds Try.pinned (OpenSpec.ofChange fieldSizesWrong)

/-- 'budwoodlaw01.FieldApart': WHATEVER THE INPUT: true; the input reads as it did. -/
def fieldApartSpec : ChangeSpec := { name := "fieldApart", fn := fun _ => fun
  | [d1, d2, d3] => { results := [.lit (.bool true)], args := [d1, d2, d3] }
  | _ => none }
def fieldApartRow : OpenClaim := { program := "ytoogmpoahnjfkaa", sum := "4832ffce7f4ae0e085c7ba876e31d5594dffe59c08369c22de512827ea4f0b89", func := "budwood/budwoodlaw01.FieldApart", spec := "fieldApart", apart := false }
def FieldApartSaid : Prop := fieldApartRow.holds Try.pinned (OpenSpec.ofChange fieldApartSpec)

/-- ITS FALSE NEIGHBOUR: 'it returns false'. Refute it at one input. -/
def fieldApartWrong : ChangeSpec := { name := "fieldApart", fn := fun _ => fun
  | [d1, d2, d3] => { results := [.lit (.bool false)], args := [d1, d2, d3] }
  | _ => none }
def FieldApartWrongFalsely : Prop := fieldApartRow.holds Try.pinned (OpenSpec.ofChange fieldApartWrong)

/-- 'budwoodlaw01.FieldRow': WHATEVER THE INPUT: true; the input reads as it did. -/
def fieldRowSpec : ChangeSpec := { name := "fieldRow", fn := fun _ => fun
  | [d] => { results := [.lit (.bool true)], args := [d] }
  | _ => none }
def fieldRowRow : OpenClaim := { program := "ytoogmpoahnjfkaa", sum := "4832ffce7f4ae0e085c7ba876e31d5594dffe59c08369c22de512827ea4f0b89", func := "budwood/budwoodlaw01.FieldRow", spec := "fieldRow", apart := false }
def FieldRowSaid : Prop := fieldRowRow.holds Try.pinned (OpenSpec.ofChange fieldRowSpec)

/-- ITS FALSE NEIGHBOUR: 'it returns false'. Refute it at one input. -/
def fieldRowWrong : ChangeSpec := { name := "fieldRow", fn := fun _ => fun
  | [d] => { results := [.lit (.bool false)], args := [d] }
  | _ => none }
def FieldRowWrongFalsely : Prop := fieldRowRow.holds Try.pinned (OpenSpec.ofChange fieldRowWrong)

/- THE SECOND FORM. 'bulk': how many values and letters a reading holds, each counted each time it is reached (what is shared counts as often as it is met; a slice's spare places count too). A statement '..UptoSaid' is the law's where the arguments, and the package variables that the reading takes, are together of bulk at most 1048576: NARROWER than '..Said'. Prove '..Said' where nothing that the law and all that it calls make is longer than what came in: it says more and counts as full. Else prove '..UptoSaid'. A law counts once. -/
mutual
def uptoBulk {H : Type} : DataW H → Nat
  | .lit (.string bytes) => bytes.length + 1
  | .lit _ => 1
  | .nil => 1
  | .ptr d => uptoBulk d + 1
  | .slice elems spare => uptoBulkAll elems + uptoBulkAll spare + 1
  | .agg parts => uptoBulkAll parts + 1
  | .iface _ d => uptoBulk d + 1
  | .map entries => uptoBulkEntries entries + 1
  | .held _ => 1
def uptoBulkAll {H : Type} : List (DataW H) → Nat
  | [] => 0
  | d :: r => uptoBulk d + uptoBulkAll r
def uptoBulkEntries {H : Type} : List (Lit × DataW H) → Nat
  | [] => 0
  | x :: r => uptoBulkEntry x + uptoBulkEntries r
def uptoBulkEntry {H : Type} : Lit × DataW H → Nat
  | (.string bytes, d) => bytes.length + uptoBulk d + 1
  | (_, d) => uptoBulk d + 1
 end
def uptoSmall : (H : Type) → List (DataW H) → Bool := fun _ ds => decide (uptoBulkAll ds ≤ 1048576)
def OpenSpec.upto (s : _root_.Go.ChangeSpec) : _root_.Go.OpenSpec := { _root_.Go.OpenSpec.ofChange s with cond := some uptoSmall }

/-- 'budwoodlaw01.FieldNumbers', WHERE WHAT IT READS IS OF BULK AT MOST 1048576: true; the input reads as it did. -/
def fieldNumbersUptoRow : OpenClaim := { program := "ytoogmpoahnjfkaa", sum := "4832ffce7f4ae0e085c7ba876e31d5594dffe59c08369c22de512827ea4f0b89", func := "budwood/budwoodlaw01.FieldNumbers", spec := "fieldNumbers", recurses := true, apart := false, narrowed := true }
def FieldNumbersUptoSaid : Prop := fieldNumbersUptoRow.holds Try.pinned (OpenSpec.upto fieldNumbersSpec)

/-- 'budwoodlaw01.FieldTexts', WHERE WHAT IT READS IS OF BULK AT MOST 1048576: true; the input reads as it did. -/
def fieldTextsUptoRow : OpenClaim := { program := "ytoogmpoahnjfkaa", sum := "4832ffce7f4ae0e085c7ba876e31d5594dffe59c08369c22de512827ea4f0b89", func := "budwood/budwoodlaw01.FieldTexts", spec := "fieldTexts", recurses := true, apart := false, narrowed := true }
def FieldTextsUptoSaid : Prop := fieldTextsUptoRow.holds Try.pinned (OpenSpec.upto fieldTextsSpec)

/-- 'budwoodlaw01.FieldBack', WHERE WHAT IT READS IS OF BULK AT MOST 1048576: true; the input reads as it did. -/
def fieldBackUptoRow : OpenClaim := { program := "ytoogmpoahnjfkaa", sum := "4832ffce7f4ae0e085c7ba876e31d5594dffe59c08369c22de512827ea4f0b89", func := "budwood/budwoodlaw01.FieldBack", spec := "fieldBack", apart := false, narrowed := true }
def FieldBackUptoSaid : Prop := fieldBackUptoRow.holds Try.pinned (OpenSpec.upto fieldBackSpec)

/-- 'budwoodlaw01.FieldBare', WHERE WHAT IT READS IS OF BULK AT MOST 1048576: true; the input reads as it did. -/
def fieldBareUptoRow : OpenClaim := { program := "ytoogmpoahnjfkaa", sum := "4832ffce7f4ae0e085c7ba876e31d5594dffe59c08369c22de512827ea4f0b89", func := "budwood/budwoodlaw01.FieldBare", spec := "fieldBare", apart := false, narrowed := true }
def FieldBareUptoSaid : Prop := fieldBareUptoRow.holds Try.pinned (OpenSpec.upto fieldBareSpec)

/-- 'budwoodlaw01.FieldSizes', WHERE WHAT IT READS IS OF BULK AT MOST 1048576: true; the input reads as it did. -/
def fieldSizesUptoRow : OpenClaim := { program := "ytoogmpoahnjfkaa", sum := "4832ffce7f4ae0e085c7ba876e31d5594dffe59c08369c22de512827ea4f0b89", func := "budwood/budwoodlaw01.FieldSizes", spec := "fieldSizes", apart := false, narrowed := true }
def FieldSizesUptoSaid : Prop := fieldSizesUptoRow.holds Try.pinned (OpenSpec.upto fieldSizesSpec)

/-- 'budwoodlaw01.FieldApart', WHERE WHAT IT READS IS OF BULK AT MOST 1048576: true; the input reads as it did. -/
def fieldApartUptoRow : OpenClaim := { program := "ytoogmpoahnjfkaa", sum := "4832ffce7f4ae0e085c7ba876e31d5594dffe59c08369c22de512827ea4f0b89", func := "budwood/budwoodlaw01.FieldApart", spec := "fieldApart", apart := false, narrowed := true }
def FieldApartUptoSaid : Prop := fieldApartUptoRow.holds Try.pinned (OpenSpec.upto fieldApartSpec)

/-- 'budwoodlaw01.FieldRow', WHERE WHAT IT READS IS OF BULK AT MOST 1048576: true; the input reads as it did. -/
def fieldRowUptoRow : OpenClaim := { program := "ytoogmpoahnjfkaa", sum := "4832ffce7f4ae0e085c7ba876e31d5594dffe59c08369c22de512827ea4f0b89", func := "budwood/budwoodlaw01.FieldRow", spec := "fieldRow", apart := false, narrowed := true }
def FieldRowUptoSaid : Prop := fieldRowUptoRow.holds Try.pinned (OpenSpec.upto fieldRowSpec)

end Rows
end Go.Proofs.Ytoogmpoahnjfkaa
