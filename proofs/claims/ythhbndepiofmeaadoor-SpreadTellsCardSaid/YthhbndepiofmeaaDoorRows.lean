/-
  NARROWER THAN 'FOR EVERY INPUT', by the rows' own cells (each row's printed sentence says how): SpreadTells: laid · SpreadShows: laid · SpreadParts: laid · SpreadOrder: laid · SpreadSide: laid · SpreadSum: laid.
  DERIVED. THE GIVEN ROWS OF THIS SEAT. 6 by the template 'for every input the law returns true; each argument reads behind the call as it read before'; 0 by the template 'total and deterministic' (their statements: YthhbndepiofmeaaDoorTotals.lean).
  GIVEN WITH THE SEED: the statements are not yours to turn. If you find one false, say at which input.
  Laid BY PROGRAM, IN A SANDBOX (cutbox-rows.mjs): the forced cells as the released guide's own fill.sh prints them over the translation 74d6bffbd6fbc90b… (all of the seat's roots in one cut). By AI agents, Wed Nov 11 2026. No macro, syntax, notation, axiom, sorry.
-/
import Derived.Test.YthhbndepiofmeaaDoorChecked
import GoSem.Claim
import GoSem.ClaimJoined
import GoSem.ClaimMapViews
import Derived.JoinedTies
import Derived.KernelRfl
namespace Go.Proofs.YthhbndepiofmeaaDoor
/- THE CELL 'sum', in the pinned program and in every row, IS THE sha256 OF THE DUMP (.gsa) THAT YthhbndepiofmeaaDoorProg.lean LOADS. Nothing in Lean hashes anything: it is a label: what it is worth is what the hold of that sum in a sandbox is worth. -/
noncomputable def Tryd.pinned : Pinned := { name := "ythhbndepiofmeaadoor", sum := "74d6bffbd6fbc90ba10435cf2561940a39624b4d44bdb173e3be9348f1f2d32e", checked := Tryd.checked }
namespace Rows
def none {H : Type} : Left H := { results := [], args := [] }

/- WHAT THE LISTED PACKAGE-LEVEL VARIABLES READ AS WHEN THE CALL BEGINS. Each datum BY PROGRAM (the guide's laid-datum.mjs) off the statement by which the dump's own 'gosem.cut.vars' lays the variable. In a bare row this is a premise. The card (YthhbndepiofmeaaDoorCards.lean) ties it to the program's text. -/
def laid_math_bits_deBruijn32tab {H : Type} : DataW H := .agg [.lit (.int .u8 0), .lit (.int .u8 1), .lit (.int .u8 28), .lit (.int .u8 2), .lit (.int .u8 29), .lit (.int .u8 14), .lit (.int .u8 24), .lit (.int .u8 3), .lit (.int .u8 30), .lit (.int .u8 22), .lit (.int .u8 20), .lit (.int .u8 15), .lit (.int .u8 25), .lit (.int .u8 17), .lit (.int .u8 4), .lit (.int .u8 8), .lit (.int .u8 31), .lit (.int .u8 27), .lit (.int .u8 13), .lit (.int .u8 23), .lit (.int .u8 21), .lit (.int .u8 19), .lit (.int .u8 16), .lit (.int .u8 7), .lit (.int .u8 26), .lit (.int .u8 12), .lit (.int .u8 18), .lit (.int .u8 6), .lit (.int .u8 11), .lit (.int .u8 5), .lit (.int .u8 10), .lit (.int .u8 9)]
def laid_math_bits_deBruijn64tab {H : Type} : DataW H := .agg [.lit (.int .u8 0), .lit (.int .u8 1), .lit (.int .u8 56), .lit (.int .u8 2), .lit (.int .u8 57), .lit (.int .u8 49), .lit (.int .u8 28), .lit (.int .u8 3), .lit (.int .u8 61), .lit (.int .u8 58), .lit (.int .u8 42), .lit (.int .u8 50), .lit (.int .u8 38), .lit (.int .u8 29), .lit (.int .u8 17), .lit (.int .u8 4), .lit (.int .u8 62), .lit (.int .u8 47), .lit (.int .u8 59), .lit (.int .u8 36), .lit (.int .u8 45), .lit (.int .u8 43), .lit (.int .u8 51), .lit (.int .u8 22), .lit (.int .u8 53), .lit (.int .u8 39), .lit (.int .u8 33), .lit (.int .u8 30), .lit (.int .u8 24), .lit (.int .u8 18), .lit (.int .u8 12), .lit (.int .u8 5), .lit (.int .u8 63), .lit (.int .u8 55), .lit (.int .u8 48), .lit (.int .u8 27), .lit (.int .u8 60), .lit (.int .u8 41), .lit (.int .u8 37), .lit (.int .u8 16), .lit (.int .u8 46), .lit (.int .u8 35), .lit (.int .u8 44), .lit (.int .u8 21), .lit (.int .u8 52), .lit (.int .u8 32), .lit (.int .u8 23), .lit (.int .u8 11), .lit (.int .u8 54), .lit (.int .u8 26), .lit (.int .u8 40), .lit (.int .u8 15), .lit (.int .u8 34), .lit (.int .u8 20), .lit (.int .u8 31), .lit (.int .u8 10), .lit (.int .u8 25), .lit (.int .u8 14), .lit (.int .u8 19), .lit (.int .u8 9), .lit (.int .u8 13), .lit (.int .u8 8), .lit (.int .u8 7), .lit (.int .u8 6)]
def laid_internal_strconv_uint64pow10 {H : Type} : DataW H := .agg [.lit (.int .u64 1), .lit (.int .u64 10), .lit (.int .u64 100), .lit (.int .u64 1000), .lit (.int .u64 10000), .lit (.int .u64 100000), .lit (.int .u64 1000000), .lit (.int .u64 10000000), .lit (.int .u64 100000000), .lit (.int .u64 1000000000), .lit (.int .u64 10000000000), .lit (.int .u64 100000000000), .lit (.int .u64 1000000000000), .lit (.int .u64 10000000000000), .lit (.int .u64 100000000000000), .lit (.int .u64 1000000000000000), .lit (.int .u64 10000000000000000), .lit (.int .u64 100000000000000000), .lit (.int .u64 1000000000000000000), .lit (.int .u64 10000000000000000000)]

/-- 'budwoodlaw18.SpreadTells': WHATEVER THE INPUT: true; the input reads as it did. -/
def spreadTellsSpec : ChangeSpec := { name := "spreadTells", fn := fun _ => fun
  | [d1, d2, d3] => { results := [.lit (.bool true)], args := [d1, d2, d3] }
  | _ => none }
def spreadTellsRow : OpenClaim := { program := "ythhbndepiofmeaadoor", sum := "74d6bffbd6fbc90ba10435cf2561940a39624b4d44bdb173e3be9348f1f2d32e", func := "budwood/budwoodlaw18.SpreadTells", spec := "spreadTells", named := ["internal/strconv.uint64pow10", "math/bits.deBruijn32tab", "math/bits.deBruijn64tab"], apart := false, laid := [("math/bits.deBruijn32tab", laid_math_bits_deBruijn32tab), ("math/bits.deBruijn64tab", laid_math_bits_deBruijn64tab), ("internal/strconv.uint64pow10", laid_internal_strconv_uint64pow10)] }
def SpreadTellsSaid : Prop := spreadTellsRow.holds Tryd.pinned (OpenSpec.ofChange spreadTellsSpec)

/-- ITS FALSE NEIGHBOUR: 'it returns false'. Refute it at one input. -/
def spreadTellsWrong : ChangeSpec := { name := "spreadTells", fn := fun _ => fun
  | [d1, d2, d3] => { results := [.lit (.bool false)], args := [d1, d2, d3] }
  | _ => none }
def SpreadTellsWrongFalsely : Prop := spreadTellsRow.holds Tryd.pinned (OpenSpec.ofChange spreadTellsWrong)

/-- 'budwoodlaw18.SpreadShows': WHATEVER THE INPUT: true; the input reads as it did. -/
def spreadShowsSpec : ChangeSpec := { name := "spreadShows", fn := fun _ => fun
  | [d1, d2] => { results := [.lit (.bool true)], args := [d1, d2] }
  | _ => none }
def spreadShowsRow : OpenClaim := { program := "ythhbndepiofmeaadoor", sum := "74d6bffbd6fbc90ba10435cf2561940a39624b4d44bdb173e3be9348f1f2d32e", func := "budwood/budwoodlaw18.SpreadShows", spec := "spreadShows", recurses := true, named := ["internal/strconv.uint64pow10", "math/bits.deBruijn32tab", "math/bits.deBruijn64tab"], apart := false, laid := [("math/bits.deBruijn32tab", laid_math_bits_deBruijn32tab), ("math/bits.deBruijn64tab", laid_math_bits_deBruijn64tab), ("internal/strconv.uint64pow10", laid_internal_strconv_uint64pow10)] }
def SpreadShowsSaid : Prop := spreadShowsRow.holds Tryd.pinned (OpenSpec.ofChange spreadShowsSpec)

/-- ITS FALSE NEIGHBOUR: 'it returns false'. Refute it at one input. -/
def spreadShowsWrong : ChangeSpec := { name := "spreadShows", fn := fun _ => fun
  | [d1, d2] => { results := [.lit (.bool false)], args := [d1, d2] }
  | _ => none }
def SpreadShowsWrongFalsely : Prop := spreadShowsRow.holds Tryd.pinned (OpenSpec.ofChange spreadShowsWrong)

/-- 'budwoodlaw18.SpreadParts': WHATEVER THE INPUT: true; the input reads as it did. -/
def spreadPartsSpec : ChangeSpec := { name := "spreadParts", fn := fun _ => fun
  | [d1, d2] => { results := [.lit (.bool true)], args := [d1, d2] }
  | _ => none }
def spreadPartsRow : OpenClaim := { program := "ythhbndepiofmeaadoor", sum := "74d6bffbd6fbc90ba10435cf2561940a39624b4d44bdb173e3be9348f1f2d32e", func := "budwood/budwoodlaw18.SpreadParts", spec := "spreadParts", named := ["internal/strconv.uint64pow10", "math/bits.deBruijn32tab", "math/bits.deBruijn64tab"], apart := false, laid := [("math/bits.deBruijn32tab", laid_math_bits_deBruijn32tab), ("math/bits.deBruijn64tab", laid_math_bits_deBruijn64tab), ("internal/strconv.uint64pow10", laid_internal_strconv_uint64pow10)] }
def SpreadPartsSaid : Prop := spreadPartsRow.holds Tryd.pinned (OpenSpec.ofChange spreadPartsSpec)

/-- ITS FALSE NEIGHBOUR: 'it returns false'. Refute it at one input. -/
def spreadPartsWrong : ChangeSpec := { name := "spreadParts", fn := fun _ => fun
  | [d1, d2] => { results := [.lit (.bool false)], args := [d1, d2] }
  | _ => none }
def SpreadPartsWrongFalsely : Prop := spreadPartsRow.holds Tryd.pinned (OpenSpec.ofChange spreadPartsWrong)

/-- 'budwoodlaw18.SpreadOrder': WHATEVER THE INPUT: true; the input reads as it did. -/
def spreadOrderSpec : ChangeSpec := { name := "spreadOrder", fn := fun _ => fun
  | [d] => { results := [.lit (.bool true)], args := [d] }
  | _ => none }
def spreadOrderRow : OpenClaim := { program := "ythhbndepiofmeaadoor", sum := "74d6bffbd6fbc90ba10435cf2561940a39624b4d44bdb173e3be9348f1f2d32e", func := "budwood/budwoodlaw18.SpreadOrder", spec := "spreadOrder", named := ["internal/strconv.uint64pow10", "math/bits.deBruijn32tab", "math/bits.deBruijn64tab"], apart := false, laid := [("math/bits.deBruijn32tab", laid_math_bits_deBruijn32tab), ("math/bits.deBruijn64tab", laid_math_bits_deBruijn64tab), ("internal/strconv.uint64pow10", laid_internal_strconv_uint64pow10)] }
def SpreadOrderSaid : Prop := spreadOrderRow.holds Tryd.pinned (OpenSpec.ofChange spreadOrderSpec)

/-- ITS FALSE NEIGHBOUR: 'it returns false'. Refute it at one input. -/
def spreadOrderWrong : ChangeSpec := { name := "spreadOrder", fn := fun _ => fun
  | [d] => { results := [.lit (.bool false)], args := [d] }
  | _ => none }
def SpreadOrderWrongFalsely : Prop := spreadOrderRow.holds Tryd.pinned (OpenSpec.ofChange spreadOrderWrong)

/-- 'budwoodlaw18.SpreadSide': WHATEVER THE INPUT: true; the input reads as it did. -/
def spreadSideSpec : ChangeSpec := { name := "spreadSide", fn := fun _ => fun
  | [d1, d2] => { results := [.lit (.bool true)], args := [d1, d2] }
  | _ => none }
def spreadSideRow : OpenClaim := { program := "ythhbndepiofmeaadoor", sum := "74d6bffbd6fbc90ba10435cf2561940a39624b4d44bdb173e3be9348f1f2d32e", func := "budwood/budwoodlaw18.SpreadSide", spec := "spreadSide", named := ["internal/strconv.uint64pow10", "math/bits.deBruijn32tab", "math/bits.deBruijn64tab"], apart := false, laid := [("math/bits.deBruijn32tab", laid_math_bits_deBruijn32tab), ("math/bits.deBruijn64tab", laid_math_bits_deBruijn64tab), ("internal/strconv.uint64pow10", laid_internal_strconv_uint64pow10)] }
def SpreadSideSaid : Prop := spreadSideRow.holds Tryd.pinned (OpenSpec.ofChange spreadSideSpec)

/-- ITS FALSE NEIGHBOUR: 'it returns false'. Refute it at one input. -/
def spreadSideWrong : ChangeSpec := { name := "spreadSide", fn := fun _ => fun
  | [d1, d2] => { results := [.lit (.bool false)], args := [d1, d2] }
  | _ => none }
def SpreadSideWrongFalsely : Prop := spreadSideRow.holds Tryd.pinned (OpenSpec.ofChange spreadSideWrong)

/-- 'budwoodlaw18.SpreadSum': WHATEVER THE INPUT: true; the input reads as it did. -/
def spreadSumSpec : ChangeSpec := { name := "spreadSum", fn := fun _ => fun
  | [d1, d2] => { results := [.lit (.bool true)], args := [d1, d2] }
  | _ => none }
def spreadSumRow : OpenClaim := { program := "ythhbndepiofmeaadoor", sum := "74d6bffbd6fbc90ba10435cf2561940a39624b4d44bdb173e3be9348f1f2d32e", func := "budwood/budwoodlaw18.SpreadSum", spec := "spreadSum", named := ["internal/strconv.uint64pow10", "math/bits.deBruijn32tab", "math/bits.deBruijn64tab"], apart := false, laid := [("math/bits.deBruijn32tab", laid_math_bits_deBruijn32tab), ("math/bits.deBruijn64tab", laid_math_bits_deBruijn64tab), ("internal/strconv.uint64pow10", laid_internal_strconv_uint64pow10)] }
def SpreadSumSaid : Prop := spreadSumRow.holds Tryd.pinned (OpenSpec.ofChange spreadSumSpec)

/-- ITS FALSE NEIGHBOUR: 'it returns false'. Refute it at one input. -/
def spreadSumWrong : ChangeSpec := { name := "spreadSum", fn := fun _ => fun
  | [d1, d2] => { results := [.lit (.bool false)], args := [d1, d2] }
  | _ => none }
def SpreadSumWrongFalsely : Prop := spreadSumRow.holds Tryd.pinned (OpenSpec.ofChange spreadSumWrong)

/- THE SECOND FORM. 'bulk': how many values and letters a reading holds, each counted each time it is reached (what is shared counts as often as it is met; a slice's spare places count too). A statement '..UptoSaid' is the law's where the arguments, and the package variables that the reading takes, are together of bulk at most 1048576: NARROWER than '..Said'. Prove '..Said' where nothing that the law and all that it calls make is longer than what came in: it says more and counts as full. Else prove '..UptoSaid'. A law counts once. -/
mutual
def uptoBulk {H : Type} : DataW H → Nat
  | .lit (.string bytes) => bytes.length + 1
  | .lit _ => 1
  | .nil => 1
  | .ptr d => uptoBulk d + 1
  | .slice elems spare => uptoBulkAll elems + uptoBulkAll spare + 1
  | .agg parts => uptoBulkAll parts + 1
  | .iface _ d => uptoBulk d + 1
  | .map entries => uptoBulkEntries entries + 1
  | .held _ => 1
def uptoBulkAll {H : Type} : List (DataW H) → Nat
  | [] => 0
  | d :: r => uptoBulk d + uptoBulkAll r
def uptoBulkEntries {H : Type} : List (Lit × DataW H) → Nat
  | [] => 0
  | x :: r => uptoBulkEntry x + uptoBulkEntries r
def uptoBulkEntry {H : Type} : Lit × DataW H → Nat
  | (.string bytes, d) => bytes.length + uptoBulk d + 1
  | (_, d) => uptoBulk d + 1
 end
def uptoSmall : (H : Type) → List (DataW H) → Bool := fun _ ds => decide (uptoBulkAll ds ≤ 1048576)
def OpenSpec.upto (s : _root_.Go.ChangeSpec) : _root_.Go.OpenSpec := { _root_.Go.OpenSpec.ofChange s with cond := some uptoSmall }

/-- 'budwoodlaw18.SpreadTells', WHERE WHAT IT READS IS OF BULK AT MOST 1048576: true; the input reads as it did. -/
def spreadTellsUptoRow : OpenClaim := { program := "ythhbndepiofmeaadoor", sum := "74d6bffbd6fbc90ba10435cf2561940a39624b4d44bdb173e3be9348f1f2d32e", func := "budwood/budwoodlaw18.SpreadTells", spec := "spreadTells", named := ["internal/strconv.uint64pow10", "math/bits.deBruijn32tab", "math/bits.deBruijn64tab"], apart := false, laid := [("math/bits.deBruijn32tab", laid_math_bits_deBruijn32tab), ("math/bits.deBruijn64tab", laid_math_bits_deBruijn64tab), ("internal/strconv.uint64pow10", laid_internal_strconv_uint64pow10)], narrowed := true }
def SpreadTellsUptoSaid : Prop := spreadTellsUptoRow.holds Tryd.pinned (OpenSpec.upto spreadTellsSpec)

/-- 'budwoodlaw18.SpreadShows', WHERE WHAT IT READS IS OF BULK AT MOST 1048576: true; the input reads as it did. -/
def spreadShowsUptoRow : OpenClaim := { program := "ythhbndepiofmeaadoor", sum := "74d6bffbd6fbc90ba10435cf2561940a39624b4d44bdb173e3be9348f1f2d32e", func := "budwood/budwoodlaw18.SpreadShows", spec := "spreadShows", recurses := true, named := ["internal/strconv.uint64pow10", "math/bits.deBruijn32tab", "math/bits.deBruijn64tab"], apart := false, laid := [("math/bits.deBruijn32tab", laid_math_bits_deBruijn32tab), ("math/bits.deBruijn64tab", laid_math_bits_deBruijn64tab), ("internal/strconv.uint64pow10", laid_internal_strconv_uint64pow10)], narrowed := true }
def SpreadShowsUptoSaid : Prop := spreadShowsUptoRow.holds Tryd.pinned (OpenSpec.upto spreadShowsSpec)

/-- 'budwoodlaw18.SpreadParts', WHERE WHAT IT READS IS OF BULK AT MOST 1048576: true; the input reads as it did. -/
def spreadPartsUptoRow : OpenClaim := { program := "ythhbndepiofmeaadoor", sum := "74d6bffbd6fbc90ba10435cf2561940a39624b4d44bdb173e3be9348f1f2d32e", func := "budwood/budwoodlaw18.SpreadParts", spec := "spreadParts", named := ["internal/strconv.uint64pow10", "math/bits.deBruijn32tab", "math/bits.deBruijn64tab"], apart := false, laid := [("math/bits.deBruijn32tab", laid_math_bits_deBruijn32tab), ("math/bits.deBruijn64tab", laid_math_bits_deBruijn64tab), ("internal/strconv.uint64pow10", laid_internal_strconv_uint64pow10)], narrowed := true }
def SpreadPartsUptoSaid : Prop := spreadPartsUptoRow.holds Tryd.pinned (OpenSpec.upto spreadPartsSpec)

/-- 'budwoodlaw18.SpreadOrder', WHERE WHAT IT READS IS OF BULK AT MOST 1048576: true; the input reads as it did. -/
def spreadOrderUptoRow : OpenClaim := { program := "ythhbndepiofmeaadoor", sum := "74d6bffbd6fbc90ba10435cf2561940a39624b4d44bdb173e3be9348f1f2d32e", func := "budwood/budwoodlaw18.SpreadOrder", spec := "spreadOrder", named := ["internal/strconv.uint64pow10", "math/bits.deBruijn32tab", "math/bits.deBruijn64tab"], apart := false, laid := [("math/bits.deBruijn32tab", laid_math_bits_deBruijn32tab), ("math/bits.deBruijn64tab", laid_math_bits_deBruijn64tab), ("internal/strconv.uint64pow10", laid_internal_strconv_uint64pow10)], narrowed := true }
def SpreadOrderUptoSaid : Prop := spreadOrderUptoRow.holds Tryd.pinned (OpenSpec.upto spreadOrderSpec)

/-- 'budwoodlaw18.SpreadSide', WHERE WHAT IT READS IS OF BULK AT MOST 1048576: true; the input reads as it did. -/
def spreadSideUptoRow : OpenClaim := { program := "ythhbndepiofmeaadoor", sum := "74d6bffbd6fbc90ba10435cf2561940a39624b4d44bdb173e3be9348f1f2d32e", func := "budwood/budwoodlaw18.SpreadSide", spec := "spreadSide", named := ["internal/strconv.uint64pow10", "math/bits.deBruijn32tab", "math/bits.deBruijn64tab"], apart := false, laid := [("math/bits.deBruijn32tab", laid_math_bits_deBruijn32tab), ("math/bits.deBruijn64tab", laid_math_bits_deBruijn64tab), ("internal/strconv.uint64pow10", laid_internal_strconv_uint64pow10)], narrowed := true }
def SpreadSideUptoSaid : Prop := spreadSideUptoRow.holds Tryd.pinned (OpenSpec.upto spreadSideSpec)

/-- 'budwoodlaw18.SpreadSum', WHERE WHAT IT READS IS OF BULK AT MOST 1048576: true; the input reads as it did. -/
def spreadSumUptoRow : OpenClaim := { program := "ythhbndepiofmeaadoor", sum := "74d6bffbd6fbc90ba10435cf2561940a39624b4d44bdb173e3be9348f1f2d32e", func := "budwood/budwoodlaw18.SpreadSum", spec := "spreadSum", named := ["internal/strconv.uint64pow10", "math/bits.deBruijn32tab", "math/bits.deBruijn64tab"], apart := false, laid := [("math/bits.deBruijn32tab", laid_math_bits_deBruijn32tab), ("math/bits.deBruijn64tab", laid_math_bits_deBruijn64tab), ("internal/strconv.uint64pow10", laid_internal_strconv_uint64pow10)], narrowed := true }
def SpreadSumUptoSaid : Prop := spreadSumUptoRow.holds Tryd.pinned (OpenSpec.upto spreadSumSpec)

end Rows
end Go.Proofs.YthhbndepiofmeaaDoor
