/-
  No cell of these rows narrows 'for every input' (looked for: loops, veiled, ifaces, maps, wideKeys, modest, calm, conditions, laid).
  DERIVED. THE GIVEN ROWS OF THIS SEAT. 6 by the template 'for every input the law returns true; each argument reads behind the call as it read before'; 0 by the template 'total and deterministic' (their statements: YtiekjjejoekdeaaTotals.lean).
  GIVEN WITH THE SEED: the statements are not yours to turn. If you find one false, say at which input.
  Laid BY PROGRAM, IN A SANDBOX (cutbox-rows.mjs): the forced cells as the released guide's own fill.sh prints them over the translation 557fba39e3d6f2cc… (all of the seat's roots in one cut). By AI agents, Wed Nov 11 2026. No macro, syntax, notation, axiom, sorry.
-/
import Derived.Test.YtiekjjejoekdeaaChecked
import GoSem.Claim
import GoSem.ClaimJoined
import GoSem.ClaimMapViews
import Derived.JoinedTies
import Derived.KernelRfl
namespace Go.Proofs.Ytiekjjejoekdeaa
/- THE CELL 'sum', in the pinned program and in every row, IS THE sha256 OF THE DUMP (.gsa) THAT YtiekjjejoekdeaaProg.lean LOADS. Nothing in Lean hashes anything: it is a label: what it is worth is what the hold of that sum in a sandbox is worth. -/
noncomputable def Try.pinned : Pinned := { name := "ytiekjjejoekdeaa", sum := "557fba39e3d6f2cc89ad0305e4764acd13c7a3f1a42875aae72acd77613ef6f8", checked := Try.checked }
namespace Rows
def none {H : Type} : Left H := { results := [], args := [] }

/-- 'budwoodlaw04.DiskDoes': WHATEVER THE INPUT: true; the input reads as it did. -/
def diskDoesSpec : ChangeSpec := { name := "diskDoes", fn := fun _ => fun
  | [d1, d2] => { results := [.lit (.bool true)], args := [d1, d2] }
  | _ => none }
def diskDoesRow : OpenClaim := { program := "ytiekjjejoekdeaa", sum := "557fba39e3d6f2cc89ad0305e4764acd13c7a3f1a42875aae72acd77613ef6f8", func := "budwood/budwoodlaw04.DiskDoes", spec := "diskDoes", inPlace := ["maps.clone"], unfollowed := true, recurses := true, apart := false }
def DiskDoesSaid : Prop := diskDoesRow.holds Try.pinned (OpenSpec.ofChange diskDoesSpec)

/-- ITS FALSE NEIGHBOUR: 'it returns false'. Refute it at one input. -/
def diskDoesWrong : ChangeSpec := { name := "diskDoes", fn := fun _ => fun
  | [d1, d2] => { results := [.lit (.bool false)], args := [d1, d2] }
  | _ => none }
def DiskDoesWrongFalsely : Prop := diskDoesRow.holds Try.pinned (OpenSpec.ofChange diskDoesWrong)

/-- 'budwoodlaw04.DiskNews': WHATEVER THE INPUT: true; the input reads as it did. -/
def diskNewsSpec : ChangeSpec := { name := "diskNews", fn := fun _ => fun
  | [d] => { results := [.lit (.bool true)], args := [d] }
  | _ => none }
def diskNewsRow : OpenClaim := { program := "ytiekjjejoekdeaa", sum := "557fba39e3d6f2cc89ad0305e4764acd13c7a3f1a42875aae72acd77613ef6f8", func := "budwood/budwoodlaw04.DiskNews", spec := "diskNews", inPlace := ["maps.clone"], unfollowed := true, recurses := true, apart := false }
def DiskNewsSaid : Prop := diskNewsRow.holds Try.pinned (OpenSpec.ofChange diskNewsSpec)

/-- ITS FALSE NEIGHBOUR: 'it returns false'. Refute it at one input. -/
def diskNewsWrong : ChangeSpec := { name := "diskNews", fn := fun _ => fun
  | [d] => { results := [.lit (.bool false)], args := [d] }
  | _ => none }
def DiskNewsWrongFalsely : Prop := diskNewsRow.holds Try.pinned (OpenSpec.ofChange diskNewsWrong)

/-- 'budwoodlaw04.DiskStays': WHATEVER THE INPUT: true; the input reads as it did. -/
def diskStaysSpec : ChangeSpec := { name := "diskStays", fn := fun _ => fun
  | [d1, d2, d3] => { results := [.lit (.bool true)], args := [d1, d2, d3] }
  | _ => none }
def diskStaysRow : OpenClaim := { program := "ytiekjjejoekdeaa", sum := "557fba39e3d6f2cc89ad0305e4764acd13c7a3f1a42875aae72acd77613ef6f8", func := "budwood/budwoodlaw04.DiskStays", spec := "diskStays", inPlace := ["maps.clone"], unfollowed := true, recurses := true, apart := false }
def DiskStaysSaid : Prop := diskStaysRow.holds Try.pinned (OpenSpec.ofChange diskStaysSpec)

/-- ITS FALSE NEIGHBOUR: 'it returns false'. Refute it at one input. -/
def diskStaysWrong : ChangeSpec := { name := "diskStays", fn := fun _ => fun
  | [d1, d2, d3] => { results := [.lit (.bool false)], args := [d1, d2, d3] }
  | _ => none }
def DiskStaysWrongFalsely : Prop := diskStaysRow.holds Try.pinned (OpenSpec.ofChange diskStaysWrong)

/-- 'budwoodlaw04.DiskFates': WHATEVER THE INPUT: true; the input reads as it did. -/
def diskFatesSpec : ChangeSpec := { name := "diskFates", fn := fun _ => fun
  | [d] => { results := [.lit (.bool true)], args := [d] }
  | _ => none }
def diskFatesRow : OpenClaim := { program := "ytiekjjejoekdeaa", sum := "557fba39e3d6f2cc89ad0305e4764acd13c7a3f1a42875aae72acd77613ef6f8", func := "budwood/budwoodlaw04.DiskFates", spec := "diskFates", inPlace := ["maps.clone"], unfollowed := true, recurses := true, apart := false }
def DiskFatesSaid : Prop := diskFatesRow.holds Try.pinned (OpenSpec.ofChange diskFatesSpec)

/-- ITS FALSE NEIGHBOUR: 'it returns false'. Refute it at one input. -/
def diskFatesWrong : ChangeSpec := { name := "diskFates", fn := fun _ => fun
  | [d] => { results := [.lit (.bool false)], args := [d] }
  | _ => none }
def DiskFatesWrongFalsely : Prop := diskFatesRow.holds Try.pinned (OpenSpec.ofChange diskFatesWrong)

/-- 'budwoodlaw04.DiskReads': WHATEVER THE INPUT: true; the input reads as it did. -/
def diskReadsSpec : ChangeSpec := { name := "diskReads", fn := fun _ => fun
  | [d] => { results := [.lit (.bool true)], args := [d] }
  | _ => none }
def diskReadsRow : OpenClaim := { program := "ytiekjjejoekdeaa", sum := "557fba39e3d6f2cc89ad0305e4764acd13c7a3f1a42875aae72acd77613ef6f8", func := "budwood/budwoodlaw04.DiskReads", spec := "diskReads", inPlace := ["maps.clone"], unfollowed := true, recurses := true, apart := false }
def DiskReadsSaid : Prop := diskReadsRow.holds Try.pinned (OpenSpec.ofChange diskReadsSpec)

/-- ITS FALSE NEIGHBOUR: 'it returns false'. Refute it at one input. -/
def diskReadsWrong : ChangeSpec := { name := "diskReads", fn := fun _ => fun
  | [d] => { results := [.lit (.bool false)], args := [d] }
  | _ => none }
def DiskReadsWrongFalsely : Prop := diskReadsRow.holds Try.pinned (OpenSpec.ofChange diskReadsWrong)

/-- 'budwoodlaw04.DiskTwins': WHATEVER THE INPUT: true; the input reads as it did. -/
def diskTwinsSpec : ChangeSpec := { name := "diskTwins", fn := fun _ => fun
  | [d1, d2] => { results := [.lit (.bool true)], args := [d1, d2] }
  | _ => none }
def diskTwinsRow : OpenClaim := { program := "ytiekjjejoekdeaa", sum := "557fba39e3d6f2cc89ad0305e4764acd13c7a3f1a42875aae72acd77613ef6f8", func := "budwood/budwoodlaw04.DiskTwins", spec := "diskTwins", inPlace := ["maps.clone"], unfollowed := true, recurses := true, apart := false }
def DiskTwinsSaid : Prop := diskTwinsRow.holds Try.pinned (OpenSpec.ofChange diskTwinsSpec)

/-- ITS FALSE NEIGHBOUR: 'it returns false'. Refute it at one input. -/
def diskTwinsWrong : ChangeSpec := { name := "diskTwins", fn := fun _ => fun
  | [d1, d2] => { results := [.lit (.bool false)], args := [d1, d2] }
  | _ => none }
def DiskTwinsWrongFalsely : Prop := diskTwinsRow.holds Try.pinned (OpenSpec.ofChange diskTwinsWrong)

/- THE SECOND FORM. 'bulk': how many values and letters a reading holds, each counted each time it is reached (what is shared counts as often as it is met; a slice's spare places count too). A statement '..UptoSaid' is the law's where the arguments, and the package variables that the reading takes, are together of bulk at most 1048576: NARROWER than '..Said'. Prove '..Said' where nothing that the law and all that it calls make is longer than what came in: it says more and counts as full. Else prove '..UptoSaid'. A law counts once. -/
mutual
def uptoBulk {H : Type} : DataW H → Nat
  | .lit (.string bytes) => bytes.length + 1
  | .lit _ => 1
  | .nil => 1
  | .ptr d => uptoBulk d + 1
  | .slice elems spare => uptoBulkAll elems + uptoBulkAll spare + 1
  | .agg parts => uptoBulkAll parts + 1
  | .iface _ d => uptoBulk d + 1
  | .map entries => uptoBulkEntries entries + 1
  | .held _ => 1
def uptoBulkAll {H : Type} : List (DataW H) → Nat
  | [] => 0
  | d :: r => uptoBulk d + uptoBulkAll r
def uptoBulkEntries {H : Type} : List (Lit × DataW H) → Nat
  | [] => 0
  | x :: r => uptoBulkEntry x + uptoBulkEntries r
def uptoBulkEntry {H : Type} : Lit × DataW H → Nat
  | (.string bytes, d) => bytes.length + uptoBulk d + 1
  | (_, d) => uptoBulk d + 1
 end
def uptoSmall : (H : Type) → List (DataW H) → Bool := fun _ ds => decide (uptoBulkAll ds ≤ 1048576)
def OpenSpec.upto (s : _root_.Go.ChangeSpec) : _root_.Go.OpenSpec := { _root_.Go.OpenSpec.ofChange s with cond := some uptoSmall }

/-- 'budwoodlaw04.DiskDoes', WHERE WHAT IT READS IS OF BULK AT MOST 1048576: true; the input reads as it did. -/
def diskDoesUptoRow : OpenClaim := { program := "ytiekjjejoekdeaa", sum := "557fba39e3d6f2cc89ad0305e4764acd13c7a3f1a42875aae72acd77613ef6f8", func := "budwood/budwoodlaw04.DiskDoes", spec := "diskDoes", inPlace := ["maps.clone"], unfollowed := true, recurses := true, apart := false, narrowed := true }
def DiskDoesUptoSaid : Prop := diskDoesUptoRow.holds Try.pinned (OpenSpec.upto diskDoesSpec)

/-- 'budwoodlaw04.DiskNews', WHERE WHAT IT READS IS OF BULK AT MOST 1048576: true; the input reads as it did. -/
def diskNewsUptoRow : OpenClaim := { program := "ytiekjjejoekdeaa", sum := "557fba39e3d6f2cc89ad0305e4764acd13c7a3f1a42875aae72acd77613ef6f8", func := "budwood/budwoodlaw04.DiskNews", spec := "diskNews", inPlace := ["maps.clone"], unfollowed := true, recurses := true, apart := false, narrowed := true }
def DiskNewsUptoSaid : Prop := diskNewsUptoRow.holds Try.pinned (OpenSpec.upto diskNewsSpec)

/-- 'budwoodlaw04.DiskStays', WHERE WHAT IT READS IS OF BULK AT MOST 1048576: true; the input reads as it did. -/
def diskStaysUptoRow : OpenClaim := { program := "ytiekjjejoekdeaa", sum := "557fba39e3d6f2cc89ad0305e4764acd13c7a3f1a42875aae72acd77613ef6f8", func := "budwood/budwoodlaw04.DiskStays", spec := "diskStays", inPlace := ["maps.clone"], unfollowed := true, recurses := true, apart := false, narrowed := true }
def DiskStaysUptoSaid : Prop := diskStaysUptoRow.holds Try.pinned (OpenSpec.upto diskStaysSpec)

/-- 'budwoodlaw04.DiskFates', WHERE WHAT IT READS IS OF BULK AT MOST 1048576: true; the input reads as it did. -/
def diskFatesUptoRow : OpenClaim := { program := "ytiekjjejoekdeaa", sum := "557fba39e3d6f2cc89ad0305e4764acd13c7a3f1a42875aae72acd77613ef6f8", func := "budwood/budwoodlaw04.DiskFates", spec := "diskFates", inPlace := ["maps.clone"], unfollowed := true, recurses := true, apart := false, narrowed := true }
def DiskFatesUptoSaid : Prop := diskFatesUptoRow.holds Try.pinned (OpenSpec.upto diskFatesSpec)

/-- 'budwoodlaw04.DiskReads', WHERE WHAT IT READS IS OF BULK AT MOST 1048576: true; the input reads as it did. -/
def diskReadsUptoRow : OpenClaim := { program := "ytiekjjejoekdeaa", sum := "557fba39e3d6f2cc89ad0305e4764acd13c7a3f1a42875aae72acd77613ef6f8", func := "budwood/budwoodlaw04.DiskReads", spec := "diskReads", inPlace := ["maps.clone"], unfollowed := true, recurses := true, apart := false, narrowed := true }
def DiskReadsUptoSaid : Prop := diskReadsUptoRow.holds Try.pinned (OpenSpec.upto diskReadsSpec)

/-- 'budwoodlaw04.DiskTwins', WHERE WHAT IT READS IS OF BULK AT MOST 1048576: true; the input reads as it did. -/
def diskTwinsUptoRow : OpenClaim := { program := "ytiekjjejoekdeaa", sum := "557fba39e3d6f2cc89ad0305e4764acd13c7a3f1a42875aae72acd77613ef6f8", func := "budwood/budwoodlaw04.DiskTwins", spec := "diskTwins", inPlace := ["maps.clone"], unfollowed := true, recurses := true, apart := false, narrowed := true }
def DiskTwinsUptoSaid : Prop := diskTwinsUptoRow.holds Try.pinned (OpenSpec.upto diskTwinsSpec)

end Rows
end Go.Proofs.Ytiekjjejoekdeaa
