/-
  DERIVED. GIVEN WITH THE SEED: THE CARDS: each row of YtkkgcmnipdkeeaaDoorRows.lean that lists a variable, with what it lists TIED to the program's text (the seventh form; the later family's looks); each row that meets fmt, with fmt's text TOLD by the authors' own Lean function (tested against real Go, not proved from fmt's source: count such statements apart). THE CARD IS WHAT COUNTS. Prove the row's statement (the work); the ties are given (YtkkgcmnipdkeeaaDoorTie.lean); close each card by the builder's one call (the guide's Derived/Test/ToyasCard.lean, 'card_holds'). Laid BY PROGRAM, IN A SANDBOX (cutbox-door.mjs). By AI agents, Wed Nov 11 2026. No macro, syntax, notation, axiom, sorry.
-/
import Derived.Test.YtkkgcmnipdkeeaaDoorRows
import GoSem.ClaimSeven
namespace Go.Proofs.YtkkgcmnipdkeeaaDoor
namespace Rows

/-- THE TIED CARD OF 'budwoodlaw24.ScriptPuts'. -/
def scriptPutsCard : Claim7 := { stood := { row := scriptPutsRow, standIns := [], harness := (true, "d1fb394cded46959e77785912b0e42a41b1d7df70be0328bf2d4750e1acbd665"), looks := false }, kinds := [], alts := [], laidByText := true, laidKinds := [.data, .data, .data], laidTests := true, laidLooks := .later }
def ScriptPutsCardSaid : Prop := Claim7.holds Tryd.pinned (.plain (OpenSpec.ofChange scriptPutsSpec)) scriptPutsCard

/-- THE TIED CARD OF 'budwoodlaw24.ScriptGets'. -/
def scriptGetsCard : Claim7 := { stood := { row := scriptGetsRow, standIns := [], harness := (true, "d1fb394cded46959e77785912b0e42a41b1d7df70be0328bf2d4750e1acbd665"), looks := false }, kinds := [], alts := [], laidByText := true, laidKinds := [.data, .data, .data], laidTests := true, laidLooks := .later }
def ScriptGetsCardSaid : Prop := Claim7.holds Tryd.pinned (.plain (OpenSpec.ofChange scriptGetsSpec)) scriptGetsCard

/-- THE TIED CARD OF 'budwoodlaw24.ScriptBack'. -/
def scriptBackCard : Claim7 := { stood := { row := scriptBackRow, standIns := [], harness := (true, "d1fb394cded46959e77785912b0e42a41b1d7df70be0328bf2d4750e1acbd665"), looks := false }, kinds := [], alts := [], laidByText := true, laidKinds := [.data, .data, .data], laidTests := true, laidLooks := .later }
def ScriptBackCardSaid : Prop := Claim7.holds Tryd.pinned (.plain (OpenSpec.ofChange scriptBackSpec)) scriptBackCard

/-- THE TIED CARD OF 'budwoodlaw24.ScriptMany'. -/
def scriptManyCard : Claim7 := { stood := { row := scriptManyRow, standIns := [], harness := (true, "d1fb394cded46959e77785912b0e42a41b1d7df70be0328bf2d4750e1acbd665"), looks := false }, kinds := [], alts := [], laidByText := true, laidKinds := [.data, .data, .data], laidTests := true, laidLooks := .later }
def ScriptManyCardSaid : Prop := Claim7.holds Tryd.pinned (.plain (OpenSpec.ofChange scriptManySpec)) scriptManyCard

/-- THE TIED CARD OF 'budwoodlaw24.ScriptJoin'. -/
def scriptJoinCard : Claim7 := { stood := { row := scriptJoinRow, standIns := [], harness := (true, "d1fb394cded46959e77785912b0e42a41b1d7df70be0328bf2d4750e1acbd665"), looks := false }, kinds := [], alts := [], laidByText := true, laidKinds := [.data, .data, .data], laidTests := true, laidLooks := .later }
def ScriptJoinCardSaid : Prop := Claim7.holds Tryd.pinned (.plain (OpenSpec.ofChange scriptJoinSpec)) scriptJoinCard

/-- THE SECOND FORM's CARD OF 'budwoodlaw24.ScriptPuts'. -/
def scriptPutsUptoCard : Claim7 := { stood := { row := scriptPutsUptoRow, standIns := [], harness := (true, "d1fb394cded46959e77785912b0e42a41b1d7df70be0328bf2d4750e1acbd665"), looks := false }, kinds := [], alts := [], laidByText := true, laidKinds := [.data, .data, .data], laidTests := true, laidLooks := .later }
def ScriptPutsUptoCardSaid : Prop := Claim7.holds Tryd.pinned (.plain (OpenSpec.upto scriptPutsSpec)) scriptPutsUptoCard

/-- THE SECOND FORM's CARD OF 'budwoodlaw24.ScriptGets'. -/
def scriptGetsUptoCard : Claim7 := { stood := { row := scriptGetsUptoRow, standIns := [], harness := (true, "d1fb394cded46959e77785912b0e42a41b1d7df70be0328bf2d4750e1acbd665"), looks := false }, kinds := [], alts := [], laidByText := true, laidKinds := [.data, .data, .data], laidTests := true, laidLooks := .later }
def ScriptGetsUptoCardSaid : Prop := Claim7.holds Tryd.pinned (.plain (OpenSpec.upto scriptGetsSpec)) scriptGetsUptoCard

/-- THE SECOND FORM's CARD OF 'budwoodlaw24.ScriptBack'. -/
def scriptBackUptoCard : Claim7 := { stood := { row := scriptBackUptoRow, standIns := [], harness := (true, "d1fb394cded46959e77785912b0e42a41b1d7df70be0328bf2d4750e1acbd665"), looks := false }, kinds := [], alts := [], laidByText := true, laidKinds := [.data, .data, .data], laidTests := true, laidLooks := .later }
def ScriptBackUptoCardSaid : Prop := Claim7.holds Tryd.pinned (.plain (OpenSpec.upto scriptBackSpec)) scriptBackUptoCard

/-- THE SECOND FORM's CARD OF 'budwoodlaw24.ScriptMany'. -/
def scriptManyUptoCard : Claim7 := { stood := { row := scriptManyUptoRow, standIns := [], harness := (true, "d1fb394cded46959e77785912b0e42a41b1d7df70be0328bf2d4750e1acbd665"), looks := false }, kinds := [], alts := [], laidByText := true, laidKinds := [.data, .data, .data], laidTests := true, laidLooks := .later }
def ScriptManyUptoCardSaid : Prop := Claim7.holds Tryd.pinned (.plain (OpenSpec.upto scriptManySpec)) scriptManyUptoCard

/-- THE SECOND FORM's CARD OF 'budwoodlaw24.ScriptJoin'. -/
def scriptJoinUptoCard : Claim7 := { stood := { row := scriptJoinUptoRow, standIns := [], harness := (true, "d1fb394cded46959e77785912b0e42a41b1d7df70be0328bf2d4750e1acbd665"), looks := false }, kinds := [], alts := [], laidByText := true, laidKinds := [.data, .data, .data], laidTests := true, laidLooks := .later }
def ScriptJoinUptoCardSaid : Prop := Claim7.holds Tryd.pinned (.plain (OpenSpec.upto scriptJoinSpec)) scriptJoinUptoCard
end Rows
end Go.Proofs.YtkkgcmnipdkeeaaDoor
