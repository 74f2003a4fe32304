/-
  DERIVED. GIVEN WITH THE SEED: THE CARDS: each row of YthhbndepiofmeaaDoorRows.lean that lists a variable, with what it lists TIED to the program's text (the seventh form; the later family's looks); each row that meets fmt, with fmt's text TOLD by the authors' own Lean function (tested against real Go, not proved from fmt's source: count such statements apart). THE CARD IS WHAT COUNTS. Prove the row's statement (the work); the ties are given (YthhbndepiofmeaaDoorTie.lean); close each card by the builder's one call (the guide's Derived/Test/ToyasCard.lean, 'card_holds'). Laid BY PROGRAM, IN A SANDBOX (cutbox-door.mjs). By AI agents, Wed Nov 11 2026. No macro, syntax, notation, axiom, sorry.
-/
import Derived.Test.YthhbndepiofmeaaDoorRows
import GoSem.ClaimSeven
namespace Go.Proofs.YthhbndepiofmeaaDoor
namespace Rows

/-- THE TIED CARD OF 'budwoodlaw18.SpreadTells'. -/
def spreadTellsCard : Claim7 := { stood := { row := spreadTellsRow, standIns := [], harness := (true, "49e0b039ec3dd8ecc5c7f06bc04832a95fc6c0b8dfb6ae06ab02e31c63a250f9"), looks := false }, kinds := [], alts := [], laidByText := true, laidKinds := [.data, .data, .data], laidTests := true, laidLooks := .later }
def SpreadTellsCardSaid : Prop := Claim7.holds Tryd.pinned (.plain (OpenSpec.ofChange spreadTellsSpec)) spreadTellsCard

/-- THE TIED CARD OF 'budwoodlaw18.SpreadShows'. -/
def spreadShowsCard : Claim7 := { stood := { row := spreadShowsRow, standIns := [], harness := (true, "49e0b039ec3dd8ecc5c7f06bc04832a95fc6c0b8dfb6ae06ab02e31c63a250f9"), looks := false }, kinds := [], alts := [], laidByText := true, laidKinds := [.data, .data, .data], laidTests := true, laidLooks := .later }
def SpreadShowsCardSaid : Prop := Claim7.holds Tryd.pinned (.plain (OpenSpec.ofChange spreadShowsSpec)) spreadShowsCard

/-- THE TIED CARD OF 'budwoodlaw18.SpreadParts'. -/
def spreadPartsCard : Claim7 := { stood := { row := spreadPartsRow, standIns := [], harness := (true, "49e0b039ec3dd8ecc5c7f06bc04832a95fc6c0b8dfb6ae06ab02e31c63a250f9"), looks := false }, kinds := [], alts := [], laidByText := true, laidKinds := [.data, .data, .data], laidTests := true, laidLooks := .later }
def SpreadPartsCardSaid : Prop := Claim7.holds Tryd.pinned (.plain (OpenSpec.ofChange spreadPartsSpec)) spreadPartsCard

/-- THE TIED CARD OF 'budwoodlaw18.SpreadOrder'. -/
def spreadOrderCard : Claim7 := { stood := { row := spreadOrderRow, standIns := [], harness := (true, "49e0b039ec3dd8ecc5c7f06bc04832a95fc6c0b8dfb6ae06ab02e31c63a250f9"), looks := false }, kinds := [], alts := [], laidByText := true, laidKinds := [.data, .data, .data], laidTests := true, laidLooks := .later }
def SpreadOrderCardSaid : Prop := Claim7.holds Tryd.pinned (.plain (OpenSpec.ofChange spreadOrderSpec)) spreadOrderCard

/-- THE TIED CARD OF 'budwoodlaw18.SpreadSide'. -/
def spreadSideCard : Claim7 := { stood := { row := spreadSideRow, standIns := [], harness := (true, "49e0b039ec3dd8ecc5c7f06bc04832a95fc6c0b8dfb6ae06ab02e31c63a250f9"), looks := false }, kinds := [], alts := [], laidByText := true, laidKinds := [.data, .data, .data], laidTests := true, laidLooks := .later }
def SpreadSideCardSaid : Prop := Claim7.holds Tryd.pinned (.plain (OpenSpec.ofChange spreadSideSpec)) spreadSideCard

/-- THE TIED CARD OF 'budwoodlaw18.SpreadSum'. -/
def spreadSumCard : Claim7 := { stood := { row := spreadSumRow, standIns := [], harness := (true, "49e0b039ec3dd8ecc5c7f06bc04832a95fc6c0b8dfb6ae06ab02e31c63a250f9"), looks := false }, kinds := [], alts := [], laidByText := true, laidKinds := [.data, .data, .data], laidTests := true, laidLooks := .later }
def SpreadSumCardSaid : Prop := Claim7.holds Tryd.pinned (.plain (OpenSpec.ofChange spreadSumSpec)) spreadSumCard

/-- THE SECOND FORM's CARD OF 'budwoodlaw18.SpreadTells'. -/
def spreadTellsUptoCard : Claim7 := { stood := { row := spreadTellsUptoRow, standIns := [], harness := (true, "49e0b039ec3dd8ecc5c7f06bc04832a95fc6c0b8dfb6ae06ab02e31c63a250f9"), looks := false }, kinds := [], alts := [], laidByText := true, laidKinds := [.data, .data, .data], laidTests := true, laidLooks := .later }
def SpreadTellsUptoCardSaid : Prop := Claim7.holds Tryd.pinned (.plain (OpenSpec.upto spreadTellsSpec)) spreadTellsUptoCard

/-- THE SECOND FORM's CARD OF 'budwoodlaw18.SpreadShows'. -/
def spreadShowsUptoCard : Claim7 := { stood := { row := spreadShowsUptoRow, standIns := [], harness := (true, "49e0b039ec3dd8ecc5c7f06bc04832a95fc6c0b8dfb6ae06ab02e31c63a250f9"), looks := false }, kinds := [], alts := [], laidByText := true, laidKinds := [.data, .data, .data], laidTests := true, laidLooks := .later }
def SpreadShowsUptoCardSaid : Prop := Claim7.holds Tryd.pinned (.plain (OpenSpec.upto spreadShowsSpec)) spreadShowsUptoCard

/-- THE SECOND FORM's CARD OF 'budwoodlaw18.SpreadParts'. -/
def spreadPartsUptoCard : Claim7 := { stood := { row := spreadPartsUptoRow, standIns := [], harness := (true, "49e0b039ec3dd8ecc5c7f06bc04832a95fc6c0b8dfb6ae06ab02e31c63a250f9"), looks := false }, kinds := [], alts := [], laidByText := true, laidKinds := [.data, .data, .data], laidTests := true, laidLooks := .later }
def SpreadPartsUptoCardSaid : Prop := Claim7.holds Tryd.pinned (.plain (OpenSpec.upto spreadPartsSpec)) spreadPartsUptoCard

/-- THE SECOND FORM's CARD OF 'budwoodlaw18.SpreadOrder'. -/
def spreadOrderUptoCard : Claim7 := { stood := { row := spreadOrderUptoRow, standIns := [], harness := (true, "49e0b039ec3dd8ecc5c7f06bc04832a95fc6c0b8dfb6ae06ab02e31c63a250f9"), looks := false }, kinds := [], alts := [], laidByText := true, laidKinds := [.data, .data, .data], laidTests := true, laidLooks := .later }
def SpreadOrderUptoCardSaid : Prop := Claim7.holds Tryd.pinned (.plain (OpenSpec.upto spreadOrderSpec)) spreadOrderUptoCard

/-- THE SECOND FORM's CARD OF 'budwoodlaw18.SpreadSide'. -/
def spreadSideUptoCard : Claim7 := { stood := { row := spreadSideUptoRow, standIns := [], harness := (true, "49e0b039ec3dd8ecc5c7f06bc04832a95fc6c0b8dfb6ae06ab02e31c63a250f9"), looks := false }, kinds := [], alts := [], laidByText := true, laidKinds := [.data, .data, .data], laidTests := true, laidLooks := .later }
def SpreadSideUptoCardSaid : Prop := Claim7.holds Tryd.pinned (.plain (OpenSpec.upto spreadSideSpec)) spreadSideUptoCard

/-- THE SECOND FORM's CARD OF 'budwoodlaw18.SpreadSum'. -/
def spreadSumUptoCard : Claim7 := { stood := { row := spreadSumUptoRow, standIns := [], harness := (true, "49e0b039ec3dd8ecc5c7f06bc04832a95fc6c0b8dfb6ae06ab02e31c63a250f9"), looks := false }, kinds := [], alts := [], laidByText := true, laidKinds := [.data, .data, .data], laidTests := true, laidLooks := .later }
def SpreadSumUptoCardSaid : Prop := Claim7.holds Tryd.pinned (.plain (OpenSpec.upto spreadSumSpec)) spreadSumUptoCard
end Rows
end Go.Proofs.YthhbndepiofmeaaDoor
