/-
  DERIVED. GIVEN WITH THE SEED: THE CARDS: each row of YtmknijpjkikoeaaGreatDoorRows.lean that lists a variable, with what it lists TIED to the program's text (the seventh form; the later family's looks); each row that meets fmt, with fmt's text TOLD by the authors' own Lean function (tested against real Go, not proved from fmt's source: count such statements apart). THE CARD IS WHAT COUNTS. Prove the row's statement (the work); the ties are given (YtmknijpjkikoeaaGreatDoorTie.lean); close each card by the builder's one call (the guide's Derived/Test/ToyasCard.lean, 'card_holds'). Laid BY PROGRAM, IN A SANDBOX (cutbox-door.mjs). By AI agents, Wed Nov 11 2026. No macro, syntax, notation, axiom, sorry.
-/
import Derived.Test.YtmknijpjkikoeaaGreatDoorRows
import GoSem.ClaimSeven
namespace Go.Proofs.YtmknijpjkikoeaaGreatDoor
namespace Rows

/-- THE TIED CARD OF 'zigguratlaw12.MulGreat'. -/
def mulGreatCard : Claim7 := { stood := { row := mulGreatRow, standIns := [], harness := (true, "c23e4f031f1261a3e3def7a1213efde266054d128cd915ff69657ece77e44051"), looks := false }, kinds := [], alts := [], laidByText := true, laidKinds := [.data], laidTests := true, laidLooks := .later }
def MulGreatCardSaid : Prop := Claim7.holds Tryz.pinned (.plain (OpenSpec.ofChange mulGreatSpec)) mulGreatCard

/-- THE TIED CARD OF 'zigguratlaw24.PmulNews'. -/
def pmulNewsCard : Claim7 := { stood := { row := pmulNewsRow, standIns := [], harness := (true, "c23e4f031f1261a3e3def7a1213efde266054d128cd915ff69657ece77e44051"), looks := false }, kinds := [], alts := [], laidByText := true, laidKinds := [.data], laidTests := true, laidLooks := .later }
def PmulNewsCardSaid : Prop := Claim7.holds Tryz.pinned (.plain (OpenSpec.ofChange pmulNewsSpec)) pmulNewsCard

/-- THE TIED CARD OF 'zigguratlaw24.PmulTables'. -/
def pmulTablesCard : Claim7 := { stood := { row := pmulTablesRow, standIns := [], harness := (true, "c23e4f031f1261a3e3def7a1213efde266054d128cd915ff69657ece77e44051"), looks := false }, kinds := [], alts := [], laidByText := true, laidKinds := [.data], laidTests := true, laidLooks := .later }
def PmulTablesCardSaid : Prop := Claim7.holds Tryz.pinned (.plain (OpenSpec.ofChange pmulTablesSpec)) pmulTablesCard

/-- THE TIED CARD OF 'zigguratlaw24.PmulGreat'. -/
def pmulGreatCard : Claim7 := { stood := { row := pmulGreatRow, standIns := [], harness := (true, "c23e4f031f1261a3e3def7a1213efde266054d128cd915ff69657ece77e44051"), looks := false }, kinds := [], alts := [], laidByText := true, laidKinds := [.data], laidTests := true, laidLooks := .later }
def PmulGreatCardSaid : Prop := Claim7.holds Tryz.pinned (.plain (OpenSpec.ofChange pmulGreatSpec)) pmulGreatCard

/-- THE TIED CARD OF 'zigguratlaw24.PmulWays'. -/
def pmulWaysCard : Claim7 := { stood := { row := pmulWaysRow, standIns := [], harness := (true, "c23e4f031f1261a3e3def7a1213efde266054d128cd915ff69657ece77e44051"), looks := false }, kinds := [], alts := [], laidByText := true, laidKinds := [.data], laidTests := true, laidLooks := .later }
def PmulWaysCardSaid : Prop := Claim7.holds Tryz.pinned (.plain (OpenSpec.ofChange pmulWaysSpec)) pmulWaysCard

/-- THE TIED CARD OF 'zigguratlaw24.PmulAlls'. -/
def pmulAllsCard : Claim7 := { stood := { row := pmulAllsRow, standIns := [], harness := (true, "c23e4f031f1261a3e3def7a1213efde266054d128cd915ff69657ece77e44051"), looks := false }, kinds := [], alts := [], laidByText := true, laidKinds := [.data], laidTests := true, laidLooks := .later }
def PmulAllsCardSaid : Prop := Claim7.holds Tryz.pinned (.plain (OpenSpec.ofChange pmulAllsSpec)) pmulAllsCard

/-- THE TIED CARD OF 'zigguratlaw24.PmulSquares'. -/
def pmulSquaresCard : Claim7 := { stood := { row := pmulSquaresRow, standIns := [], harness := (true, "c23e4f031f1261a3e3def7a1213efde266054d128cd915ff69657ece77e44051"), looks := false }, kinds := [], alts := [], laidByText := true, laidKinds := [.data], laidTests := true, laidLooks := .later }
def PmulSquaresCardSaid : Prop := Claim7.holds Tryz.pinned (.plain (OpenSpec.ofChange pmulSquaresSpec)) pmulSquaresCard

/-- THE SECOND FORM's CARD OF 'zigguratlaw12.MulGreat'. -/
def mulGreatUptoCard : Claim7 := { stood := { row := mulGreatUptoRow, standIns := [], harness := (true, "c23e4f031f1261a3e3def7a1213efde266054d128cd915ff69657ece77e44051"), looks := false }, kinds := [], alts := [], laidByText := true, laidKinds := [.data], laidTests := true, laidLooks := .later }
def MulGreatUptoCardSaid : Prop := Claim7.holds Tryz.pinned (.plain (OpenSpec.upto mulGreatSpec)) mulGreatUptoCard

/-- THE SECOND FORM's CARD OF 'zigguratlaw24.PmulNews'. -/
def pmulNewsUptoCard : Claim7 := { stood := { row := pmulNewsUptoRow, standIns := [], harness := (true, "c23e4f031f1261a3e3def7a1213efde266054d128cd915ff69657ece77e44051"), looks := false }, kinds := [], alts := [], laidByText := true, laidKinds := [.data], laidTests := true, laidLooks := .later }
def PmulNewsUptoCardSaid : Prop := Claim7.holds Tryz.pinned (.plain (OpenSpec.upto pmulNewsSpec)) pmulNewsUptoCard

/-- THE SECOND FORM's CARD OF 'zigguratlaw24.PmulTables'. -/
def pmulTablesUptoCard : Claim7 := { stood := { row := pmulTablesUptoRow, standIns := [], harness := (true, "c23e4f031f1261a3e3def7a1213efde266054d128cd915ff69657ece77e44051"), looks := false }, kinds := [], alts := [], laidByText := true, laidKinds := [.data], laidTests := true, laidLooks := .later }
def PmulTablesUptoCardSaid : Prop := Claim7.holds Tryz.pinned (.plain (OpenSpec.upto pmulTablesSpec)) pmulTablesUptoCard

/-- THE SECOND FORM's CARD OF 'zigguratlaw24.PmulGreat'. -/
def pmulGreatUptoCard : Claim7 := { stood := { row := pmulGreatUptoRow, standIns := [], harness := (true, "c23e4f031f1261a3e3def7a1213efde266054d128cd915ff69657ece77e44051"), looks := false }, kinds := [], alts := [], laidByText := true, laidKinds := [.data], laidTests := true, laidLooks := .later }
def PmulGreatUptoCardSaid : Prop := Claim7.holds Tryz.pinned (.plain (OpenSpec.upto pmulGreatSpec)) pmulGreatUptoCard

/-- THE SECOND FORM's CARD OF 'zigguratlaw24.PmulWays'. -/
def pmulWaysUptoCard : Claim7 := { stood := { row := pmulWaysUptoRow, standIns := [], harness := (true, "c23e4f031f1261a3e3def7a1213efde266054d128cd915ff69657ece77e44051"), looks := false }, kinds := [], alts := [], laidByText := true, laidKinds := [.data], laidTests := true, laidLooks := .later }
def PmulWaysUptoCardSaid : Prop := Claim7.holds Tryz.pinned (.plain (OpenSpec.upto pmulWaysSpec)) pmulWaysUptoCard

/-- THE SECOND FORM's CARD OF 'zigguratlaw24.PmulAlls'. -/
def pmulAllsUptoCard : Claim7 := { stood := { row := pmulAllsUptoRow, standIns := [], harness := (true, "c23e4f031f1261a3e3def7a1213efde266054d128cd915ff69657ece77e44051"), looks := false }, kinds := [], alts := [], laidByText := true, laidKinds := [.data], laidTests := true, laidLooks := .later }
def PmulAllsUptoCardSaid : Prop := Claim7.holds Tryz.pinned (.plain (OpenSpec.upto pmulAllsSpec)) pmulAllsUptoCard

/-- THE SECOND FORM's CARD OF 'zigguratlaw24.PmulSquares'. -/
def pmulSquaresUptoCard : Claim7 := { stood := { row := pmulSquaresUptoRow, standIns := [], harness := (true, "c23e4f031f1261a3e3def7a1213efde266054d128cd915ff69657ece77e44051"), looks := false }, kinds := [], alts := [], laidByText := true, laidKinds := [.data], laidTests := true, laidLooks := .later }
def PmulSquaresUptoCardSaid : Prop := Claim7.holds Tryz.pinned (.plain (OpenSpec.upto pmulSquaresSpec)) pmulSquaresUptoCard
end Rows
end Go.Proofs.YtmknijpjkikoeaaGreatDoor
