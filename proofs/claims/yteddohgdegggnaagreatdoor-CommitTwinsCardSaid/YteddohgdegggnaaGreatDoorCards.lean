/-
  DERIVED. GIVEN WITH THE SEED: THE CARDS: each row of YteddohgdegggnaaGreatDoorRows.lean that lists a variable, with what it lists TIED to the program's text (the seventh form; the later family's looks); each row that meets fmt, with fmt's text TOLD by the authors' own Lean function (tested against real Go, not proved from fmt's source: count such statements apart). THE CARD IS WHAT COUNTS. Prove the row's statement (the work); the ties are given (YteddohgdegggnaaGreatDoorTie.lean); close each card by the builder's one call (the guide's Derived/Test/ToyasCard.lean, 'card_holds'). Laid BY PROGRAM, IN A SANDBOX (cutbox-door.mjs). By AI agents, Wed Nov 11 2026. No macro, syntax, notation, axiom, sorry.
-/
import Derived.Test.YteddohgdegggnaaGreatDoorRows
import GoSem.ClaimSeven
namespace Go.Proofs.YteddohgdegggnaaGreatDoor
namespace Rows

/-- THE TIED CARD OF 'headracelaw18.CommitMissing'. -/
def commitMissingCard : Claim7 := { stood := { row := commitMissingRow, standIns := [], harness := (true, "d67a34e7ca8ac77ceaca761884ebf15dcc03d83d6a6e49f842bf1e647c98c7e9"), looks := true }, kinds := [], alts := [], laidByText := true, laidKinds := [.data, .data, .data, .data, .sentinel, .sentinel], laidTests := true, laidLooks := .later }
def CommitMissingCardSaid : Prop := Claim7.holds Tryz.pinned (.plain (OpenSpec.ofChange commitMissingSpec)) commitMissingCard

/-- THE TIED CARD OF 'headracelaw18.CommitTwins'. -/
def commitTwinsCard : Claim7 := { stood := { row := commitTwinsRow, standIns := [], harness := (true, "d67a34e7ca8ac77ceaca761884ebf15dcc03d83d6a6e49f842bf1e647c98c7e9"), looks := true }, kinds := [], alts := [], laidByText := true, laidKinds := [.data, .data, .data, .data, .sentinel, .sentinel], laidTests := true, laidLooks := .later }
def CommitTwinsCardSaid : Prop := Claim7.holds Tryz.pinned (.plain (OpenSpec.ofChange commitTwinsSpec)) commitTwinsCard

/-- THE TIED CARD OF 'headracelaw18.CommitFalls'. -/
def commitFallsCard : Claim7 := { stood := { row := commitFallsRow, standIns := [], harness := (true, "d67a34e7ca8ac77ceaca761884ebf15dcc03d83d6a6e49f842bf1e647c98c7e9"), looks := true }, kinds := [], alts := [], laidByText := true, laidKinds := [.data, .data, .data, .data, .sentinel, .sentinel], laidTests := true, laidLooks := .later }
def CommitFallsCardSaid : Prop := Claim7.holds Tryz.pinned (.plain (OpenSpec.ofChange commitFallsSpec)) commitFallsCard

/-- THE SECOND FORM's CARD OF 'headracelaw18.CommitMissing'. -/
def commitMissingUptoCard : Claim7 := { stood := { row := commitMissingUptoRow, standIns := [], harness := (true, "d67a34e7ca8ac77ceaca761884ebf15dcc03d83d6a6e49f842bf1e647c98c7e9"), looks := true }, kinds := [], alts := [], laidByText := true, laidKinds := [.data, .data, .data, .data, .sentinel, .sentinel], laidTests := true, laidLooks := .later }
def CommitMissingUptoCardSaid : Prop := Claim7.holds Tryz.pinned (.plain (OpenSpec.upto commitMissingSpec)) commitMissingUptoCard

/-- THE SECOND FORM's CARD OF 'headracelaw18.CommitTwins'. -/
def commitTwinsUptoCard : Claim7 := { stood := { row := commitTwinsUptoRow, standIns := [], harness := (true, "d67a34e7ca8ac77ceaca761884ebf15dcc03d83d6a6e49f842bf1e647c98c7e9"), looks := true }, kinds := [], alts := [], laidByText := true, laidKinds := [.data, .data, .data, .data, .sentinel, .sentinel], laidTests := true, laidLooks := .later }
def CommitTwinsUptoCardSaid : Prop := Claim7.holds Tryz.pinned (.plain (OpenSpec.upto commitTwinsSpec)) commitTwinsUptoCard

/-- THE SECOND FORM's CARD OF 'headracelaw18.CommitFalls'. -/
def commitFallsUptoCard : Claim7 := { stood := { row := commitFallsUptoRow, standIns := [], harness := (true, "d67a34e7ca8ac77ceaca761884ebf15dcc03d83d6a6e49f842bf1e647c98c7e9"), looks := true }, kinds := [], alts := [], laidByText := true, laidKinds := [.data, .data, .data, .data, .sentinel, .sentinel], laidTests := true, laidLooks := .later }
def CommitFallsUptoCardSaid : Prop := Claim7.holds Tryz.pinned (.plain (OpenSpec.upto commitFallsSpec)) commitFallsUptoCard
end Rows
end Go.Proofs.YteddohgdegggnaaGreatDoor
