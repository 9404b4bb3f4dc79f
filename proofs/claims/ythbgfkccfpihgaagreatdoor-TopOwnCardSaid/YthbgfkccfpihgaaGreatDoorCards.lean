/-
  DERIVED. GIVEN WITH THE SEED: THE CARDS: each row of YthbgfkccfpihgaaGreatDoorRows.lean that lists a variable, with what it lists TIED to the program's text (the seventh form; the later family's looks); each row that meets fmt, with fmt's text TOLD by the authors' own Lean function (tested against real Go, not proved from fmt's source: count such statements apart). THE CARD IS WHAT COUNTS. Prove the row's statement (the work); the ties are given (YthbgfkccfpihgaaGreatDoorTie.lean); close each card by the builder's one call (the guide's Derived/Test/ToyasCard.lean, 'card_holds'). Laid BY PROGRAM, IN A SANDBOX (cutbox-door.mjs). By AI agents, Wed Nov 11 2026. No macro, syntax, notation, axiom, sorry.
-/
import Derived.Test.YthbgfkccfpihgaaGreatDoorRows
import GoSem.ClaimSeven
namespace Go.Proofs.YthbgfkccfpihgaaGreatDoor
namespace Rows

/-- THE TIED CARD OF 'proofmarktop.TopClauses'. -/
def topClausesCard : Claim7 := { stood := { row := topClausesRow, standIns := [], harness := (true, "ba050d6e28a48b2a201dc44eea00d240d1885b4c9270b278390797b5d3e651f2"), looks := true }, kinds := [], alts := [], laidByText := true, laidKinds := [.data, .data, .data, .data, .pinned], laidTests := true, laidLooks := .later }
def TopClausesCardSaid : Prop := Claim7.holds Tryz.pinned (.plain (OpenSpec.ofChange topClausesSpec)) topClausesCard

/-- THE TIED CARD OF 'proofmarktop.TopOwn'. -/
def topOwnCard : Claim7 := { stood := { row := topOwnRow, standIns := [], harness := (true, "ba050d6e28a48b2a201dc44eea00d240d1885b4c9270b278390797b5d3e651f2"), looks := true }, kinds := [], alts := [], laidByText := true, laidKinds := [.data, .data, .data, .data, .sentinel, .sentinel, .pinned], laidTests := true, laidLooks := .later }
def TopOwnCardSaid : Prop := Claim7.holds Tryz.pinned (.plain (OpenSpec.ofChange topOwnSpec)) topOwnCard

/-- THE SECOND FORM's CARD OF 'proofmarktop.TopClauses'. -/
def topClausesUptoCard : Claim7 := { stood := { row := topClausesUptoRow, standIns := [], harness := (true, "ba050d6e28a48b2a201dc44eea00d240d1885b4c9270b278390797b5d3e651f2"), looks := true }, kinds := [], alts := [], laidByText := true, laidKinds := [.data, .data, .data, .data, .pinned], laidTests := true, laidLooks := .later }
def TopClausesUptoCardSaid : Prop := Claim7.holds Tryz.pinned (.plain (OpenSpec.upto topClausesSpec)) topClausesUptoCard

/-- THE SECOND FORM's CARD OF 'proofmarktop.TopOwn'. -/
def topOwnUptoCard : Claim7 := { stood := { row := topOwnUptoRow, standIns := [], harness := (true, "ba050d6e28a48b2a201dc44eea00d240d1885b4c9270b278390797b5d3e651f2"), looks := true }, kinds := [], alts := [], laidByText := true, laidKinds := [.data, .data, .data, .data, .sentinel, .sentinel, .pinned], laidTests := true, laidLooks := .later }
def TopOwnUptoCardSaid : Prop := Claim7.holds Tryz.pinned (.plain (OpenSpec.upto topOwnSpec)) topOwnUptoCard
end Rows
end Go.Proofs.YthbgfkccfpihgaaGreatDoor
