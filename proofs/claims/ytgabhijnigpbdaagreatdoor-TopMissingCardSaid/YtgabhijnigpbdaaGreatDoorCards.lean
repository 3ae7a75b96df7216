/-
  DERIVED. GIVEN WITH THE SEED: THE CARDS: each row of YtgabhijnigpbdaaGreatDoorRows.lean that lists a variable, with what it lists TIED to the program's text (the seventh form; the later family's looks); each row that meets fmt, with fmt's text TOLD by the authors' own Lean function (tested against real Go, not proved from fmt's source: count such statements apart). THE CARD IS WHAT COUNTS. Prove the row's statement (the work); the ties are given (YtgabhijnigpbdaaGreatDoorTie.lean); close each card by the builder's one call (the guide's Derived/Test/ToyasCard.lean, 'card_holds'). Laid BY PROGRAM, IN A SANDBOX (cutbox-door.mjs). By AI agents, Wed Nov 11 2026. No macro, syntax, notation, axiom, sorry.
-/
import Derived.Test.YtgabhijnigpbdaaGreatDoorRows
import GoSem.ClaimSeven
namespace Go.Proofs.YtgabhijnigpbdaaGreatDoor
namespace Rows

/-- THE TIED CARD OF 'graftbedtop.TopMissing'. -/
def topMissingCard : Claim7 := { stood := { row := topMissingRow, standIns := [], harness := (true, "55ee348cd667c4a120d45aa09f0cd8b5962f9cc2cc035dcfeb720bbe294a5254"), looks := true }, kinds := [], alts := [], goes := true, laidByText := true, laidKinds := [.data, .data, .data, .data, .sentinel, .sentinel, .pinned], laidTests := true, laidLooks := .later }
def TopMissingCardSaid : Prop := Claim7.holds Tryz.pinned (.plain (OpenSpec.ofChange topMissingSpec)) topMissingCard

/-- THE SECOND FORM's CARD OF 'graftbedtop.TopMissing'. -/
def topMissingUptoCard : Claim7 := { stood := { row := topMissingUptoRow, standIns := [], harness := (true, "55ee348cd667c4a120d45aa09f0cd8b5962f9cc2cc035dcfeb720bbe294a5254"), looks := true }, kinds := [], alts := [], goes := true, laidByText := true, laidKinds := [.data, .data, .data, .data, .sentinel, .sentinel, .pinned], laidTests := true, laidLooks := .later }
def TopMissingUptoCardSaid : Prop := Claim7.holds Tryz.pinned (.plain (OpenSpec.upto topMissingSpec)) topMissingUptoCard
end Rows
end Go.Proofs.YtgabhijnigpbdaaGreatDoor
