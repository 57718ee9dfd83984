/-
  DERIVED. GIVEN WITH THE SEED: THE CARDS: each row of YtjbaebgdebcipaaDoorRows.lean that lists a variable, with what it lists TIED to the program's text (the seventh form; the later family's looks); each row that meets fmt, with fmt's text TOLD by the authors' own Lean function (tested against real Go, not proved from fmt's source: count such statements apart). THE CARD IS WHAT COUNTS. Prove the row's statement (the work); the ties are given (YtjbaebgdebcipaaDoorTie.lean); close each card by the builder's one call (the guide's Derived/Test/ToyasCard.lean, 'card_holds'). Laid BY PROGRAM, IN A SANDBOX (cutbox-door.mjs). By AI agents, Wed Nov 11 2026. No macro, syntax, notation, axiom, sorry.
-/
import Derived.Test.YtjbaebgdebcipaaDoorRows
import GoSem.ClaimSeven
namespace Go.Proofs.YtjbaebgdebcipaaDoor
namespace Rows

/-- THE TIED CARD OF 'laws.FnExactReadPath'. -/
def fnExactReadPathCard : Claim7 := { stood := { row := fnExactReadPathRow, standIns := [], harness := (true, "e9cc5340ba14d56db2f0314a5b3034fcf4752672abeffae5a19b53fecea8a8dc"), looks := true }, kinds := [], alts := [], laidByText := true, laidKinds := [.data, .data, .data, .data, .sentinel, .sentinel, .pinned], laidTests := true, laidLooks := .later }
def FnExactReadPathCardSaid : Prop := Claim7.holds Tryd.pinned (.plain (OpenSpec.ofChange fnExactReadPathSpec)) fnExactReadPathCard

/-- THE SECOND FORM's CARD OF 'laws.FnExactReadPath'. -/
def fnExactReadPathUptoCard : Claim7 := { stood := { row := fnExactReadPathUptoRow, standIns := [], harness := (true, "e9cc5340ba14d56db2f0314a5b3034fcf4752672abeffae5a19b53fecea8a8dc"), looks := true }, kinds := [], alts := [], laidByText := true, laidKinds := [.data, .data, .data, .data, .sentinel, .sentinel, .pinned], laidTests := true, laidLooks := .later }
def FnExactReadPathUptoCardSaid : Prop := Claim7.holds Tryd.pinned (.plain (OpenSpec.upto fnExactReadPathSpec)) fnExactReadPathUptoCard
end Rows
end Go.Proofs.YtjbaebgdebcipaaDoor
