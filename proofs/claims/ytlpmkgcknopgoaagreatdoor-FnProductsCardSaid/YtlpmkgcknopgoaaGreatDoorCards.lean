/-
  DERIVED. GIVEN WITH THE SEED: THE CARDS: each row of YtlpmkgcknopgoaaGreatDoorRows.lean that lists a variable, with what it lists TIED to the program's text (the seventh form; the later family's looks); each row that meets fmt, with fmt's text TOLD by the authors' own Lean function (tested against real Go, not proved from fmt's source: count such statements apart). THE CARD IS WHAT COUNTS. Prove the row's statement (the work); the ties are given (YtlpmkgcknopgoaaGreatDoorTie.lean); close each card by the builder's one call (the guide's Derived/Test/ToyasCard.lean, 'card_holds'). Laid BY PROGRAM, IN A SANDBOX (cutbox-door.mjs). By AI agents, Wed Nov 11 2026. No macro, syntax, notation, axiom, sorry.
-/
import Derived.Test.YtlpmkgcknopgoaaGreatDoorRows
import GoSem.ClaimSeven
namespace Go.Proofs.YtlpmkgcknopgoaaGreatDoor
namespace Rows

/-- THE TIED CARD OF 'laws.FnProducts'. -/
def fnProductsCard : Claim7 := { stood := { row := fnProductsRow, standIns := [], harness := (true, "ded60722041a26fdb6866281c3fa5bd126e16f72c48e063ab9476be98a50528f"), looks := true }, kinds := [], alts := [], laidByText := true, laidKinds := [.data, .data, .data, .data, .sentinel, .sentinel, .pinned], laidTests := true, laidLooks := .later }
def FnProductsCardSaid : Prop := Claim7.holds Tryz.pinned (.plain (OpenSpec.ofChange fnProductsSpec)) fnProductsCard

/-- THE TIED CARD OF 'laws.FnNumbers'. -/
def fnNumbersCard : Claim7 := { stood := { row := fnNumbersRow, standIns := [], harness := (true, "ded60722041a26fdb6866281c3fa5bd126e16f72c48e063ab9476be98a50528f"), looks := true }, kinds := [], alts := [], laidByText := true, laidKinds := [.data, .data, .data, .data, .sentinel, .sentinel, .pinned], laidTests := true, laidLooks := .later }
def FnNumbersCardSaid : Prop := Claim7.holds Tryz.pinned (.plain (OpenSpec.ofChange fnNumbersSpec)) fnNumbersCard

/-- THE SECOND FORM's CARD OF 'laws.FnProducts'. -/
def fnProductsUptoCard : Claim7 := { stood := { row := fnProductsUptoRow, standIns := [], harness := (true, "ded60722041a26fdb6866281c3fa5bd126e16f72c48e063ab9476be98a50528f"), looks := true }, kinds := [], alts := [], laidByText := true, laidKinds := [.data, .data, .data, .data, .sentinel, .sentinel, .pinned], laidTests := true, laidLooks := .later }
def FnProductsUptoCardSaid : Prop := Claim7.holds Tryz.pinned (.plain (OpenSpec.upto fnProductsSpec)) fnProductsUptoCard

/-- THE SECOND FORM's CARD OF 'laws.FnNumbers'. -/
def fnNumbersUptoCard : Claim7 := { stood := { row := fnNumbersUptoRow, standIns := [], harness := (true, "ded60722041a26fdb6866281c3fa5bd126e16f72c48e063ab9476be98a50528f"), looks := true }, kinds := [], alts := [], laidByText := true, laidKinds := [.data, .data, .data, .data, .sentinel, .sentinel, .pinned], laidTests := true, laidLooks := .later }
def FnNumbersUptoCardSaid : Prop := Claim7.holds Tryz.pinned (.plain (OpenSpec.upto fnNumbersSpec)) fnNumbersUptoCard
end Rows
end Go.Proofs.YtlpmkgcknopgoaaGreatDoor
