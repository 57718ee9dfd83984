/-
  DERIVED. GIVEN WITH THE SEED: THE CARDS: each row of YtjbaebgdebcipaaGreatDoorRows.lean that lists a variable, with what it lists TIED to the program's text (the seventh form; the later family's looks); each row that meets fmt, with fmt's text TOLD by the authors' own Lean function (tested against real Go, not proved from fmt's source: count such statements apart). THE CARD IS WHAT COUNTS. Prove the row's statement (the work); the ties are given (YtjbaebgdebcipaaGreatDoorTie.lean); close each card by the builder's one call (the guide's Derived/Test/ToyasCard.lean, 'card_holds'). Laid BY PROGRAM, IN A SANDBOX (cutbox-door.mjs). By AI agents, Wed Nov 11 2026. No macro, syntax, notation, axiom, sorry.
-/
import Derived.Test.YtjbaebgdebcipaaGreatDoorRows
import GoSem.ClaimSeven
namespace Go.Proofs.YtjbaebgdebcipaaGreatDoor
namespace Rows

/-- THE TIED CARD OF 'laws.FnTexts'. -/
def fnTextsCard : Claim7 := { stood := { row := fnTextsRow, standIns := [], harness := (true, "7d3e64b44cb7fd55683c551a4d0ee4d848a7a9faf8eb6d073ec546c05034f0f5"), looks := true }, kinds := [], alts := [], laidByText := true, laidKinds := [.data, .data, .data, .data, .sentinel, .sentinel, .pinned], laidTests := true, laidLooks := .later }
def FnTextsCardSaid : Prop := Claim7.holds Tryz.pinned (.plain (OpenSpec.ofChange fnTextsSpec)) fnTextsCard

/-- THE TIED CARD OF 'laws.FnExactReadGround'. -/
def fnExactReadGroundCard : Claim7 := { stood := { row := fnExactReadGroundRow, standIns := [], harness := (true, "7d3e64b44cb7fd55683c551a4d0ee4d848a7a9faf8eb6d073ec546c05034f0f5"), looks := true }, kinds := [], alts := [], laidByText := true, laidKinds := [.data, .data, .data, .data, .sentinel, .sentinel, .pinned], laidTests := true, laidLooks := .later }
def FnExactReadGroundCardSaid : Prop := Claim7.holds Tryz.pinned (.plain (OpenSpec.ofChange fnExactReadGroundSpec)) fnExactReadGroundCard

/-- THE TIED CARD OF 'laws.FnExactReadSection'. -/
def fnExactReadSectionCard : Claim7 := { stood := { row := fnExactReadSectionRow, standIns := [], harness := (true, "7d3e64b44cb7fd55683c551a4d0ee4d848a7a9faf8eb6d073ec546c05034f0f5"), looks := true }, kinds := [], alts := [], laidByText := true, laidKinds := [.data, .data, .data, .data, .sentinel, .sentinel, .pinned], laidTests := true, laidLooks := .later }
def FnExactReadSectionCardSaid : Prop := Claim7.holds Tryz.pinned (.plain (OpenSpec.ofChange fnExactReadSectionSpec)) fnExactReadSectionCard

/-- THE TIED CARD OF 'laws.FnExactReadGather'. -/
def fnExactReadGatherCard : Claim7 := { stood := { row := fnExactReadGatherRow, standIns := [], harness := (true, "7d3e64b44cb7fd55683c551a4d0ee4d848a7a9faf8eb6d073ec546c05034f0f5"), looks := true }, kinds := [], alts := [], laidByText := true, laidKinds := [.data, .data, .data, .data, .sentinel, .sentinel, .pinned], laidTests := true, laidLooks := .later }
def FnExactReadGatherCardSaid : Prop := Claim7.holds Tryz.pinned (.plain (OpenSpec.ofChange fnExactReadGatherSpec)) fnExactReadGatherCard

/-- THE SECOND FORM's CARD OF 'laws.FnTexts'. -/
def fnTextsUptoCard : Claim7 := { stood := { row := fnTextsUptoRow, standIns := [], harness := (true, "7d3e64b44cb7fd55683c551a4d0ee4d848a7a9faf8eb6d073ec546c05034f0f5"), looks := true }, kinds := [], alts := [], laidByText := true, laidKinds := [.data, .data, .data, .data, .sentinel, .sentinel, .pinned], laidTests := true, laidLooks := .later }
def FnTextsUptoCardSaid : Prop := Claim7.holds Tryz.pinned (.plain (OpenSpec.upto fnTextsSpec)) fnTextsUptoCard

/-- THE SECOND FORM's CARD OF 'laws.FnExactReadGround'. -/
def fnExactReadGroundUptoCard : Claim7 := { stood := { row := fnExactReadGroundUptoRow, standIns := [], harness := (true, "7d3e64b44cb7fd55683c551a4d0ee4d848a7a9faf8eb6d073ec546c05034f0f5"), looks := true }, kinds := [], alts := [], laidByText := true, laidKinds := [.data, .data, .data, .data, .sentinel, .sentinel, .pinned], laidTests := true, laidLooks := .later }
def FnExactReadGroundUptoCardSaid : Prop := Claim7.holds Tryz.pinned (.plain (OpenSpec.upto fnExactReadGroundSpec)) fnExactReadGroundUptoCard

/-- THE SECOND FORM's CARD OF 'laws.FnExactReadSection'. -/
def fnExactReadSectionUptoCard : Claim7 := { stood := { row := fnExactReadSectionUptoRow, standIns := [], harness := (true, "7d3e64b44cb7fd55683c551a4d0ee4d848a7a9faf8eb6d073ec546c05034f0f5"), looks := true }, kinds := [], alts := [], laidByText := true, laidKinds := [.data, .data, .data, .data, .sentinel, .sentinel, .pinned], laidTests := true, laidLooks := .later }
def FnExactReadSectionUptoCardSaid : Prop := Claim7.holds Tryz.pinned (.plain (OpenSpec.upto fnExactReadSectionSpec)) fnExactReadSectionUptoCard

/-- THE SECOND FORM's CARD OF 'laws.FnExactReadGather'. -/
def fnExactReadGatherUptoCard : Claim7 := { stood := { row := fnExactReadGatherUptoRow, standIns := [], harness := (true, "7d3e64b44cb7fd55683c551a4d0ee4d848a7a9faf8eb6d073ec546c05034f0f5"), looks := true }, kinds := [], alts := [], laidByText := true, laidKinds := [.data, .data, .data, .data, .sentinel, .sentinel, .pinned], laidTests := true, laidLooks := .later }
def FnExactReadGatherUptoCardSaid : Prop := Claim7.holds Tryz.pinned (.plain (OpenSpec.upto fnExactReadGatherSpec)) fnExactReadGatherUptoCard
end Rows
end Go.Proofs.YtjbaebgdebcipaaGreatDoor
