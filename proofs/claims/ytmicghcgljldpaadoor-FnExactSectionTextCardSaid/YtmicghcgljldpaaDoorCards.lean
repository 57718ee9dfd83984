/-
  DERIVED. GIVEN WITH THE SEED: THE CARDS: each row of YtmicghcgljldpaaDoorRows.lean that lists a variable, with what it lists TIED to the program's text (the seventh form; the later family's looks); each row that meets fmt, with fmt's text TOLD by the authors' own Lean function (tested against real Go, not proved from fmt's source: count such statements apart). THE CARD IS WHAT COUNTS. Prove the row's statement (the work); the ties are given (YtmicghcgljldpaaDoorTie.lean); close each card by the builder's one call (the guide's Derived/Test/ToyasCard.lean, 'card_holds'). Laid BY PROGRAM, IN A SANDBOX (cutbox-door.mjs). By AI agents, Wed Nov 11 2026. No macro, syntax, notation, axiom, sorry.
-/
import Derived.Test.YtmicghcgljldpaaDoorRows
import GoSem.ClaimSeven
namespace Go.Proofs.YtmicghcgljldpaaDoor
namespace Rows

/-- THE TIED CARD OF 'laws.FnExactPathText'. -/
def fnExactPathTextCard : Claim7 := { stood := { row := fnExactPathTextRow, standIns := [], harness := (true, "5734819e205d5508e33d6a1b891c87f53e17d6d09d79fd9e639a0d66d245ced2"), looks := false }, kinds := [], alts := [], laidByText := true, laidKinds := [.data, .data, .data], laidTests := true, laidLooks := .later }
def FnExactPathTextCardSaid : Prop := Claim7.holds Tryd.pinned (.plain (OpenSpec.ofChange fnExactPathTextSpec)) fnExactPathTextCard

/-- THE TIED CARD OF 'laws.FnExactSectionText'. -/
def fnExactSectionTextCard : Claim7 := { stood := { row := fnExactSectionTextRow, standIns := [], harness := (true, "5734819e205d5508e33d6a1b891c87f53e17d6d09d79fd9e639a0d66d245ced2"), looks := false }, kinds := [], alts := [], laidByText := true, laidKinds := [.data, .data, .data], laidTests := true, laidLooks := .later }
def FnExactSectionTextCardSaid : Prop := Claim7.holds Tryd.pinned (.plain (OpenSpec.ofChange fnExactSectionTextSpec)) fnExactSectionTextCard

/-- THE TIED CARD OF 'laws.FnExactGroundText'. -/
def fnExactGroundTextCard : Claim7 := { stood := { row := fnExactGroundTextRow, standIns := [], harness := (true, "5734819e205d5508e33d6a1b891c87f53e17d6d09d79fd9e639a0d66d245ced2"), looks := false }, kinds := [], alts := [], laidByText := true, laidKinds := [.data, .data, .data], laidTests := true, laidLooks := .later }
def FnExactGroundTextCardSaid : Prop := Claim7.holds Tryd.pinned (.plain (OpenSpec.ofChange fnExactGroundTextSpec)) fnExactGroundTextCard

/-- THE TIED CARD OF 'laws.FnExactGatherText'. -/
def fnExactGatherTextCard : Claim7 := { stood := { row := fnExactGatherTextRow, standIns := [], harness := (true, "5734819e205d5508e33d6a1b891c87f53e17d6d09d79fd9e639a0d66d245ced2"), looks := false }, kinds := [], alts := [], laidByText := true, laidKinds := [.data, .data, .data], laidTests := true, laidLooks := .later }
def FnExactGatherTextCardSaid : Prop := Claim7.holds Tryd.pinned (.plain (OpenSpec.ofChange fnExactGatherTextSpec)) fnExactGatherTextCard

/-- THE SECOND FORM's CARD OF 'laws.FnExactPathText'. -/
def fnExactPathTextUptoCard : Claim7 := { stood := { row := fnExactPathTextUptoRow, standIns := [], harness := (true, "5734819e205d5508e33d6a1b891c87f53e17d6d09d79fd9e639a0d66d245ced2"), looks := false }, kinds := [], alts := [], laidByText := true, laidKinds := [.data, .data, .data], laidTests := true, laidLooks := .later }
def FnExactPathTextUptoCardSaid : Prop := Claim7.holds Tryd.pinned (.plain (OpenSpec.upto fnExactPathTextSpec)) fnExactPathTextUptoCard

/-- THE SECOND FORM's CARD OF 'laws.FnExactSectionText'. -/
def fnExactSectionTextUptoCard : Claim7 := { stood := { row := fnExactSectionTextUptoRow, standIns := [], harness := (true, "5734819e205d5508e33d6a1b891c87f53e17d6d09d79fd9e639a0d66d245ced2"), looks := false }, kinds := [], alts := [], laidByText := true, laidKinds := [.data, .data, .data], laidTests := true, laidLooks := .later }
def FnExactSectionTextUptoCardSaid : Prop := Claim7.holds Tryd.pinned (.plain (OpenSpec.upto fnExactSectionTextSpec)) fnExactSectionTextUptoCard

/-- THE SECOND FORM's CARD OF 'laws.FnExactGroundText'. -/
def fnExactGroundTextUptoCard : Claim7 := { stood := { row := fnExactGroundTextUptoRow, standIns := [], harness := (true, "5734819e205d5508e33d6a1b891c87f53e17d6d09d79fd9e639a0d66d245ced2"), looks := false }, kinds := [], alts := [], laidByText := true, laidKinds := [.data, .data, .data], laidTests := true, laidLooks := .later }
def FnExactGroundTextUptoCardSaid : Prop := Claim7.holds Tryd.pinned (.plain (OpenSpec.upto fnExactGroundTextSpec)) fnExactGroundTextUptoCard

/-- THE SECOND FORM's CARD OF 'laws.FnExactGatherText'. -/
def fnExactGatherTextUptoCard : Claim7 := { stood := { row := fnExactGatherTextUptoRow, standIns := [], harness := (true, "5734819e205d5508e33d6a1b891c87f53e17d6d09d79fd9e639a0d66d245ced2"), looks := false }, kinds := [], alts := [], laidByText := true, laidKinds := [.data, .data, .data], laidTests := true, laidLooks := .later }
def FnExactGatherTextUptoCardSaid : Prop := Claim7.holds Tryd.pinned (.plain (OpenSpec.upto fnExactGatherTextSpec)) fnExactGatherTextUptoCard
end Rows
end Go.Proofs.YtmicghcgljldpaaDoor
