/-
  DERIVED. GIVEN WITH THE SEED: THE CARDS: each row of YtaknoodgpkdhbaaDoorRows.lean that lists a variable, with what it lists TIED to the program's text (the seventh form; the later family's looks); each row that meets fmt, with fmt's text TOLD by the authors' own Lean function (tested against real Go, not proved from fmt's source: count such statements apart). THE CARD IS WHAT COUNTS. Prove the row's statement (the work); the ties are given (YtaknoodgpkdhbaaDoorTie.lean); close each card by the builder's one call (the guide's Derived/Test/ToyasCard.lean, 'card_holds'). Laid BY PROGRAM, IN A SANDBOX (cutbox-door.mjs). By AI agents, Wed Nov 11 2026. No macro, syntax, notation, axiom, sorry.
-/
import Derived.Test.YtaknoodgpkdhbaaDoorRows
import GoSem.ClaimSeven
namespace Go.Proofs.YtaknoodgpkdhbaaDoor
namespace Rows

/-- THE TIED CARD OF 'tailracelaw21.StatusTexts'. -/
def statusTextsCard : Claim7 := { stood := { row := statusTextsRow, standIns := [], harness := (true, "efc11cdfbf878acff0a9c440fcf950699d692df52c8e9ad6eb775096796a5290"), looks := false }, kinds := [], alts := [], laidByText := true, laidKinds := [.data, .data, .data, .data, .data], laidTests := true, laidLooks := .later }
def StatusTextsCardSaid : Prop := Claim7.holds Tryd.pinned (.plain (OpenSpec.ofChange statusTextsSpec)) statusTextsCard

/-- THE TIED CARD OF 'tailracelaw21.StatusHolds'. -/
def statusHoldsCard : Claim7 := { stood := { row := statusHoldsRow, standIns := [], harness := (true, "efc11cdfbf878acff0a9c440fcf950699d692df52c8e9ad6eb775096796a5290"), looks := false }, kinds := [], alts := [], laidByText := true, laidKinds := [.data, .data, .data, .data, .data], laidTests := true, laidLooks := .later }
def StatusHoldsCardSaid : Prop := Claim7.holds Tryd.pinned (.plain (OpenSpec.ofChange statusHoldsSpec)) statusHoldsCard

/-- THE SECOND FORM's CARD OF 'tailracelaw21.StatusTexts'. -/
def statusTextsUptoCard : Claim7 := { stood := { row := statusTextsUptoRow, standIns := [], harness := (true, "efc11cdfbf878acff0a9c440fcf950699d692df52c8e9ad6eb775096796a5290"), looks := false }, kinds := [], alts := [], laidByText := true, laidKinds := [.data, .data, .data, .data, .data], laidTests := true, laidLooks := .later }
def StatusTextsUptoCardSaid : Prop := Claim7.holds Tryd.pinned (.plain (OpenSpec.upto statusTextsSpec)) statusTextsUptoCard

/-- THE SECOND FORM's CARD OF 'tailracelaw21.StatusHolds'. -/
def statusHoldsUptoCard : Claim7 := { stood := { row := statusHoldsUptoRow, standIns := [], harness := (true, "efc11cdfbf878acff0a9c440fcf950699d692df52c8e9ad6eb775096796a5290"), looks := false }, kinds := [], alts := [], laidByText := true, laidKinds := [.data, .data, .data, .data, .data], laidTests := true, laidLooks := .later }
def StatusHoldsUptoCardSaid : Prop := Claim7.holds Tryd.pinned (.plain (OpenSpec.upto statusHoldsSpec)) statusHoldsUptoCard
end Rows
end Go.Proofs.YtaknoodgpkdhbaaDoor
