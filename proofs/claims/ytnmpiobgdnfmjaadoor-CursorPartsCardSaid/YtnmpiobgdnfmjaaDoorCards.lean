/-
  DERIVED. GIVEN WITH THE SEED: THE CARDS: each row of YtnmpiobgdnfmjaaDoorRows.lean that lists a variable, with what it lists TIED to the program's text (the seventh form; the later family's looks); each row that meets fmt, with fmt's text TOLD by the authors' own Lean function (tested against real Go, not proved from fmt's source: count such statements apart). THE CARD IS WHAT COUNTS. Prove the row's statement (the work); the ties are given (YtnmpiobgdnfmjaaDoorTie.lean); close each card by the builder's one call (the guide's Derived/Test/ToyasCard.lean, 'card_holds'). Laid BY PROGRAM, IN A SANDBOX (cutbox-door.mjs). By AI agents, Wed Nov 11 2026. No macro, syntax, notation, axiom, sorry.
-/
import Derived.Test.YtnmpiobgdnfmjaaDoorRows
import GoSem.ClaimSeven
namespace Go.Proofs.YtnmpiobgdnfmjaaDoor
namespace Rows

/-- THE TIED CARD OF 'tailracelaw14.CursorParts'. -/
def cursorPartsCard : Claim7 := { stood := { row := cursorPartsRow, standIns := [], harness := (true, "07c6ffa9d2b420a337939f931140645897a91303f371a48d0d111e237beed9d9"), looks := false }, kinds := [], alts := [], laidByText := true, laidKinds := [.data], laidTests := true, laidLooks := .later }
def CursorPartsCardSaid : Prop := Claim7.holds Tryd.pinned (.plain (OpenSpec.ofChange cursorPartsSpec)) cursorPartsCard

/-- THE SECOND FORM's CARD OF 'tailracelaw14.CursorParts'. -/
def cursorPartsUptoCard : Claim7 := { stood := { row := cursorPartsUptoRow, standIns := [], harness := (true, "07c6ffa9d2b420a337939f931140645897a91303f371a48d0d111e237beed9d9"), looks := false }, kinds := [], alts := [], laidByText := true, laidKinds := [.data], laidTests := true, laidLooks := .later }
def CursorPartsUptoCardSaid : Prop := Claim7.holds Tryd.pinned (.plain (OpenSpec.upto cursorPartsSpec)) cursorPartsUptoCard
end Rows
end Go.Proofs.YtnmpiobgdnfmjaaDoor
