/-
  DERIVED. GIVEN WITH THE SEED: THE CARDS: each row of YtpiheobpobclgaaGreatDoorRows.lean that lists a variable, with what it lists TIED to the program's text (the seventh form; the later family's looks); each row that meets fmt, with fmt's text TOLD by the authors' own Lean function (tested against real Go, not proved from fmt's source: count such statements apart). THE CARD IS WHAT COUNTS. Prove the row's statement (the work); the ties are given (YtpiheobpobclgaaGreatDoorTie.lean); close each card by the builder's one call (the guide's Derived/Test/ToyasCard.lean, 'card_holds'). Laid BY PROGRAM, IN A SANDBOX (cutbox-door.mjs). By AI agents, Wed Nov 11 2026. No macro, syntax, notation, axiom, sorry.
-/
import Derived.Test.YtpiheobpobclgaaGreatDoorRows
import GoSem.ClaimSeven
namespace Go.Proofs.YtpiheobpobclgaaGreatDoor
namespace Rows

/-- THE TIED CARD OF 'laws.FnExactReadRecText'. -/
def fnExactReadRecTextCard : Claim7 := { stood := { row := fnExactReadRecTextRow, standIns := [], harness := (true, "1fde029fcd2bc3b64e11fd77b83490aa23dce073d13f27bec9cb1ece1711bd7d"), looks := true }, kinds := [], alts := [], laidByText := true, laidKinds := [.data, .data, .data, .data, .sentinel, .sentinel, .pinned], laidTests := true, laidLooks := .later }
def FnExactReadRecTextCardSaid : Prop := Claim7.holds Tryz.pinned (.plain (OpenSpec.ofChange fnExactReadRecTextSpec)) fnExactReadRecTextCard

/-- THE SECOND FORM's CARD OF 'laws.FnExactReadRecText'. -/
def fnExactReadRecTextUptoCard : Claim7 := { stood := { row := fnExactReadRecTextUptoRow, standIns := [], harness := (true, "1fde029fcd2bc3b64e11fd77b83490aa23dce073d13f27bec9cb1ece1711bd7d"), looks := true }, kinds := [], alts := [], laidByText := true, laidKinds := [.data, .data, .data, .data, .sentinel, .sentinel, .pinned], laidTests := true, laidLooks := .later }
def FnExactReadRecTextUptoCardSaid : Prop := Claim7.holds Tryz.pinned (.plain (OpenSpec.upto fnExactReadRecTextSpec)) fnExactReadRecTextUptoCard
end Rows
end Go.Proofs.YtpiheobpobclgaaGreatDoor
