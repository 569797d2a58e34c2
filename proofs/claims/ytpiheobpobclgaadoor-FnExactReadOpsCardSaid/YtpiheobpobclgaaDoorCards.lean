/-
  DERIVED. GIVEN WITH THE SEED: THE CARDS: each row of YtpiheobpobclgaaDoorRows.lean that lists a variable, with what it lists TIED to the program's text (the seventh form; the later family's looks); each row that meets fmt, with fmt's text TOLD by the authors' own Lean function (tested against real Go, not proved from fmt's source: count such statements apart). THE CARD IS WHAT COUNTS. Prove the row's statement (the work); the ties are given (YtpiheobpobclgaaDoorTie.lean); close each card by the builder's one call (the guide's Derived/Test/ToyasCard.lean, 'card_holds'). Laid BY PROGRAM, IN A SANDBOX (cutbox-door.mjs). By AI agents, Wed Nov 11 2026. No macro, syntax, notation, axiom, sorry.
-/
import Derived.Test.YtpiheobpobclgaaDoorRows
import GoSem.ClaimSeven
namespace Go.Proofs.YtpiheobpobclgaaDoor
namespace Rows

/-- THE TIED CARD OF 'laws.FnExactOpsText'. -/
def fnExactOpsTextCard : Claim7 := { stood := { row := fnExactOpsTextRow, standIns := [], harness := (true, "5939915bc0e197e39c1c5478fb78f7f81becd9063b1701f822a381010f52ff36"), looks := true }, kinds := [], alts := [], laidByText := true, laidKinds := [.data, .data, .data], laidTests := true, laidLooks := .later }
def FnExactOpsTextCardSaid : Prop := Claim7.holds Tryd.pinned (.plain (OpenSpec.ofChange fnExactOpsTextSpec)) fnExactOpsTextCard

/-- THE TIED CARD OF 'laws.FnExactNumberIn'. -/
def fnExactNumberInCard : Claim7 := { stood := { row := fnExactNumberInRow, standIns := [], harness := (true, "5939915bc0e197e39c1c5478fb78f7f81becd9063b1701f822a381010f52ff36"), looks := true }, kinds := [], alts := [], laidByText := true, laidKinds := [.data, .data, .data, .sentinel, .sentinel], laidTests := true, laidLooks := .later }
def FnExactNumberInCardSaid : Prop := Claim7.holds Tryd.pinned (.plain (OpenSpec.ofChange fnExactNumberInSpec)) fnExactNumberInCard

/-- THE TIED CARD OF 'laws.FnExactRecText'. -/
def fnExactRecTextCard : Claim7 := { stood := { row := fnExactRecTextRow, standIns := [], harness := (true, "5939915bc0e197e39c1c5478fb78f7f81becd9063b1701f822a381010f52ff36"), looks := true }, kinds := [], alts := [], laidByText := true, laidKinds := [.data, .data, .data], laidTests := true, laidLooks := .later }
def FnExactRecTextCardSaid : Prop := Claim7.holds Tryd.pinned (.plain (OpenSpec.ofChange fnExactRecTextSpec)) fnExactRecTextCard

/-- THE TIED CARD OF 'laws.FnExactReadOps'. -/
def fnExactReadOpsCard : Claim7 := { stood := { row := fnExactReadOpsRow, standIns := [], harness := (true, "5939915bc0e197e39c1c5478fb78f7f81becd9063b1701f822a381010f52ff36"), looks := true }, kinds := [], alts := [], laidByText := true, laidKinds := [.data, .data, .data, .data, .sentinel, .sentinel, .pinned], laidTests := true, laidLooks := .later }
def FnExactReadOpsCardSaid : Prop := Claim7.holds Tryd.pinned (.plain (OpenSpec.ofChange fnExactReadOpsSpec)) fnExactReadOpsCard

/-- THE SECOND FORM's CARD OF 'laws.FnExactOpsText'. -/
def fnExactOpsTextUptoCard : Claim7 := { stood := { row := fnExactOpsTextUptoRow, standIns := [], harness := (true, "5939915bc0e197e39c1c5478fb78f7f81becd9063b1701f822a381010f52ff36"), looks := true }, kinds := [], alts := [], laidByText := true, laidKinds := [.data, .data, .data], laidTests := true, laidLooks := .later }
def FnExactOpsTextUptoCardSaid : Prop := Claim7.holds Tryd.pinned (.plain (OpenSpec.upto fnExactOpsTextSpec)) fnExactOpsTextUptoCard

/-- THE SECOND FORM's CARD OF 'laws.FnExactNumberIn'. -/
def fnExactNumberInUptoCard : Claim7 := { stood := { row := fnExactNumberInUptoRow, standIns := [], harness := (true, "5939915bc0e197e39c1c5478fb78f7f81becd9063b1701f822a381010f52ff36"), looks := true }, kinds := [], alts := [], laidByText := true, laidKinds := [.data, .data, .data, .sentinel, .sentinel], laidTests := true, laidLooks := .later }
def FnExactNumberInUptoCardSaid : Prop := Claim7.holds Tryd.pinned (.plain (OpenSpec.upto fnExactNumberInSpec)) fnExactNumberInUptoCard

/-- THE SECOND FORM's CARD OF 'laws.FnExactRecText'. -/
def fnExactRecTextUptoCard : Claim7 := { stood := { row := fnExactRecTextUptoRow, standIns := [], harness := (true, "5939915bc0e197e39c1c5478fb78f7f81becd9063b1701f822a381010f52ff36"), looks := true }, kinds := [], alts := [], laidByText := true, laidKinds := [.data, .data, .data], laidTests := true, laidLooks := .later }
def FnExactRecTextUptoCardSaid : Prop := Claim7.holds Tryd.pinned (.plain (OpenSpec.upto fnExactRecTextSpec)) fnExactRecTextUptoCard

/-- THE SECOND FORM's CARD OF 'laws.FnExactReadOps'. -/
def fnExactReadOpsUptoCard : Claim7 := { stood := { row := fnExactReadOpsUptoRow, standIns := [], harness := (true, "5939915bc0e197e39c1c5478fb78f7f81becd9063b1701f822a381010f52ff36"), looks := true }, kinds := [], alts := [], laidByText := true, laidKinds := [.data, .data, .data, .data, .sentinel, .sentinel, .pinned], laidTests := true, laidLooks := .later }
def FnExactReadOpsUptoCardSaid : Prop := Claim7.holds Tryd.pinned (.plain (OpenSpec.upto fnExactReadOpsSpec)) fnExactReadOpsUptoCard
end Rows
end Go.Proofs.YtpiheobpobclgaaDoor
