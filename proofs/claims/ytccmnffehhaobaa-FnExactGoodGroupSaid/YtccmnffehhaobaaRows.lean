/-
  No cell of these rows narrows 'for every input' (looked for: loops, veiled, ifaces, maps, wideKeys, modest, calm, conditions, laid).
  DERIVED. THE GIVEN ROWS OF THIS SEAT. 12 by the template 'for every input the law returns true; each argument reads behind the call as it read before'; 0 by the template 'total and deterministic' (their statements: YtccmnffehhaobaaTotals.lean).
  GIVEN WITH THE SEED: the statements are not yours to turn. If you find one false, say at which input.
  Laid BY PROGRAM, IN A SANDBOX (cutbox-rows.mjs): the forced cells as the released guide's own fill.sh prints them over the translation aa36a84085a9842d… (all of the seat's roots in one cut). By AI agents, Wed Nov 11 2026. No macro, syntax, notation, axiom, sorry.
-/
import Derived.Test.YtccmnffehhaobaaChecked
import GoSem.Claim
import GoSem.ClaimJoined
import GoSem.ClaimMapViews
import Derived.JoinedTies
import Derived.KernelRfl
namespace Go.Proofs.Ytccmnffehhaobaa
/- THE CELL 'sum', in the pinned program and in every row, IS THE sha256 OF THE DUMP (.gsa) THAT YtccmnffehhaobaaProg.lean LOADS. Nothing in Lean hashes anything: it is a label: what it is worth is what the hold of that sum in a sandbox is worth. -/
noncomputable def Try.pinned : Pinned := { name := "ytccmnffehhaobaa", sum := "aa36a84085a9842ddb9908bd0384a2b08544ba2fc23ed8a963e5044a60f12b15", checked := Try.checked }
namespace Rows
def none {H : Type} : Left H := { results := [], args := [] }

/-- 'laws.FnExactCellAt': WHATEVER THE INPUT: true; the input reads as it did. -/
def fnExactCellAtSpec : ChangeSpec := { name := "fnExactCellAt", fn := fun _ => fun
  | [d1, d2, d3] => { results := [.lit (.bool true)], args := [d1, d2, d3] }
  | _ => none }
def fnExactCellAtRow : OpenClaim := { program := "ytccmnffehhaobaa", sum := "aa36a84085a9842ddb9908bd0384a2b08544ba2fc23ed8a963e5044a60f12b15", func := "loop.example/g00850/laws.FnExactCellAt", spec := "fnExactCellAt", inPlace := ["internal/bytealg.IndexByteString"], unfollowed := true, recurses := true, apart := false }
def FnExactCellAtSaid : Prop := fnExactCellAtRow.holds Try.pinned (OpenSpec.ofChange fnExactCellAtSpec)

/-- ITS FALSE NEIGHBOUR: 'it returns false'. Refute it at one input. -/
def fnExactCellAtWrong : ChangeSpec := { name := "fnExactCellAt", fn := fun _ => fun
  | [d1, d2, d3] => { results := [.lit (.bool false)], args := [d1, d2, d3] }
  | _ => none }
def FnExactCellAtWrongFalsely : Prop := fnExactCellAtRow.holds Try.pinned (OpenSpec.ofChange fnExactCellAtWrong)

/-- 'laws.FnExactTrimCells': WHATEVER THE INPUT: true; the input reads as it did. -/
def fnExactTrimCellsSpec : ChangeSpec := { name := "fnExactTrimCells", fn := fun _ => fun
  | [d1, d2] => { results := [.lit (.bool true)], args := [d1, d2] }
  | _ => none }
def fnExactTrimCellsRow : OpenClaim := { program := "ytccmnffehhaobaa", sum := "aa36a84085a9842ddb9908bd0384a2b08544ba2fc23ed8a963e5044a60f12b15", func := "loop.example/g00850/laws.FnExactTrimCells", spec := "fnExactTrimCells", inPlace := ["internal/bytealg.IndexByteString"], apart := false }
def FnExactTrimCellsSaid : Prop := fnExactTrimCellsRow.holds Try.pinned (OpenSpec.ofChange fnExactTrimCellsSpec)

/-- ITS FALSE NEIGHBOUR: 'it returns false'. Refute it at one input. -/
def fnExactTrimCellsWrong : ChangeSpec := { name := "fnExactTrimCells", fn := fun _ => fun
  | [d1, d2] => { results := [.lit (.bool false)], args := [d1, d2] }
  | _ => none }
def FnExactTrimCellsWrongFalsely : Prop := fnExactTrimCellsRow.holds Try.pinned (OpenSpec.ofChange fnExactTrimCellsWrong)

/-- 'laws.FnExactCellsAt': WHATEVER THE INPUT: true; the input reads as it did. -/
def fnExactCellsAtSpec : ChangeSpec := { name := "fnExactCellsAt", fn := fun _ => fun
  | [d1, d2] => { results := [.lit (.bool true)], args := [d1, d2] }
  | _ => none }
def fnExactCellsAtRow : OpenClaim := { program := "ytccmnffehhaobaa", sum := "aa36a84085a9842ddb9908bd0384a2b08544ba2fc23ed8a963e5044a60f12b15", func := "loop.example/g00850/laws.FnExactCellsAt", spec := "fnExactCellsAt", inPlace := ["internal/bytealg.IndexByteString"], unfollowed := true, recurses := true, apart := false }
def FnExactCellsAtSaid : Prop := fnExactCellsAtRow.holds Try.pinned (OpenSpec.ofChange fnExactCellsAtSpec)

/-- ITS FALSE NEIGHBOUR: 'it returns false'. Refute it at one input. -/
def fnExactCellsAtWrong : ChangeSpec := { name := "fnExactCellsAt", fn := fun _ => fun
  | [d1, d2] => { results := [.lit (.bool false)], args := [d1, d2] }
  | _ => none }
def FnExactCellsAtWrongFalsely : Prop := fnExactCellsAtRow.holds Try.pinned (OpenSpec.ofChange fnExactCellsAtWrong)

/-- 'laws.FnExactKeysOf': WHATEVER THE INPUT: true; the input reads as it did. -/
def fnExactKeysOfSpec : ChangeSpec := { name := "fnExactKeysOf", fn := fun _ => fun
  | [d] => { results := [.lit (.bool true)], args := [d] }
  | _ => none }
def fnExactKeysOfRow : OpenClaim := { program := "ytccmnffehhaobaa", sum := "aa36a84085a9842ddb9908bd0384a2b08544ba2fc23ed8a963e5044a60f12b15", func := "loop.example/g00850/laws.FnExactKeysOf", spec := "fnExactKeysOf", inPlace := ["internal/bytealg.IndexByteString"], unfollowed := true, recurses := true, apart := false }
def FnExactKeysOfSaid : Prop := fnExactKeysOfRow.holds Try.pinned (OpenSpec.ofChange fnExactKeysOfSpec)

/-- ITS FALSE NEIGHBOUR: 'it returns false'. Refute it at one input. -/
def fnExactKeysOfWrong : ChangeSpec := { name := "fnExactKeysOf", fn := fun _ => fun
  | [d] => { results := [.lit (.bool false)], args := [d] }
  | _ => none }
def FnExactKeysOfWrongFalsely : Prop := fnExactKeysOfRow.holds Try.pinned (OpenSpec.ofChange fnExactKeysOfWrong)

/-- 'laws.FnExactPutRows': WHATEVER THE INPUT: true; the input reads as it did. -/
def fnExactPutRowsSpec : ChangeSpec := { name := "fnExactPutRows", fn := fun _ => fun
  | [d1, d2] => { results := [.lit (.bool true)], args := [d1, d2] }
  | _ => none }
def fnExactPutRowsRow : OpenClaim := { program := "ytccmnffehhaobaa", sum := "aa36a84085a9842ddb9908bd0384a2b08544ba2fc23ed8a963e5044a60f12b15", func := "loop.example/g00850/laws.FnExactPutRows", spec := "fnExactPutRows", inPlace := ["internal/bytealg.IndexByteString", "slices.overlaps[loop.example/g00850/impl.Write]"], unfollowed := true, recurses := true, apart := false }
def FnExactPutRowsSaid : Prop := fnExactPutRowsRow.holds Try.pinned (OpenSpec.ofChange fnExactPutRowsSpec)

/-- ITS FALSE NEIGHBOUR: 'it returns false'. Refute it at one input. -/
def fnExactPutRowsWrong : ChangeSpec := { name := "fnExactPutRows", fn := fun _ => fun
  | [d1, d2] => { results := [.lit (.bool false)], args := [d1, d2] }
  | _ => none }
def FnExactPutRowsWrongFalsely : Prop := fnExactPutRowsRow.holds Try.pinned (OpenSpec.ofChange fnExactPutRowsWrong)

/-- 'laws.FnExactPutCells': WHATEVER THE INPUT: true; the input reads as it did. -/
def fnExactPutCellsSpec : ChangeSpec := { name := "fnExactPutCells", fn := fun _ => fun
  | [d1, d2, d3] => { results := [.lit (.bool true)], args := [d1, d2, d3] }
  | _ => none }
def fnExactPutCellsRow : OpenClaim := { program := "ytccmnffehhaobaa", sum := "aa36a84085a9842ddb9908bd0384a2b08544ba2fc23ed8a963e5044a60f12b15", func := "loop.example/g00850/laws.FnExactPutCells", spec := "fnExactPutCells", inPlace := ["internal/bytealg.IndexByteString", "slices.overlaps[loop.example/g00850/impl.Cell]"], unfollowed := true, recurses := true, apart := false }
def FnExactPutCellsSaid : Prop := fnExactPutCellsRow.holds Try.pinned (OpenSpec.ofChange fnExactPutCellsSpec)

/-- ITS FALSE NEIGHBOUR: 'it returns false'. Refute it at one input. -/
def fnExactPutCellsWrong : ChangeSpec := { name := "fnExactPutCells", fn := fun _ => fun
  | [d1, d2, d3] => { results := [.lit (.bool false)], args := [d1, d2, d3] }
  | _ => none }
def FnExactPutCellsWrongFalsely : Prop := fnExactPutCellsRow.holds Try.pinned (OpenSpec.ofChange fnExactPutCellsWrong)

/-- 'laws.FnExactKeysWritten': WHATEVER THE INPUT: true; the input reads as it did. -/
def fnExactKeysWrittenSpec : ChangeSpec := { name := "fnExactKeysWritten", fn := fun _ => fun
  | [d] => { results := [.lit (.bool true)], args := [d] }
  | _ => none }
def fnExactKeysWrittenRow : OpenClaim := { program := "ytccmnffehhaobaa", sum := "aa36a84085a9842ddb9908bd0384a2b08544ba2fc23ed8a963e5044a60f12b15", func := "loop.example/g00850/laws.FnExactKeysWritten", spec := "fnExactKeysWritten", inPlace := ["internal/bytealg.IndexByteString"], unfollowed := true, recurses := true, apart := false }
def FnExactKeysWrittenSaid : Prop := fnExactKeysWrittenRow.holds Try.pinned (OpenSpec.ofChange fnExactKeysWrittenSpec)

/-- ITS FALSE NEIGHBOUR: 'it returns false'. Refute it at one input. -/
def fnExactKeysWrittenWrong : ChangeSpec := { name := "fnExactKeysWritten", fn := fun _ => fun
  | [d] => { results := [.lit (.bool false)], args := [d] }
  | _ => none }
def FnExactKeysWrittenWrongFalsely : Prop := fnExactKeysWrittenRow.holds Try.pinned (OpenSpec.ofChange fnExactKeysWrittenWrong)

/-- 'laws.FnExactReadRec': WHATEVER THE INPUT: true; the input reads as it did. -/
def fnExactReadRecSpec : ChangeSpec := { name := "fnExactReadRec", fn := fun _ => fun
  | [d] => { results := [.lit (.bool true)], args := [d] }
  | _ => none }
def fnExactReadRecRow : OpenClaim := { program := "ytccmnffehhaobaa", sum := "aa36a84085a9842ddb9908bd0384a2b08544ba2fc23ed8a963e5044a60f12b15", func := "loop.example/g00850/laws.FnExactReadRec", spec := "fnExactReadRec", inPlace := ["internal/bytealg.IndexByteString"], unfollowed := true, recurses := true, apart := false }
def FnExactReadRecSaid : Prop := fnExactReadRecRow.holds Try.pinned (OpenSpec.ofChange fnExactReadRecSpec)

/-- ITS FALSE NEIGHBOUR: 'it returns false'. Refute it at one input. -/
def fnExactReadRecWrong : ChangeSpec := { name := "fnExactReadRec", fn := fun _ => fun
  | [d] => { results := [.lit (.bool false)], args := [d] }
  | _ => none }
def FnExactReadRecWrongFalsely : Prop := fnExactReadRecRow.holds Try.pinned (OpenSpec.ofChange fnExactReadRecWrong)

/-- 'laws.FnExactGoodGroup': WHATEVER THE INPUT: true; the input reads as it did. -/
def fnExactGoodGroupSpec : ChangeSpec := { name := "fnExactGoodGroup", fn := fun _ => fun
  | [d] => { results := [.lit (.bool true)], args := [d] }
  | _ => none }
def fnExactGoodGroupRow : OpenClaim := { program := "ytccmnffehhaobaa", sum := "aa36a84085a9842ddb9908bd0384a2b08544ba2fc23ed8a963e5044a60f12b15", func := "loop.example/g00850/laws.FnExactGoodGroup", spec := "fnExactGoodGroup", inPlace := ["internal/bytealg.IndexByteString"], unfollowed := true, recurses := true, apart := false }
def FnExactGoodGroupSaid : Prop := fnExactGoodGroupRow.holds Try.pinned (OpenSpec.ofChange fnExactGoodGroupSpec)

/-- ITS FALSE NEIGHBOUR: 'it returns false'. Refute it at one input. -/
def fnExactGoodGroupWrong : ChangeSpec := { name := "fnExactGoodGroup", fn := fun _ => fun
  | [d] => { results := [.lit (.bool false)], args := [d] }
  | _ => none }
def FnExactGoodGroupWrongFalsely : Prop := fnExactGoodGroupRow.holds Try.pinned (OpenSpec.ofChange fnExactGoodGroupWrong)

/-- 'laws.FnExactIsSafe': WHATEVER THE INPUT: true; the input reads as it did. -/
def fnExactIsSafeSpec : ChangeSpec := { name := "fnExactIsSafe", fn := fun _ => fun
  | [d] => { results := [.lit (.bool true)], args := [d] }
  | _ => none }
def fnExactIsSafeRow : OpenClaim := { program := "ytccmnffehhaobaa", sum := "aa36a84085a9842ddb9908bd0384a2b08544ba2fc23ed8a963e5044a60f12b15", func := "loop.example/g00850/laws.FnExactIsSafe", spec := "fnExactIsSafe", inPlace := ["internal/bytealg.IndexByteString"], unfollowed := true, recurses := true, apart := false }
def FnExactIsSafeSaid : Prop := fnExactIsSafeRow.holds Try.pinned (OpenSpec.ofChange fnExactIsSafeSpec)

/-- ITS FALSE NEIGHBOUR: 'it returns false'. Refute it at one input. -/
def fnExactIsSafeWrong : ChangeSpec := { name := "fnExactIsSafe", fn := fun _ => fun
  | [d] => { results := [.lit (.bool false)], args := [d] }
  | _ => none }
def FnExactIsSafeWrongFalsely : Prop := fnExactIsSafeRow.holds Try.pinned (OpenSpec.ofChange fnExactIsSafeWrong)

/-- 'laws.FnExactSureLog': WHATEVER THE INPUT: true; the input reads as it did. -/
def fnExactSureLogSpec : ChangeSpec := { name := "fnExactSureLog", fn := fun _ => fun
  | [d] => { results := [.lit (.bool true)], args := [d] }
  | _ => none }
def fnExactSureLogRow : OpenClaim := { program := "ytccmnffehhaobaa", sum := "aa36a84085a9842ddb9908bd0384a2b08544ba2fc23ed8a963e5044a60f12b15", func := "loop.example/g00850/laws.FnExactSureLog", spec := "fnExactSureLog", inPlace := ["internal/bytealg.IndexByteString"], unfollowed := true, recurses := true, apart := false }
def FnExactSureLogSaid : Prop := fnExactSureLogRow.holds Try.pinned (OpenSpec.ofChange fnExactSureLogSpec)

/-- ITS FALSE NEIGHBOUR: 'it returns false'. Refute it at one input. -/
def fnExactSureLogWrong : ChangeSpec := { name := "fnExactSureLog", fn := fun _ => fun
  | [d] => { results := [.lit (.bool false)], args := [d] }
  | _ => none }
def FnExactSureLogWrongFalsely : Prop := fnExactSureLogRow.holds Try.pinned (OpenSpec.ofChange fnExactSureLogWrong)

/-- 'laws.FnExactNewGroup': WHATEVER THE INPUT: true; the input reads as it did. -/
def fnExactNewGroupSpec : ChangeSpec := { name := "fnExactNewGroup", fn := fun _ => fun
  | [d] => { results := [.lit (.bool true)], args := [d] }
  | _ => none }
def fnExactNewGroupRow : OpenClaim := { program := "ytccmnffehhaobaa", sum := "aa36a84085a9842ddb9908bd0384a2b08544ba2fc23ed8a963e5044a60f12b15", func := "loop.example/g00850/laws.FnExactNewGroup", spec := "fnExactNewGroup", apart := false }
def FnExactNewGroupSaid : Prop := fnExactNewGroupRow.holds Try.pinned (OpenSpec.ofChange fnExactNewGroupSpec)

/-- ITS FALSE NEIGHBOUR: 'it returns false'. Refute it at one input. -/
def fnExactNewGroupWrong : ChangeSpec := { name := "fnExactNewGroup", fn := fun _ => fun
  | [d] => { results := [.lit (.bool false)], args := [d] }
  | _ => none }
def FnExactNewGroupWrongFalsely : Prop := fnExactNewGroupRow.holds Try.pinned (OpenSpec.ofChange fnExactNewGroupWrong)

/- THE SECOND FORM. 'bulk': how many values and letters a reading holds, each counted each time it is reached (what is shared counts as often as it is met; a slice's spare places count too). A statement '..UptoSaid' is the law's where the arguments, and the package variables that the reading takes, are together of bulk at most 1048576: NARROWER than '..Said'. Prove '..Said' where nothing that the law and all that it calls make is longer than what came in: it says more and counts as full. Else prove '..UptoSaid'. A law counts once. -/
mutual
def uptoBulk {H : Type} : DataW H → Nat
  | .lit (.string bytes) => bytes.length + 1
  | .lit _ => 1
  | .nil => 1
  | .ptr d => uptoBulk d + 1
  | .slice elems spare => uptoBulkAll elems + uptoBulkAll spare + 1
  | .agg parts => uptoBulkAll parts + 1
  | .iface _ d => uptoBulk d + 1
  | .map entries => uptoBulkEntries entries + 1
  | .held _ => 1
def uptoBulkAll {H : Type} : List (DataW H) → Nat
  | [] => 0
  | d :: r => uptoBulk d + uptoBulkAll r
def uptoBulkEntries {H : Type} : List (Lit × DataW H) → Nat
  | [] => 0
  | x :: r => uptoBulkEntry x + uptoBulkEntries r
def uptoBulkEntry {H : Type} : Lit × DataW H → Nat
  | (.string bytes, d) => bytes.length + uptoBulk d + 1
  | (_, d) => uptoBulk d + 1
 end
def uptoSmall : (H : Type) → List (DataW H) → Bool := fun _ ds => decide (uptoBulkAll ds ≤ 1048576)
def OpenSpec.upto (s : _root_.Go.ChangeSpec) : _root_.Go.OpenSpec := { _root_.Go.OpenSpec.ofChange s with cond := some uptoSmall }

/-- 'laws.FnExactCellAt', WHERE WHAT IT READS IS OF BULK AT MOST 1048576: true; the input reads as it did. -/
def fnExactCellAtUptoRow : OpenClaim := { program := "ytccmnffehhaobaa", sum := "aa36a84085a9842ddb9908bd0384a2b08544ba2fc23ed8a963e5044a60f12b15", func := "loop.example/g00850/laws.FnExactCellAt", spec := "fnExactCellAt", inPlace := ["internal/bytealg.IndexByteString"], unfollowed := true, recurses := true, apart := false, narrowed := true }
def FnExactCellAtUptoSaid : Prop := fnExactCellAtUptoRow.holds Try.pinned (OpenSpec.upto fnExactCellAtSpec)

/-- 'laws.FnExactTrimCells', WHERE WHAT IT READS IS OF BULK AT MOST 1048576: true; the input reads as it did. -/
def fnExactTrimCellsUptoRow : OpenClaim := { program := "ytccmnffehhaobaa", sum := "aa36a84085a9842ddb9908bd0384a2b08544ba2fc23ed8a963e5044a60f12b15", func := "loop.example/g00850/laws.FnExactTrimCells", spec := "fnExactTrimCells", inPlace := ["internal/bytealg.IndexByteString"], apart := false, narrowed := true }
def FnExactTrimCellsUptoSaid : Prop := fnExactTrimCellsUptoRow.holds Try.pinned (OpenSpec.upto fnExactTrimCellsSpec)

/-- 'laws.FnExactCellsAt', WHERE WHAT IT READS IS OF BULK AT MOST 1048576: true; the input reads as it did. -/
def fnExactCellsAtUptoRow : OpenClaim := { program := "ytccmnffehhaobaa", sum := "aa36a84085a9842ddb9908bd0384a2b08544ba2fc23ed8a963e5044a60f12b15", func := "loop.example/g00850/laws.FnExactCellsAt", spec := "fnExactCellsAt", inPlace := ["internal/bytealg.IndexByteString"], unfollowed := true, recurses := true, apart := false, narrowed := true }
def FnExactCellsAtUptoSaid : Prop := fnExactCellsAtUptoRow.holds Try.pinned (OpenSpec.upto fnExactCellsAtSpec)

/-- 'laws.FnExactKeysOf', WHERE WHAT IT READS IS OF BULK AT MOST 1048576: true; the input reads as it did. -/
def fnExactKeysOfUptoRow : OpenClaim := { program := "ytccmnffehhaobaa", sum := "aa36a84085a9842ddb9908bd0384a2b08544ba2fc23ed8a963e5044a60f12b15", func := "loop.example/g00850/laws.FnExactKeysOf", spec := "fnExactKeysOf", inPlace := ["internal/bytealg.IndexByteString"], unfollowed := true, recurses := true, apart := false, narrowed := true }
def FnExactKeysOfUptoSaid : Prop := fnExactKeysOfUptoRow.holds Try.pinned (OpenSpec.upto fnExactKeysOfSpec)

/-- 'laws.FnExactPutRows', WHERE WHAT IT READS IS OF BULK AT MOST 1048576: true; the input reads as it did. -/
def fnExactPutRowsUptoRow : OpenClaim := { program := "ytccmnffehhaobaa", sum := "aa36a84085a9842ddb9908bd0384a2b08544ba2fc23ed8a963e5044a60f12b15", func := "loop.example/g00850/laws.FnExactPutRows", spec := "fnExactPutRows", inPlace := ["internal/bytealg.IndexByteString", "slices.overlaps[loop.example/g00850/impl.Write]"], unfollowed := true, recurses := true, apart := false, narrowed := true }
def FnExactPutRowsUptoSaid : Prop := fnExactPutRowsUptoRow.holds Try.pinned (OpenSpec.upto fnExactPutRowsSpec)

/-- 'laws.FnExactPutCells', WHERE WHAT IT READS IS OF BULK AT MOST 1048576: true; the input reads as it did. -/
def fnExactPutCellsUptoRow : OpenClaim := { program := "ytccmnffehhaobaa", sum := "aa36a84085a9842ddb9908bd0384a2b08544ba2fc23ed8a963e5044a60f12b15", func := "loop.example/g00850/laws.FnExactPutCells", spec := "fnExactPutCells", inPlace := ["internal/bytealg.IndexByteString", "slices.overlaps[loop.example/g00850/impl.Cell]"], unfollowed := true, recurses := true, apart := false, narrowed := true }
def FnExactPutCellsUptoSaid : Prop := fnExactPutCellsUptoRow.holds Try.pinned (OpenSpec.upto fnExactPutCellsSpec)

/-- 'laws.FnExactKeysWritten', WHERE WHAT IT READS IS OF BULK AT MOST 1048576: true; the input reads as it did. -/
def fnExactKeysWrittenUptoRow : OpenClaim := { program := "ytccmnffehhaobaa", sum := "aa36a84085a9842ddb9908bd0384a2b08544ba2fc23ed8a963e5044a60f12b15", func := "loop.example/g00850/laws.FnExactKeysWritten", spec := "fnExactKeysWritten", inPlace := ["internal/bytealg.IndexByteString"], unfollowed := true, recurses := true, apart := false, narrowed := true }
def FnExactKeysWrittenUptoSaid : Prop := fnExactKeysWrittenUptoRow.holds Try.pinned (OpenSpec.upto fnExactKeysWrittenSpec)

/-- 'laws.FnExactReadRec', WHERE WHAT IT READS IS OF BULK AT MOST 1048576: true; the input reads as it did. -/
def fnExactReadRecUptoRow : OpenClaim := { program := "ytccmnffehhaobaa", sum := "aa36a84085a9842ddb9908bd0384a2b08544ba2fc23ed8a963e5044a60f12b15", func := "loop.example/g00850/laws.FnExactReadRec", spec := "fnExactReadRec", inPlace := ["internal/bytealg.IndexByteString"], unfollowed := true, recurses := true, apart := false, narrowed := true }
def FnExactReadRecUptoSaid : Prop := fnExactReadRecUptoRow.holds Try.pinned (OpenSpec.upto fnExactReadRecSpec)

/-- 'laws.FnExactGoodGroup', WHERE WHAT IT READS IS OF BULK AT MOST 1048576: true; the input reads as it did. -/
def fnExactGoodGroupUptoRow : OpenClaim := { program := "ytccmnffehhaobaa", sum := "aa36a84085a9842ddb9908bd0384a2b08544ba2fc23ed8a963e5044a60f12b15", func := "loop.example/g00850/laws.FnExactGoodGroup", spec := "fnExactGoodGroup", inPlace := ["internal/bytealg.IndexByteString"], unfollowed := true, recurses := true, apart := false, narrowed := true }
def FnExactGoodGroupUptoSaid : Prop := fnExactGoodGroupUptoRow.holds Try.pinned (OpenSpec.upto fnExactGoodGroupSpec)

/-- 'laws.FnExactIsSafe', WHERE WHAT IT READS IS OF BULK AT MOST 1048576: true; the input reads as it did. -/
def fnExactIsSafeUptoRow : OpenClaim := { program := "ytccmnffehhaobaa", sum := "aa36a84085a9842ddb9908bd0384a2b08544ba2fc23ed8a963e5044a60f12b15", func := "loop.example/g00850/laws.FnExactIsSafe", spec := "fnExactIsSafe", inPlace := ["internal/bytealg.IndexByteString"], unfollowed := true, recurses := true, apart := false, narrowed := true }
def FnExactIsSafeUptoSaid : Prop := fnExactIsSafeUptoRow.holds Try.pinned (OpenSpec.upto fnExactIsSafeSpec)

/-- 'laws.FnExactSureLog', WHERE WHAT IT READS IS OF BULK AT MOST 1048576: true; the input reads as it did. -/
def fnExactSureLogUptoRow : OpenClaim := { program := "ytccmnffehhaobaa", sum := "aa36a84085a9842ddb9908bd0384a2b08544ba2fc23ed8a963e5044a60f12b15", func := "loop.example/g00850/laws.FnExactSureLog", spec := "fnExactSureLog", inPlace := ["internal/bytealg.IndexByteString"], unfollowed := true, recurses := true, apart := false, narrowed := true }
def FnExactSureLogUptoSaid : Prop := fnExactSureLogUptoRow.holds Try.pinned (OpenSpec.upto fnExactSureLogSpec)

/-- 'laws.FnExactNewGroup', WHERE WHAT IT READS IS OF BULK AT MOST 1048576: true; the input reads as it did. -/
def fnExactNewGroupUptoRow : OpenClaim := { program := "ytccmnffehhaobaa", sum := "aa36a84085a9842ddb9908bd0384a2b08544ba2fc23ed8a963e5044a60f12b15", func := "loop.example/g00850/laws.FnExactNewGroup", spec := "fnExactNewGroup", apart := false, narrowed := true }
def FnExactNewGroupUptoSaid : Prop := fnExactNewGroupUptoRow.holds Try.pinned (OpenSpec.upto fnExactNewGroupSpec)

end Rows
end Go.Proofs.Ytccmnffehhaobaa
