/-
  No cell of these rows narrows 'for every input' (looked for: loops, veiled, ifaces, maps, wideKeys, modest, calm, conditions, laid).
  DERIVED. THE GIVEN ROWS OF THIS SEAT. 12 by the template 'for every input the law returns true; each argument reads behind the call as it read before'; 0 by the template 'total and deterministic' (their statements: YtekgackednpdgaaTotals.lean).
  GIVEN WITH THE SEED: the statements are not yours to turn. If you find one false, say at which input.
  Laid BY PROGRAM, IN A SANDBOX (cutbox-rows.mjs): the forced cells as the released guide's own fill.sh prints them over the translation eea60dd4b3302b2f… (all of the seat's roots in one cut). By AI agents, Wed Nov 11 2026. No macro, syntax, notation, axiom, sorry.
-/
import Derived.Test.YtekgackednpdgaaChecked
import GoSem.Claim
import GoSem.ClaimJoined
import GoSem.ClaimMapViews
import Derived.JoinedTies
import Derived.KernelRfl
namespace Go.Proofs.Ytekgackednpdgaa
/- THE CELL 'sum', in the pinned program and in every row, IS THE sha256 OF THE DUMP (.gsa) THAT YtekgackednpdgaaProg.lean LOADS. Nothing in Lean hashes anything: it is a label: what it is worth is what the hold of that sum in a sandbox is worth. -/
noncomputable def Try.pinned : Pinned := { name := "ytekgackednpdgaa", sum := "eea60dd4b3302b2f76258ec72eec721d1e0eab18a6bb3d24828dd84ac747857d", checked := Try.checked }
namespace Rows
def none {H : Type} : Left H := { results := [], args := [] }

/-- 'laws.FnExactGoodCells': WHATEVER THE INPUT: true; the input reads as it did. -/
def fnExactGoodCellsSpec : ChangeSpec := { name := "fnExactGoodCells", fn := fun _ => fun
  | [d] => { results := [.lit (.bool true)], args := [d] }
  | _ => none }
def fnExactGoodCellsRow : OpenClaim := { program := "ytekgackednpdgaa", sum := "eea60dd4b3302b2f76258ec72eec721d1e0eab18a6bb3d24828dd84ac747857d", func := "loop.example/g00850/laws.FnExactGoodCells", spec := "fnExactGoodCells", inPlace := ["internal/bytealg.IndexByteString"], apart := false }
def FnExactGoodCellsSaid : Prop := fnExactGoodCellsRow.holds Try.pinned (OpenSpec.ofChange fnExactGoodCellsSpec)

/-- ITS FALSE NEIGHBOUR: 'it returns false'. Refute it at one input. -/
def fnExactGoodCellsWrong : ChangeSpec := { name := "fnExactGoodCells", fn := fun _ => fun
  | [d] => { results := [.lit (.bool false)], args := [d] }
  | _ => none }
def FnExactGoodCellsWrongFalsely : Prop := fnExactGoodCellsRow.holds Try.pinned (OpenSpec.ofChange fnExactGoodCellsWrong)

/-- 'laws.FnExactNewNet': WHATEVER THE INPUT: true; the input reads as it did. -/
def fnExactNewNetSpec : ChangeSpec := { name := "fnExactNewNet", fn := fun _ => fun
  | [d1, d2] => { results := [.lit (.bool true)], args := [d1, d2] }
  | _ => none }
def fnExactNewNetRow : OpenClaim := { program := "ytekgackednpdgaa", sum := "eea60dd4b3302b2f76258ec72eec721d1e0eab18a6bb3d24828dd84ac747857d", func := "loop.example/g00850/laws.FnExactNewNet", spec := "fnExactNewNet", unfollowed := true, recurses := true, apart := false }
def FnExactNewNetSaid : Prop := fnExactNewNetRow.holds Try.pinned (OpenSpec.ofChange fnExactNewNetSpec)

/-- ITS FALSE NEIGHBOUR: 'it returns false'. Refute it at one input. -/
def fnExactNewNetWrong : ChangeSpec := { name := "fnExactNewNet", fn := fun _ => fun
  | [d1, d2] => { results := [.lit (.bool false)], args := [d1, d2] }
  | _ => none }
def FnExactNewNetWrongFalsely : Prop := fnExactNewNetRow.holds Try.pinned (OpenSpec.ofChange fnExactNewNetWrong)

/-- 'laws.FnExactCutDisk': WHATEVER THE INPUT: true; the input reads as it did. -/
def fnExactCutDiskSpec : ChangeSpec := { name := "fnExactCutDisk", fn := fun _ => fun
  | [d1, d2] => { results := [.lit (.bool true)], args := [d1, d2] }
  | _ => none }
def fnExactCutDiskRow : OpenClaim := { program := "ytekgackednpdgaa", sum := "eea60dd4b3302b2f76258ec72eec721d1e0eab18a6bb3d24828dd84ac747857d", func := "loop.example/g00850/laws.FnExactCutDisk", spec := "fnExactCutDisk", apart := false }
def FnExactCutDiskSaid : Prop := fnExactCutDiskRow.holds Try.pinned (OpenSpec.ofChange fnExactCutDiskSpec)

/-- ITS FALSE NEIGHBOUR: 'it returns false'. Refute it at one input. -/
def fnExactCutDiskWrong : ChangeSpec := { name := "fnExactCutDisk", fn := fun _ => fun
  | [d1, d2] => { results := [.lit (.bool false)], args := [d1, d2] }
  | _ => none }
def FnExactCutDiskWrongFalsely : Prop := fnExactCutDiskRow.holds Try.pinned (OpenSpec.ofChange fnExactCutDiskWrong)

/-- 'laws.FnExactFramesOn': WHATEVER THE INPUT: true; the input reads as it did. -/
def fnExactFramesOnSpec : ChangeSpec := { name := "fnExactFramesOn", fn := fun _ => fun
  | [d] => { results := [.lit (.bool true)], args := [d] }
  | _ => none }
def fnExactFramesOnRow : OpenClaim := { program := "ytekgackednpdgaa", sum := "eea60dd4b3302b2f76258ec72eec721d1e0eab18a6bb3d24828dd84ac747857d", func := "loop.example/g00850/laws.FnExactFramesOn", spec := "fnExactFramesOn", apart := false }
def FnExactFramesOnSaid : Prop := fnExactFramesOnRow.holds Try.pinned (OpenSpec.ofChange fnExactFramesOnSpec)

/-- ITS FALSE NEIGHBOUR: 'it returns false'. Refute it at one input. -/
def fnExactFramesOnWrong : ChangeSpec := { name := "fnExactFramesOn", fn := fun _ => fun
  | [d] => { results := [.lit (.bool false)], args := [d] }
  | _ => none }
def FnExactFramesOnWrongFalsely : Prop := fnExactFramesOnRow.holds Try.pinned (OpenSpec.ofChange fnExactFramesOnWrong)

/-- 'laws.FnExactGoodRec': WHATEVER THE INPUT: true; the input reads as it did. -/
def fnExactGoodRecSpec : ChangeSpec := { name := "fnExactGoodRec", fn := fun _ => fun
  | [d] => { results := [.lit (.bool true)], args := [d] }
  | _ => none }
def fnExactGoodRecRow : OpenClaim := { program := "ytekgackednpdgaa", sum := "eea60dd4b3302b2f76258ec72eec721d1e0eab18a6bb3d24828dd84ac747857d", func := "loop.example/g00850/laws.FnExactGoodRec", spec := "fnExactGoodRec", inPlace := ["internal/bytealg.IndexByteString"], unfollowed := true, recurses := true, apart := false }
def FnExactGoodRecSaid : Prop := fnExactGoodRecRow.holds Try.pinned (OpenSpec.ofChange fnExactGoodRecSpec)

/-- ITS FALSE NEIGHBOUR: 'it returns false'. Refute it at one input. -/
def fnExactGoodRecWrong : ChangeSpec := { name := "fnExactGoodRec", fn := fun _ => fun
  | [d] => { results := [.lit (.bool false)], args := [d] }
  | _ => none }
def FnExactGoodRecWrongFalsely : Prop := fnExactGoodRecRow.holds Try.pinned (OpenSpec.ofChange fnExactGoodRecWrong)

/-- 'laws.FnExactLastTime': WHATEVER THE INPUT: true; the input reads as it did. -/
def fnExactLastTimeSpec : ChangeSpec := { name := "fnExactLastTime", fn := fun _ => fun
  | [d1, d2] => { results := [.lit (.bool true)], args := [d1, d2] }
  | _ => none }
def fnExactLastTimeRow : OpenClaim := { program := "ytekgackednpdgaa", sum := "eea60dd4b3302b2f76258ec72eec721d1e0eab18a6bb3d24828dd84ac747857d", func := "loop.example/g00850/laws.FnExactLastTime", spec := "fnExactLastTime", inPlace := ["internal/bytealg.IndexByteString"], unfollowed := true, recurses := true, apart := false }
def FnExactLastTimeSaid : Prop := fnExactLastTimeRow.holds Try.pinned (OpenSpec.ofChange fnExactLastTimeSpec)

/-- ITS FALSE NEIGHBOUR: 'it returns false'. Refute it at one input. -/
def fnExactLastTimeWrong : ChangeSpec := { name := "fnExactLastTime", fn := fun _ => fun
  | [d1, d2] => { results := [.lit (.bool false)], args := [d1, d2] }
  | _ => none }
def FnExactLastTimeWrongFalsely : Prop := fnExactLastTimeRow.holds Try.pinned (OpenSpec.ofChange fnExactLastTimeWrong)

/-- 'laws.FnExactCellAt': WHATEVER THE INPUT: true; the input reads as it did. -/
def fnExactCellAtSpec : ChangeSpec := { name := "fnExactCellAt", fn := fun _ => fun
  | [d1, d2, d3] => { results := [.lit (.bool true)], args := [d1, d2, d3] }
  | _ => none }
def fnExactCellAtRow : OpenClaim := { program := "ytekgackednpdgaa", sum := "eea60dd4b3302b2f76258ec72eec721d1e0eab18a6bb3d24828dd84ac747857d", func := "loop.example/g00850/laws.FnExactCellAt", spec := "fnExactCellAt", inPlace := ["internal/bytealg.IndexByteString"], unfollowed := true, recurses := true, apart := false }
def FnExactCellAtSaid : Prop := fnExactCellAtRow.holds Try.pinned (OpenSpec.ofChange fnExactCellAtSpec)

/-- ITS FALSE NEIGHBOUR: 'it returns false'. Refute it at one input. -/
def fnExactCellAtWrong : ChangeSpec := { name := "fnExactCellAt", fn := fun _ => fun
  | [d1, d2, d3] => { results := [.lit (.bool false)], args := [d1, d2, d3] }
  | _ => none }
def FnExactCellAtWrongFalsely : Prop := fnExactCellAtRow.holds Try.pinned (OpenSpec.ofChange fnExactCellAtWrong)

/-- 'laws.FnExactTrimCells': WHATEVER THE INPUT: true; the input reads as it did. -/
def fnExactTrimCellsSpec : ChangeSpec := { name := "fnExactTrimCells", fn := fun _ => fun
  | [d1, d2] => { results := [.lit (.bool true)], args := [d1, d2] }
  | _ => none }
def fnExactTrimCellsRow : OpenClaim := { program := "ytekgackednpdgaa", sum := "eea60dd4b3302b2f76258ec72eec721d1e0eab18a6bb3d24828dd84ac747857d", func := "loop.example/g00850/laws.FnExactTrimCells", spec := "fnExactTrimCells", inPlace := ["internal/bytealg.IndexByteString"], apart := false }
def FnExactTrimCellsSaid : Prop := fnExactTrimCellsRow.holds Try.pinned (OpenSpec.ofChange fnExactTrimCellsSpec)

/-- ITS FALSE NEIGHBOUR: 'it returns false'. Refute it at one input. -/
def fnExactTrimCellsWrong : ChangeSpec := { name := "fnExactTrimCells", fn := fun _ => fun
  | [d1, d2] => { results := [.lit (.bool false)], args := [d1, d2] }
  | _ => none }
def FnExactTrimCellsWrongFalsely : Prop := fnExactTrimCellsRow.holds Try.pinned (OpenSpec.ofChange fnExactTrimCellsWrong)

/-- 'laws.FnExactNewGroup': WHATEVER THE INPUT: true; the input reads as it did. -/
def fnExactNewGroupSpec : ChangeSpec := { name := "fnExactNewGroup", fn := fun _ => fun
  | [d] => { results := [.lit (.bool true)], args := [d] }
  | _ => none }
def fnExactNewGroupRow : OpenClaim := { program := "ytekgackednpdgaa", sum := "eea60dd4b3302b2f76258ec72eec721d1e0eab18a6bb3d24828dd84ac747857d", func := "loop.example/g00850/laws.FnExactNewGroup", spec := "fnExactNewGroup", apart := false }
def FnExactNewGroupSaid : Prop := fnExactNewGroupRow.holds Try.pinned (OpenSpec.ofChange fnExactNewGroupSpec)

/-- ITS FALSE NEIGHBOUR: 'it returns false'. Refute it at one input. -/
def fnExactNewGroupWrong : ChangeSpec := { name := "fnExactNewGroup", fn := fun _ => fun
  | [d] => { results := [.lit (.bool false)], args := [d] }
  | _ => none }
def FnExactNewGroupWrongFalsely : Prop := fnExactNewGroupRow.holds Try.pinned (OpenSpec.ofChange fnExactNewGroupWrong)

/-- 'laws.FnExactCellsAt': WHATEVER THE INPUT: true; the input reads as it did. -/
def fnExactCellsAtSpec : ChangeSpec := { name := "fnExactCellsAt", fn := fun _ => fun
  | [d1, d2] => { results := [.lit (.bool true)], args := [d1, d2] }
  | _ => none }
def fnExactCellsAtRow : OpenClaim := { program := "ytekgackednpdgaa", sum := "eea60dd4b3302b2f76258ec72eec721d1e0eab18a6bb3d24828dd84ac747857d", func := "loop.example/g00850/laws.FnExactCellsAt", spec := "fnExactCellsAt", inPlace := ["internal/bytealg.IndexByteString"], unfollowed := true, recurses := true, apart := false }
def FnExactCellsAtSaid : Prop := fnExactCellsAtRow.holds Try.pinned (OpenSpec.ofChange fnExactCellsAtSpec)

/-- ITS FALSE NEIGHBOUR: 'it returns false'. Refute it at one input. -/
def fnExactCellsAtWrong : ChangeSpec := { name := "fnExactCellsAt", fn := fun _ => fun
  | [d1, d2] => { results := [.lit (.bool false)], args := [d1, d2] }
  | _ => none }
def FnExactCellsAtWrongFalsely : Prop := fnExactCellsAtRow.holds Try.pinned (OpenSpec.ofChange fnExactCellsAtWrong)

/-- 'laws.FnExactRecBytes': WHATEVER THE INPUT: true; the input reads as it did. -/
def fnExactRecBytesSpec : ChangeSpec := { name := "fnExactRecBytes", fn := fun _ => fun
  | [d] => { results := [.lit (.bool true)], args := [d] }
  | _ => none }
def fnExactRecBytesRow : OpenClaim := { program := "ytekgackednpdgaa", sum := "eea60dd4b3302b2f76258ec72eec721d1e0eab18a6bb3d24828dd84ac747857d", func := "loop.example/g00850/laws.FnExactRecBytes", spec := "fnExactRecBytes", inPlace := ["internal/bytealg.IndexByteString"], unfollowed := true, recurses := true, apart := false }
def FnExactRecBytesSaid : Prop := fnExactRecBytesRow.holds Try.pinned (OpenSpec.ofChange fnExactRecBytesSpec)

/-- ITS FALSE NEIGHBOUR: 'it returns false'. Refute it at one input. -/
def fnExactRecBytesWrong : ChangeSpec := { name := "fnExactRecBytes", fn := fun _ => fun
  | [d] => { results := [.lit (.bool false)], args := [d] }
  | _ => none }
def FnExactRecBytesWrongFalsely : Prop := fnExactRecBytesRow.holds Try.pinned (OpenSpec.ofChange fnExactRecBytesWrong)

/-- 'laws.FnExactNewPoll': WHATEVER THE INPUT: true; the input reads as it did. -/
def fnExactNewPollSpec : ChangeSpec := { name := "fnExactNewPoll", fn := fun _ => fun
  | [d1, d2] => { results := [.lit (.bool true)], args := [d1, d2] }
  | _ => none }
def fnExactNewPollRow : OpenClaim := { program := "ytekgackednpdgaa", sum := "eea60dd4b3302b2f76258ec72eec721d1e0eab18a6bb3d24828dd84ac747857d", func := "loop.example/g00850/laws.FnExactNewPoll", spec := "fnExactNewPoll", unfollowed := true, recurses := true, apart := false }
def FnExactNewPollSaid : Prop := fnExactNewPollRow.holds Try.pinned (OpenSpec.ofChange fnExactNewPollSpec)

/-- ITS FALSE NEIGHBOUR: 'it returns false'. Refute it at one input. -/
def fnExactNewPollWrong : ChangeSpec := { name := "fnExactNewPoll", fn := fun _ => fun
  | [d1, d2] => { results := [.lit (.bool false)], args := [d1, d2] }
  | _ => none }
def FnExactNewPollWrongFalsely : Prop := fnExactNewPollRow.holds Try.pinned (OpenSpec.ofChange fnExactNewPollWrong)

/- THE SECOND FORM. 'bulk': how many values and letters a reading holds, each counted each time it is reached (what is shared counts as often as it is met; a slice's spare places count too). A statement '..UptoSaid' is the law's where the arguments, and the package variables that the reading takes, are together of bulk at most 1048576: NARROWER than '..Said'. Prove '..Said' where nothing that the law and all that it calls make is longer than what came in: it says more and counts as full. Else prove '..UptoSaid'. A law counts once. -/
mutual
def uptoBulk {H : Type} : DataW H → Nat
  | .lit (.string bytes) => bytes.length + 1
  | .lit _ => 1
  | .nil => 1
  | .ptr d => uptoBulk d + 1
  | .slice elems spare => uptoBulkAll elems + uptoBulkAll spare + 1
  | .agg parts => uptoBulkAll parts + 1
  | .iface _ d => uptoBulk d + 1
  | .map entries => uptoBulkEntries entries + 1
  | .held _ => 1
def uptoBulkAll {H : Type} : List (DataW H) → Nat
  | [] => 0
  | d :: r => uptoBulk d + uptoBulkAll r
def uptoBulkEntries {H : Type} : List (Lit × DataW H) → Nat
  | [] => 0
  | x :: r => uptoBulkEntry x + uptoBulkEntries r
def uptoBulkEntry {H : Type} : Lit × DataW H → Nat
  | (.string bytes, d) => bytes.length + uptoBulk d + 1
  | (_, d) => uptoBulk d + 1
 end
def uptoSmall : (H : Type) → List (DataW H) → Bool := fun _ ds => decide (uptoBulkAll ds ≤ 1048576)
def OpenSpec.upto (s : _root_.Go.ChangeSpec) : _root_.Go.OpenSpec := { _root_.Go.OpenSpec.ofChange s with cond := some uptoSmall }

/-- 'laws.FnExactGoodCells', WHERE WHAT IT READS IS OF BULK AT MOST 1048576: true; the input reads as it did. -/
def fnExactGoodCellsUptoRow : OpenClaim := { program := "ytekgackednpdgaa", sum := "eea60dd4b3302b2f76258ec72eec721d1e0eab18a6bb3d24828dd84ac747857d", func := "loop.example/g00850/laws.FnExactGoodCells", spec := "fnExactGoodCells", inPlace := ["internal/bytealg.IndexByteString"], apart := false, narrowed := true }
def FnExactGoodCellsUptoSaid : Prop := fnExactGoodCellsUptoRow.holds Try.pinned (OpenSpec.upto fnExactGoodCellsSpec)

/-- 'laws.FnExactNewNet', WHERE WHAT IT READS IS OF BULK AT MOST 1048576: true; the input reads as it did. -/
def fnExactNewNetUptoRow : OpenClaim := { program := "ytekgackednpdgaa", sum := "eea60dd4b3302b2f76258ec72eec721d1e0eab18a6bb3d24828dd84ac747857d", func := "loop.example/g00850/laws.FnExactNewNet", spec := "fnExactNewNet", unfollowed := true, recurses := true, apart := false, narrowed := true }
def FnExactNewNetUptoSaid : Prop := fnExactNewNetUptoRow.holds Try.pinned (OpenSpec.upto fnExactNewNetSpec)

/-- 'laws.FnExactCutDisk', WHERE WHAT IT READS IS OF BULK AT MOST 1048576: true; the input reads as it did. -/
def fnExactCutDiskUptoRow : OpenClaim := { program := "ytekgackednpdgaa", sum := "eea60dd4b3302b2f76258ec72eec721d1e0eab18a6bb3d24828dd84ac747857d", func := "loop.example/g00850/laws.FnExactCutDisk", spec := "fnExactCutDisk", apart := false, narrowed := true }
def FnExactCutDiskUptoSaid : Prop := fnExactCutDiskUptoRow.holds Try.pinned (OpenSpec.upto fnExactCutDiskSpec)

/-- 'laws.FnExactFramesOn', WHERE WHAT IT READS IS OF BULK AT MOST 1048576: true; the input reads as it did. -/
def fnExactFramesOnUptoRow : OpenClaim := { program := "ytekgackednpdgaa", sum := "eea60dd4b3302b2f76258ec72eec721d1e0eab18a6bb3d24828dd84ac747857d", func := "loop.example/g00850/laws.FnExactFramesOn", spec := "fnExactFramesOn", apart := false, narrowed := true }
def FnExactFramesOnUptoSaid : Prop := fnExactFramesOnUptoRow.holds Try.pinned (OpenSpec.upto fnExactFramesOnSpec)

/-- 'laws.FnExactGoodRec', WHERE WHAT IT READS IS OF BULK AT MOST 1048576: true; the input reads as it did. -/
def fnExactGoodRecUptoRow : OpenClaim := { program := "ytekgackednpdgaa", sum := "eea60dd4b3302b2f76258ec72eec721d1e0eab18a6bb3d24828dd84ac747857d", func := "loop.example/g00850/laws.FnExactGoodRec", spec := "fnExactGoodRec", inPlace := ["internal/bytealg.IndexByteString"], unfollowed := true, recurses := true, apart := false, narrowed := true }
def FnExactGoodRecUptoSaid : Prop := fnExactGoodRecUptoRow.holds Try.pinned (OpenSpec.upto fnExactGoodRecSpec)

/-- 'laws.FnExactLastTime', WHERE WHAT IT READS IS OF BULK AT MOST 1048576: true; the input reads as it did. -/
def fnExactLastTimeUptoRow : OpenClaim := { program := "ytekgackednpdgaa", sum := "eea60dd4b3302b2f76258ec72eec721d1e0eab18a6bb3d24828dd84ac747857d", func := "loop.example/g00850/laws.FnExactLastTime", spec := "fnExactLastTime", inPlace := ["internal/bytealg.IndexByteString"], unfollowed := true, recurses := true, apart := false, narrowed := true }
def FnExactLastTimeUptoSaid : Prop := fnExactLastTimeUptoRow.holds Try.pinned (OpenSpec.upto fnExactLastTimeSpec)

/-- 'laws.FnExactCellAt', WHERE WHAT IT READS IS OF BULK AT MOST 1048576: true; the input reads as it did. -/
def fnExactCellAtUptoRow : OpenClaim := { program := "ytekgackednpdgaa", sum := "eea60dd4b3302b2f76258ec72eec721d1e0eab18a6bb3d24828dd84ac747857d", func := "loop.example/g00850/laws.FnExactCellAt", spec := "fnExactCellAt", inPlace := ["internal/bytealg.IndexByteString"], unfollowed := true, recurses := true, apart := false, narrowed := true }
def FnExactCellAtUptoSaid : Prop := fnExactCellAtUptoRow.holds Try.pinned (OpenSpec.upto fnExactCellAtSpec)

/-- 'laws.FnExactTrimCells', WHERE WHAT IT READS IS OF BULK AT MOST 1048576: true; the input reads as it did. -/
def fnExactTrimCellsUptoRow : OpenClaim := { program := "ytekgackednpdgaa", sum := "eea60dd4b3302b2f76258ec72eec721d1e0eab18a6bb3d24828dd84ac747857d", func := "loop.example/g00850/laws.FnExactTrimCells", spec := "fnExactTrimCells", inPlace := ["internal/bytealg.IndexByteString"], apart := false, narrowed := true }
def FnExactTrimCellsUptoSaid : Prop := fnExactTrimCellsUptoRow.holds Try.pinned (OpenSpec.upto fnExactTrimCellsSpec)

/-- 'laws.FnExactNewGroup', WHERE WHAT IT READS IS OF BULK AT MOST 1048576: true; the input reads as it did. -/
def fnExactNewGroupUptoRow : OpenClaim := { program := "ytekgackednpdgaa", sum := "eea60dd4b3302b2f76258ec72eec721d1e0eab18a6bb3d24828dd84ac747857d", func := "loop.example/g00850/laws.FnExactNewGroup", spec := "fnExactNewGroup", apart := false, narrowed := true }
def FnExactNewGroupUptoSaid : Prop := fnExactNewGroupUptoRow.holds Try.pinned (OpenSpec.upto fnExactNewGroupSpec)

/-- 'laws.FnExactCellsAt', WHERE WHAT IT READS IS OF BULK AT MOST 1048576: true; the input reads as it did. -/
def fnExactCellsAtUptoRow : OpenClaim := { program := "ytekgackednpdgaa", sum := "eea60dd4b3302b2f76258ec72eec721d1e0eab18a6bb3d24828dd84ac747857d", func := "loop.example/g00850/laws.FnExactCellsAt", spec := "fnExactCellsAt", inPlace := ["internal/bytealg.IndexByteString"], unfollowed := true, recurses := true, apart := false, narrowed := true }
def FnExactCellsAtUptoSaid : Prop := fnExactCellsAtUptoRow.holds Try.pinned (OpenSpec.upto fnExactCellsAtSpec)

/-- 'laws.FnExactRecBytes', WHERE WHAT IT READS IS OF BULK AT MOST 1048576: true; the input reads as it did. -/
def fnExactRecBytesUptoRow : OpenClaim := { program := "ytekgackednpdgaa", sum := "eea60dd4b3302b2f76258ec72eec721d1e0eab18a6bb3d24828dd84ac747857d", func := "loop.example/g00850/laws.FnExactRecBytes", spec := "fnExactRecBytes", inPlace := ["internal/bytealg.IndexByteString"], unfollowed := true, recurses := true, apart := false, narrowed := true }
def FnExactRecBytesUptoSaid : Prop := fnExactRecBytesUptoRow.holds Try.pinned (OpenSpec.upto fnExactRecBytesSpec)

/-- 'laws.FnExactNewPoll', WHERE WHAT IT READS IS OF BULK AT MOST 1048576: true; the input reads as it did. -/
def fnExactNewPollUptoRow : OpenClaim := { program := "ytekgackednpdgaa", sum := "eea60dd4b3302b2f76258ec72eec721d1e0eab18a6bb3d24828dd84ac747857d", func := "loop.example/g00850/laws.FnExactNewPoll", spec := "fnExactNewPoll", unfollowed := true, recurses := true, apart := false, narrowed := true }
def FnExactNewPollUptoSaid : Prop := fnExactNewPollUptoRow.holds Try.pinned (OpenSpec.upto fnExactNewPollSpec)

end Rows
end Go.Proofs.Ytekgackednpdgaa
