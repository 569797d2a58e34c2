/-
  No cell of these rows narrows 'for every input' (looked for: loops, veiled, ifaces, maps, wideKeys, modest, calm, conditions, laid).
  DERIVED. THE GIVEN ROWS OF THIS SEAT. 12 by the template 'for every input the law returns true; each argument reads behind the call as it read before'; 0 by the template 'total and deterministic' (their statements: YtpnganfdccelmaaTotals.lean).
  GIVEN WITH THE SEED: the statements are not yours to turn. If you find one false, say at which input.
  Laid BY PROGRAM, IN A SANDBOX (cutbox-rows.mjs): the forced cells as the released guide's own fill.sh prints them over the translation 2f5b75c9bb5bec01… (all of the seat's roots in one cut). By AI agents, Wed Nov 11 2026. No macro, syntax, notation, axiom, sorry.
-/
import Derived.Test.YtpnganfdccelmaaChecked
import GoSem.Claim
import GoSem.ClaimJoined
import GoSem.ClaimMapViews
import Derived.JoinedTies
import Derived.KernelRfl
namespace Go.Proofs.Ytpnganfdccelmaa
/- THE CELL 'sum', in the pinned program and in every row, IS THE sha256 OF THE DUMP (.gsa) THAT YtpnganfdccelmaaProg.lean LOADS. Nothing in Lean hashes anything: it is a label: what it is worth is what the hold of that sum in a sandbox is worth. -/
noncomputable def Try.pinned : Pinned := { name := "ytpnganfdccelmaa", sum := "2f5b75c9bb5bec0172c0d4369b04cf8089b44a4b1563d5c8f31bb1220e939570", checked := Try.checked }
namespace Rows
def none {H : Type} : Left H := { results := [], args := [] }

/-- 'laws.FnExactSumOf': WHATEVER THE INPUT: true; the input reads as it did. -/
def fnExactSumOfSpec : ChangeSpec := { name := "fnExactSumOf", fn := fun _ => fun
  | [d] => { results := [.lit (.bool true)], args := [d] }
  | _ => none }
def fnExactSumOfRow : OpenClaim := { program := "ytpnganfdccelmaa", sum := "2f5b75c9bb5bec0172c0d4369b04cf8089b44a4b1563d5c8f31bb1220e939570", func := "loop.example/g00850/laws.FnExactSumOf", spec := "fnExactSumOf", apart := false }
def FnExactSumOfSaid : Prop := fnExactSumOfRow.holds Try.pinned (OpenSpec.ofChange fnExactSumOfSpec)

/-- ITS FALSE NEIGHBOUR: 'it returns false'. Refute it at one input. -/
def fnExactSumOfWrong : ChangeSpec := { name := "fnExactSumOf", fn := fun _ => fun
  | [d] => { results := [.lit (.bool false)], args := [d] }
  | _ => none }
def FnExactSumOfWrongFalsely : Prop := fnExactSumOfRow.holds Try.pinned (OpenSpec.ofChange fnExactSumOfWrong)

/-- 'laws.FnExactNumBytes': WHATEVER THE INPUT: true; the input reads as it did. -/
def fnExactNumBytesSpec : ChangeSpec := { name := "fnExactNumBytes", fn := fun _ => fun
  | [d] => { results := [.lit (.bool true)], args := [d] }
  | _ => none }
def fnExactNumBytesRow : OpenClaim := { program := "ytpnganfdccelmaa", sum := "2f5b75c9bb5bec0172c0d4369b04cf8089b44a4b1563d5c8f31bb1220e939570", func := "loop.example/g00850/laws.FnExactNumBytes", spec := "fnExactNumBytes", apart := false }
def FnExactNumBytesSaid : Prop := fnExactNumBytesRow.holds Try.pinned (OpenSpec.ofChange fnExactNumBytesSpec)

/-- ITS FALSE NEIGHBOUR: 'it returns false'. Refute it at one input. -/
def fnExactNumBytesWrong : ChangeSpec := { name := "fnExactNumBytes", fn := fun _ => fun
  | [d] => { results := [.lit (.bool false)], args := [d] }
  | _ => none }
def FnExactNumBytesWrongFalsely : Prop := fnExactNumBytesRow.holds Try.pinned (OpenSpec.ofChange fnExactNumBytesWrong)

/-- 'laws.FnExactTextBytes': WHATEVER THE INPUT: true; the input reads as it did. -/
def fnExactTextBytesSpec : ChangeSpec := { name := "fnExactTextBytes", fn := fun _ => fun
  | [d] => { results := [.lit (.bool true)], args := [d] }
  | _ => none }
def fnExactTextBytesRow : OpenClaim := { program := "ytpnganfdccelmaa", sum := "2f5b75c9bb5bec0172c0d4369b04cf8089b44a4b1563d5c8f31bb1220e939570", func := "loop.example/g00850/laws.FnExactTextBytes", spec := "fnExactTextBytes", apart := false }
def FnExactTextBytesSaid : Prop := fnExactTextBytesRow.holds Try.pinned (OpenSpec.ofChange fnExactTextBytesSpec)

/-- ITS FALSE NEIGHBOUR: 'it returns false'. Refute it at one input. -/
def fnExactTextBytesWrong : ChangeSpec := { name := "fnExactTextBytes", fn := fun _ => fun
  | [d] => { results := [.lit (.bool false)], args := [d] }
  | _ => none }
def FnExactTextBytesWrongFalsely : Prop := fnExactTextBytesRow.holds Try.pinned (OpenSpec.ofChange fnExactTextBytesWrong)

/-- 'laws.FnExactGoodVal': WHATEVER THE INPUT: true; the input reads as it did. -/
def fnExactGoodValSpec : ChangeSpec := { name := "fnExactGoodVal", fn := fun _ => fun
  | [d] => { results := [.lit (.bool true)], args := [d] }
  | _ => none }
def fnExactGoodValRow : OpenClaim := { program := "ytpnganfdccelmaa", sum := "2f5b75c9bb5bec0172c0d4369b04cf8089b44a4b1563d5c8f31bb1220e939570", func := "loop.example/g00850/laws.FnExactGoodVal", spec := "fnExactGoodVal", inPlace := ["internal/bytealg.IndexByteString"], apart := false }
def FnExactGoodValSaid : Prop := fnExactGoodValRow.holds Try.pinned (OpenSpec.ofChange fnExactGoodValSpec)

/-- ITS FALSE NEIGHBOUR: 'it returns false'. Refute it at one input. -/
def fnExactGoodValWrong : ChangeSpec := { name := "fnExactGoodVal", fn := fun _ => fun
  | [d] => { results := [.lit (.bool false)], args := [d] }
  | _ => none }
def FnExactGoodValWrongFalsely : Prop := fnExactGoodValRow.holds Try.pinned (OpenSpec.ofChange fnExactGoodValWrong)

/-- 'laws.FnExactGoodKey': WHATEVER THE INPUT: true; the input reads as it did. -/
def fnExactGoodKeySpec : ChangeSpec := { name := "fnExactGoodKey", fn := fun _ => fun
  | [d] => { results := [.lit (.bool true)], args := [d] }
  | _ => none }
def fnExactGoodKeyRow : OpenClaim := { program := "ytpnganfdccelmaa", sum := "2f5b75c9bb5bec0172c0d4369b04cf8089b44a4b1563d5c8f31bb1220e939570", func := "loop.example/g00850/laws.FnExactGoodKey", spec := "fnExactGoodKey", inPlace := ["internal/bytealg.IndexByteString"], apart := false }
def FnExactGoodKeySaid : Prop := fnExactGoodKeyRow.holds Try.pinned (OpenSpec.ofChange fnExactGoodKeySpec)

/-- ITS FALSE NEIGHBOUR: 'it returns false'. Refute it at one input. -/
def fnExactGoodKeyWrong : ChangeSpec := { name := "fnExactGoodKey", fn := fun _ => fun
  | [d] => { results := [.lit (.bool false)], args := [d] }
  | _ => none }
def FnExactGoodKeyWrongFalsely : Prop := fnExactGoodKeyRow.holds Try.pinned (OpenSpec.ofChange fnExactGoodKeyWrong)

/-- 'laws.FnExactSealBytes': WHATEVER THE INPUT: true; the input reads as it did. -/
def fnExactSealBytesSpec : ChangeSpec := { name := "fnExactSealBytes", fn := fun _ => fun
  | [d] => { results := [.lit (.bool true)], args := [d] }
  | _ => none }
def fnExactSealBytesRow : OpenClaim := { program := "ytpnganfdccelmaa", sum := "2f5b75c9bb5bec0172c0d4369b04cf8089b44a4b1563d5c8f31bb1220e939570", func := "loop.example/g00850/laws.FnExactSealBytes", spec := "fnExactSealBytes", apart := false }
def FnExactSealBytesSaid : Prop := fnExactSealBytesRow.holds Try.pinned (OpenSpec.ofChange fnExactSealBytesSpec)

/-- ITS FALSE NEIGHBOUR: 'it returns false'. Refute it at one input. -/
def fnExactSealBytesWrong : ChangeSpec := { name := "fnExactSealBytes", fn := fun _ => fun
  | [d] => { results := [.lit (.bool false)], args := [d] }
  | _ => none }
def FnExactSealBytesWrongFalsely : Prop := fnExactSealBytesRow.holds Try.pinned (OpenSpec.ofChange fnExactSealBytesWrong)

/-- 'laws.FnExactOpenSeal': WHATEVER THE INPUT: true; the input reads as it did. -/
def fnExactOpenSealSpec : ChangeSpec := { name := "fnExactOpenSeal", fn := fun _ => fun
  | [d] => { results := [.lit (.bool true)], args := [d] }
  | _ => none }
def fnExactOpenSealRow : OpenClaim := { program := "ytpnganfdccelmaa", sum := "2f5b75c9bb5bec0172c0d4369b04cf8089b44a4b1563d5c8f31bb1220e939570", func := "loop.example/g00850/laws.FnExactOpenSeal", spec := "fnExactOpenSeal", apart := false }
def FnExactOpenSealSaid : Prop := fnExactOpenSealRow.holds Try.pinned (OpenSpec.ofChange fnExactOpenSealSpec)

/-- ITS FALSE NEIGHBOUR: 'it returns false'. Refute it at one input. -/
def fnExactOpenSealWrong : ChangeSpec := { name := "fnExactOpenSeal", fn := fun _ => fun
  | [d] => { results := [.lit (.bool false)], args := [d] }
  | _ => none }
def FnExactOpenSealWrongFalsely : Prop := fnExactOpenSealRow.holds Try.pinned (OpenSpec.ofChange fnExactOpenSealWrong)

/-- 'laws.FnExactSyncDisk': WHATEVER THE INPUT: true; the input reads as it did. -/
def fnExactSyncDiskSpec : ChangeSpec := { name := "fnExactSyncDisk", fn := fun _ => fun
  | [d] => { results := [.lit (.bool true)], args := [d] }
  | _ => none }
def fnExactSyncDiskRow : OpenClaim := { program := "ytpnganfdccelmaa", sum := "2f5b75c9bb5bec0172c0d4369b04cf8089b44a4b1563d5c8f31bb1220e939570", func := "loop.example/g00850/laws.FnExactSyncDisk", spec := "fnExactSyncDisk", apart := false }
def FnExactSyncDiskSaid : Prop := fnExactSyncDiskRow.holds Try.pinned (OpenSpec.ofChange fnExactSyncDiskSpec)

/-- ITS FALSE NEIGHBOUR: 'it returns false'. Refute it at one input. -/
def fnExactSyncDiskWrong : ChangeSpec := { name := "fnExactSyncDisk", fn := fun _ => fun
  | [d] => { results := [.lit (.bool false)], args := [d] }
  | _ => none }
def FnExactSyncDiskWrongFalsely : Prop := fnExactSyncDiskRow.holds Try.pinned (OpenSpec.ofChange fnExactSyncDiskWrong)

/-- 'laws.FnExactMoveSpan': WHATEVER THE INPUT: true; the input reads as it did. -/
def fnExactMoveSpanSpec : ChangeSpec := { name := "fnExactMoveSpan", fn := fun _ => fun
  | [d1, d2] => { results := [.lit (.bool true)], args := [d1, d2] }
  | _ => none }
def fnExactMoveSpanRow : OpenClaim := { program := "ytpnganfdccelmaa", sum := "2f5b75c9bb5bec0172c0d4369b04cf8089b44a4b1563d5c8f31bb1220e939570", func := "loop.example/g00850/laws.FnExactMoveSpan", spec := "fnExactMoveSpan", apart := false }
def FnExactMoveSpanSaid : Prop := fnExactMoveSpanRow.holds Try.pinned (OpenSpec.ofChange fnExactMoveSpanSpec)

/-- ITS FALSE NEIGHBOUR: 'it returns false'. Refute it at one input. -/
def fnExactMoveSpanWrong : ChangeSpec := { name := "fnExactMoveSpan", fn := fun _ => fun
  | [d1, d2] => { results := [.lit (.bool false)], args := [d1, d2] }
  | _ => none }
def FnExactMoveSpanWrongFalsely : Prop := fnExactMoveSpanRow.holds Try.pinned (OpenSpec.ofChange fnExactMoveSpanWrong)

/-- 'laws.FnExactFallDisk': WHATEVER THE INPUT: true; the input reads as it did. -/
def fnExactFallDiskSpec : ChangeSpec := { name := "fnExactFallDisk", fn := fun _ => fun
  | [d1, d2, d3] => { results := [.lit (.bool true)], args := [d1, d2, d3] }
  | _ => none }
def fnExactFallDiskRow : OpenClaim := { program := "ytpnganfdccelmaa", sum := "2f5b75c9bb5bec0172c0d4369b04cf8089b44a4b1563d5c8f31bb1220e939570", func := "loop.example/g00850/laws.FnExactFallDisk", spec := "fnExactFallDisk", apart := false }
def FnExactFallDiskSaid : Prop := fnExactFallDiskRow.holds Try.pinned (OpenSpec.ofChange fnExactFallDiskSpec)

/-- ITS FALSE NEIGHBOUR: 'it returns false'. Refute it at one input. -/
def fnExactFallDiskWrong : ChangeSpec := { name := "fnExactFallDisk", fn := fun _ => fun
  | [d1, d2, d3] => { results := [.lit (.bool false)], args := [d1, d2, d3] }
  | _ => none }
def FnExactFallDiskWrongFalsely : Prop := fnExactFallDiskRow.holds Try.pinned (OpenSpec.ofChange fnExactFallDiskWrong)

/-- 'laws.FnExactFrameBytes': WHATEVER THE INPUT: true; the input reads as it did. -/
def fnExactFrameBytesSpec : ChangeSpec := { name := "fnExactFrameBytes", fn := fun _ => fun
  | [d] => { results := [.lit (.bool true)], args := [d] }
  | _ => none }
def fnExactFrameBytesRow : OpenClaim := { program := "ytpnganfdccelmaa", sum := "2f5b75c9bb5bec0172c0d4369b04cf8089b44a4b1563d5c8f31bb1220e939570", func := "loop.example/g00850/laws.FnExactFrameBytes", spec := "fnExactFrameBytes", apart := false }
def FnExactFrameBytesSaid : Prop := fnExactFrameBytesRow.holds Try.pinned (OpenSpec.ofChange fnExactFrameBytesSpec)

/-- ITS FALSE NEIGHBOUR: 'it returns false'. Refute it at one input. -/
def fnExactFrameBytesWrong : ChangeSpec := { name := "fnExactFrameBytes", fn := fun _ => fun
  | [d] => { results := [.lit (.bool false)], args := [d] }
  | _ => none }
def FnExactFrameBytesWrongFalsely : Prop := fnExactFrameBytesRow.holds Try.pinned (OpenSpec.ofChange fnExactFrameBytesWrong)

/-- 'laws.FnExactWriteDisk': WHATEVER THE INPUT: true; the input reads as it did. -/
def fnExactWriteDiskSpec : ChangeSpec := { name := "fnExactWriteDisk", fn := fun _ => fun
  | [d1, d2] => { results := [.lit (.bool true)], args := [d1, d2] }
  | _ => none }
def fnExactWriteDiskRow : OpenClaim := { program := "ytpnganfdccelmaa", sum := "2f5b75c9bb5bec0172c0d4369b04cf8089b44a4b1563d5c8f31bb1220e939570", func := "loop.example/g00850/laws.FnExactWriteDisk", spec := "fnExactWriteDisk", apart := false }
def FnExactWriteDiskSaid : Prop := fnExactWriteDiskRow.holds Try.pinned (OpenSpec.ofChange fnExactWriteDiskSpec)

/-- ITS FALSE NEIGHBOUR: 'it returns false'. Refute it at one input. -/
def fnExactWriteDiskWrong : ChangeSpec := { name := "fnExactWriteDisk", fn := fun _ => fun
  | [d1, d2] => { results := [.lit (.bool false)], args := [d1, d2] }
  | _ => none }
def FnExactWriteDiskWrongFalsely : Prop := fnExactWriteDiskRow.holds Try.pinned (OpenSpec.ofChange fnExactWriteDiskWrong)

/- THE SECOND FORM. 'bulk': how many values and letters a reading holds, each counted each time it is reached (what is shared counts as often as it is met; a slice's spare places count too). A statement '..UptoSaid' is the law's where the arguments, and the package variables that the reading takes, are together of bulk at most 1048576: NARROWER than '..Said'. Prove '..Said' where nothing that the law and all that it calls make is longer than what came in: it says more and counts as full. Else prove '..UptoSaid'. A law counts once. -/
mutual
def uptoBulk {H : Type} : DataW H → Nat
  | .lit (.string bytes) => bytes.length + 1
  | .lit _ => 1
  | .nil => 1
  | .ptr d => uptoBulk d + 1
  | .slice elems spare => uptoBulkAll elems + uptoBulkAll spare + 1
  | .agg parts => uptoBulkAll parts + 1
  | .iface _ d => uptoBulk d + 1
  | .map entries => uptoBulkEntries entries + 1
  | .held _ => 1
def uptoBulkAll {H : Type} : List (DataW H) → Nat
  | [] => 0
  | d :: r => uptoBulk d + uptoBulkAll r
def uptoBulkEntries {H : Type} : List (Lit × DataW H) → Nat
  | [] => 0
  | x :: r => uptoBulkEntry x + uptoBulkEntries r
def uptoBulkEntry {H : Type} : Lit × DataW H → Nat
  | (.string bytes, d) => bytes.length + uptoBulk d + 1
  | (_, d) => uptoBulk d + 1
 end
def uptoSmall : (H : Type) → List (DataW H) → Bool := fun _ ds => decide (uptoBulkAll ds ≤ 1048576)
def OpenSpec.upto (s : _root_.Go.ChangeSpec) : _root_.Go.OpenSpec := { _root_.Go.OpenSpec.ofChange s with cond := some uptoSmall }

/-- 'laws.FnExactSumOf', WHERE WHAT IT READS IS OF BULK AT MOST 1048576: true; the input reads as it did. -/
def fnExactSumOfUptoRow : OpenClaim := { program := "ytpnganfdccelmaa", sum := "2f5b75c9bb5bec0172c0d4369b04cf8089b44a4b1563d5c8f31bb1220e939570", func := "loop.example/g00850/laws.FnExactSumOf", spec := "fnExactSumOf", apart := false, narrowed := true }
def FnExactSumOfUptoSaid : Prop := fnExactSumOfUptoRow.holds Try.pinned (OpenSpec.upto fnExactSumOfSpec)

/-- 'laws.FnExactNumBytes', WHERE WHAT IT READS IS OF BULK AT MOST 1048576: true; the input reads as it did. -/
def fnExactNumBytesUptoRow : OpenClaim := { program := "ytpnganfdccelmaa", sum := "2f5b75c9bb5bec0172c0d4369b04cf8089b44a4b1563d5c8f31bb1220e939570", func := "loop.example/g00850/laws.FnExactNumBytes", spec := "fnExactNumBytes", apart := false, narrowed := true }
def FnExactNumBytesUptoSaid : Prop := fnExactNumBytesUptoRow.holds Try.pinned (OpenSpec.upto fnExactNumBytesSpec)

/-- 'laws.FnExactTextBytes', WHERE WHAT IT READS IS OF BULK AT MOST 1048576: true; the input reads as it did. -/
def fnExactTextBytesUptoRow : OpenClaim := { program := "ytpnganfdccelmaa", sum := "2f5b75c9bb5bec0172c0d4369b04cf8089b44a4b1563d5c8f31bb1220e939570", func := "loop.example/g00850/laws.FnExactTextBytes", spec := "fnExactTextBytes", apart := false, narrowed := true }
def FnExactTextBytesUptoSaid : Prop := fnExactTextBytesUptoRow.holds Try.pinned (OpenSpec.upto fnExactTextBytesSpec)

/-- 'laws.FnExactGoodVal', WHERE WHAT IT READS IS OF BULK AT MOST 1048576: true; the input reads as it did. -/
def fnExactGoodValUptoRow : OpenClaim := { program := "ytpnganfdccelmaa", sum := "2f5b75c9bb5bec0172c0d4369b04cf8089b44a4b1563d5c8f31bb1220e939570", func := "loop.example/g00850/laws.FnExactGoodVal", spec := "fnExactGoodVal", inPlace := ["internal/bytealg.IndexByteString"], apart := false, narrowed := true }
def FnExactGoodValUptoSaid : Prop := fnExactGoodValUptoRow.holds Try.pinned (OpenSpec.upto fnExactGoodValSpec)

/-- 'laws.FnExactGoodKey', WHERE WHAT IT READS IS OF BULK AT MOST 1048576: true; the input reads as it did. -/
def fnExactGoodKeyUptoRow : OpenClaim := { program := "ytpnganfdccelmaa", sum := "2f5b75c9bb5bec0172c0d4369b04cf8089b44a4b1563d5c8f31bb1220e939570", func := "loop.example/g00850/laws.FnExactGoodKey", spec := "fnExactGoodKey", inPlace := ["internal/bytealg.IndexByteString"], apart := false, narrowed := true }
def FnExactGoodKeyUptoSaid : Prop := fnExactGoodKeyUptoRow.holds Try.pinned (OpenSpec.upto fnExactGoodKeySpec)

/-- 'laws.FnExactSealBytes', WHERE WHAT IT READS IS OF BULK AT MOST 1048576: true; the input reads as it did. -/
def fnExactSealBytesUptoRow : OpenClaim := { program := "ytpnganfdccelmaa", sum := "2f5b75c9bb5bec0172c0d4369b04cf8089b44a4b1563d5c8f31bb1220e939570", func := "loop.example/g00850/laws.FnExactSealBytes", spec := "fnExactSealBytes", apart := false, narrowed := true }
def FnExactSealBytesUptoSaid : Prop := fnExactSealBytesUptoRow.holds Try.pinned (OpenSpec.upto fnExactSealBytesSpec)

/-- 'laws.FnExactOpenSeal', WHERE WHAT IT READS IS OF BULK AT MOST 1048576: true; the input reads as it did. -/
def fnExactOpenSealUptoRow : OpenClaim := { program := "ytpnganfdccelmaa", sum := "2f5b75c9bb5bec0172c0d4369b04cf8089b44a4b1563d5c8f31bb1220e939570", func := "loop.example/g00850/laws.FnExactOpenSeal", spec := "fnExactOpenSeal", apart := false, narrowed := true }
def FnExactOpenSealUptoSaid : Prop := fnExactOpenSealUptoRow.holds Try.pinned (OpenSpec.upto fnExactOpenSealSpec)

/-- 'laws.FnExactSyncDisk', WHERE WHAT IT READS IS OF BULK AT MOST 1048576: true; the input reads as it did. -/
def fnExactSyncDiskUptoRow : OpenClaim := { program := "ytpnganfdccelmaa", sum := "2f5b75c9bb5bec0172c0d4369b04cf8089b44a4b1563d5c8f31bb1220e939570", func := "loop.example/g00850/laws.FnExactSyncDisk", spec := "fnExactSyncDisk", apart := false, narrowed := true }
def FnExactSyncDiskUptoSaid : Prop := fnExactSyncDiskUptoRow.holds Try.pinned (OpenSpec.upto fnExactSyncDiskSpec)

/-- 'laws.FnExactMoveSpan', WHERE WHAT IT READS IS OF BULK AT MOST 1048576: true; the input reads as it did. -/
def fnExactMoveSpanUptoRow : OpenClaim := { program := "ytpnganfdccelmaa", sum := "2f5b75c9bb5bec0172c0d4369b04cf8089b44a4b1563d5c8f31bb1220e939570", func := "loop.example/g00850/laws.FnExactMoveSpan", spec := "fnExactMoveSpan", apart := false, narrowed := true }
def FnExactMoveSpanUptoSaid : Prop := fnExactMoveSpanUptoRow.holds Try.pinned (OpenSpec.upto fnExactMoveSpanSpec)

/-- 'laws.FnExactFallDisk', WHERE WHAT IT READS IS OF BULK AT MOST 1048576: true; the input reads as it did. -/
def fnExactFallDiskUptoRow : OpenClaim := { program := "ytpnganfdccelmaa", sum := "2f5b75c9bb5bec0172c0d4369b04cf8089b44a4b1563d5c8f31bb1220e939570", func := "loop.example/g00850/laws.FnExactFallDisk", spec := "fnExactFallDisk", apart := false, narrowed := true }
def FnExactFallDiskUptoSaid : Prop := fnExactFallDiskUptoRow.holds Try.pinned (OpenSpec.upto fnExactFallDiskSpec)

/-- 'laws.FnExactFrameBytes', WHERE WHAT IT READS IS OF BULK AT MOST 1048576: true; the input reads as it did. -/
def fnExactFrameBytesUptoRow : OpenClaim := { program := "ytpnganfdccelmaa", sum := "2f5b75c9bb5bec0172c0d4369b04cf8089b44a4b1563d5c8f31bb1220e939570", func := "loop.example/g00850/laws.FnExactFrameBytes", spec := "fnExactFrameBytes", apart := false, narrowed := true }
def FnExactFrameBytesUptoSaid : Prop := fnExactFrameBytesUptoRow.holds Try.pinned (OpenSpec.upto fnExactFrameBytesSpec)

/-- 'laws.FnExactWriteDisk', WHERE WHAT IT READS IS OF BULK AT MOST 1048576: true; the input reads as it did. -/
def fnExactWriteDiskUptoRow : OpenClaim := { program := "ytpnganfdccelmaa", sum := "2f5b75c9bb5bec0172c0d4369b04cf8089b44a4b1563d5c8f31bb1220e939570", func := "loop.example/g00850/laws.FnExactWriteDisk", spec := "fnExactWriteDisk", apart := false, narrowed := true }
def FnExactWriteDiskUptoSaid : Prop := fnExactWriteDiskUptoRow.holds Try.pinned (OpenSpec.upto fnExactWriteDiskSpec)

end Rows
end Go.Proofs.Ytpnganfdccelmaa
