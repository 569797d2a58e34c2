/-
  No cell of these rows narrows 'for every input' (looked for: loops, veiled, ifaces, maps, wideKeys, modest, calm, conditions, laid).
  DERIVED. THE GIVEN ROWS OF THIS SEAT. 12 by the template 'for every input the law returns true; each argument reads behind the call as it read before'; 0 by the template 'total and deterministic' (their statements: YtkgnogdbojefkaaTotals.lean).
  GIVEN WITH THE SEED: the statements are not yours to turn. If you find one false, say at which input.
  Laid BY PROGRAM, IN A SANDBOX (cutbox-rows.mjs): the forced cells as the released guide's own fill.sh prints them over the translation 177dbeaecfed46a9… (all of the seat's roots in one cut). By AI agents, Wed Nov 11 2026. No macro, syntax, notation, axiom, sorry.
-/
import Derived.Test.YtkgnogdbojefkaaChecked
import GoSem.Claim
import GoSem.ClaimJoined
import GoSem.ClaimMapViews
import Derived.JoinedTies
import Derived.KernelRfl
namespace Go.Proofs.Ytkgnogdbojefkaa
/- THE CELL 'sum', in the pinned program and in every row, IS THE sha256 OF THE DUMP (.gsa) THAT YtkgnogdbojefkaaProg.lean LOADS. Nothing in Lean hashes anything: it is a label: what it is worth is what the hold of that sum in a sandbox is worth. -/
noncomputable def Try.pinned : Pinned := { name := "ytkgnogdbojefkaa", sum := "177dbeaecfed46a9587959623e5a2d2f2ebddbcb7570b5c54a74217898aea5e0", checked := Try.checked }
namespace Rows
def none {H : Type} : Left H := { results := [], args := [] }

/-- 'laws.FnExactTextsBytes': WHATEVER THE INPUT: true; the input reads as it did. -/
def fnExactTextsBytesSpec : ChangeSpec := { name := "fnExactTextsBytes", fn := fun _ => fun
  | [d] => { results := [.lit (.bool true)], args := [d] }
  | _ => none }
def fnExactTextsBytesRow : OpenClaim := { program := "ytkgnogdbojefkaa", sum := "177dbeaecfed46a9587959623e5a2d2f2ebddbcb7570b5c54a74217898aea5e0", func := "loop.example/g00850/laws.FnExactTextsBytes", spec := "fnExactTextsBytes", unfollowed := true, recurses := true, apart := false }
def FnExactTextsBytesSaid : Prop := fnExactTextsBytesRow.holds Try.pinned (OpenSpec.ofChange fnExactTextsBytesSpec)

/-- ITS FALSE NEIGHBOUR: 'it returns false'. Refute it at one input. -/
def fnExactTextsBytesWrong : ChangeSpec := { name := "fnExactTextsBytes", fn := fun _ => fun
  | [d] => { results := [.lit (.bool false)], args := [d] }
  | _ => none }
def FnExactTextsBytesWrongFalsely : Prop := fnExactTextsBytesRow.holds Try.pinned (OpenSpec.ofChange fnExactTextsBytesWrong)

/-- 'laws.FnExactReadNum': WHATEVER THE INPUT: true; the input reads as it did. -/
def fnExactReadNumSpec : ChangeSpec := { name := "fnExactReadNum", fn := fun _ => fun
  | [d1, d2] => { results := [.lit (.bool true)], args := [d1, d2] }
  | _ => none }
def fnExactReadNumRow : OpenClaim := { program := "ytkgnogdbojefkaa", sum := "177dbeaecfed46a9587959623e5a2d2f2ebddbcb7570b5c54a74217898aea5e0", func := "loop.example/g00850/laws.FnExactReadNum", spec := "fnExactReadNum", apart := false }
def FnExactReadNumSaid : Prop := fnExactReadNumRow.holds Try.pinned (OpenSpec.ofChange fnExactReadNumSpec)

/-- ITS FALSE NEIGHBOUR: 'it returns false'. Refute it at one input. -/
def fnExactReadNumWrong : ChangeSpec := { name := "fnExactReadNum", fn := fun _ => fun
  | [d1, d2] => { results := [.lit (.bool false)], args := [d1, d2] }
  | _ => none }
def FnExactReadNumWrongFalsely : Prop := fnExactReadNumRow.holds Try.pinned (OpenSpec.ofChange fnExactReadNumWrong)

/-- 'laws.FnExactMeetSpans': WHATEVER THE INPUT: true; the input reads as it did. -/
def fnExactMeetSpansSpec : ChangeSpec := { name := "fnExactMeetSpans", fn := fun _ => fun
  | [d] => { results := [.lit (.bool true)], args := [d] }
  | _ => none }
def fnExactMeetSpansRow : OpenClaim := { program := "ytkgnogdbojefkaa", sum := "177dbeaecfed46a9587959623e5a2d2f2ebddbcb7570b5c54a74217898aea5e0", func := "loop.example/g00850/laws.FnExactMeetSpans", spec := "fnExactMeetSpans", unfollowed := true, recurses := true, apart := false }
def FnExactMeetSpansSaid : Prop := fnExactMeetSpansRow.holds Try.pinned (OpenSpec.ofChange fnExactMeetSpansSpec)

/-- ITS FALSE NEIGHBOUR: 'it returns false'. Refute it at one input. -/
def fnExactMeetSpansWrong : ChangeSpec := { name := "fnExactMeetSpans", fn := fun _ => fun
  | [d] => { results := [.lit (.bool false)], args := [d] }
  | _ => none }
def FnExactMeetSpansWrongFalsely : Prop := fnExactMeetSpansRow.holds Try.pinned (OpenSpec.ofChange fnExactMeetSpansWrong)

/-- 'laws.FnExactReadText': WHATEVER THE INPUT: true; the input reads as it did. -/
def fnExactReadTextSpec : ChangeSpec := { name := "fnExactReadText", fn := fun _ => fun
  | [d1, d2] => { results := [.lit (.bool true)], args := [d1, d2] }
  | _ => none }
def fnExactReadTextRow : OpenClaim := { program := "ytkgnogdbojefkaa", sum := "177dbeaecfed46a9587959623e5a2d2f2ebddbcb7570b5c54a74217898aea5e0", func := "loop.example/g00850/laws.FnExactReadText", spec := "fnExactReadText", apart := false }
def FnExactReadTextSaid : Prop := fnExactReadTextRow.holds Try.pinned (OpenSpec.ofChange fnExactReadTextSpec)

/-- ITS FALSE NEIGHBOUR: 'it returns false'. Refute it at one input. -/
def fnExactReadTextWrong : ChangeSpec := { name := "fnExactReadText", fn := fun _ => fun
  | [d1, d2] => { results := [.lit (.bool false)], args := [d1, d2] }
  | _ => none }
def FnExactReadTextWrongFalsely : Prop := fnExactReadTextRow.holds Try.pinned (OpenSpec.ofChange fnExactReadTextWrong)

/-- 'laws.FnExactGoodWrites': WHATEVER THE INPUT: true; the input reads as it did. -/
def fnExactGoodWritesSpec : ChangeSpec := { name := "fnExactGoodWrites", fn := fun _ => fun
  | [d] => { results := [.lit (.bool true)], args := [d] }
  | _ => none }
def fnExactGoodWritesRow : OpenClaim := { program := "ytkgnogdbojefkaa", sum := "177dbeaecfed46a9587959623e5a2d2f2ebddbcb7570b5c54a74217898aea5e0", func := "loop.example/g00850/laws.FnExactGoodWrites", spec := "fnExactGoodWrites", inPlace := ["internal/bytealg.IndexByteString"], unfollowed := true, recurses := true, apart := false }
def FnExactGoodWritesSaid : Prop := fnExactGoodWritesRow.holds Try.pinned (OpenSpec.ofChange fnExactGoodWritesSpec)

/-- ITS FALSE NEIGHBOUR: 'it returns false'. Refute it at one input. -/
def fnExactGoodWritesWrong : ChangeSpec := { name := "fnExactGoodWrites", fn := fun _ => fun
  | [d] => { results := [.lit (.bool false)], args := [d] }
  | _ => none }
def FnExactGoodWritesWrongFalsely : Prop := fnExactGoodWritesRow.holds Try.pinned (OpenSpec.ofChange fnExactGoodWritesWrong)

/-- 'laws.FnExactGoodOps': WHATEVER THE INPUT: true; the input reads as it did. -/
def fnExactGoodOpsSpec : ChangeSpec := { name := "fnExactGoodOps", fn := fun _ => fun
  | [d] => { results := [.lit (.bool true)], args := [d] }
  | _ => none }
def fnExactGoodOpsRow : OpenClaim := { program := "ytkgnogdbojefkaa", sum := "177dbeaecfed46a9587959623e5a2d2f2ebddbcb7570b5c54a74217898aea5e0", func := "loop.example/g00850/laws.FnExactGoodOps", spec := "fnExactGoodOps", inPlace := ["internal/bytealg.IndexByteString"], unfollowed := true, recurses := true, apart := false }
def FnExactGoodOpsSaid : Prop := fnExactGoodOpsRow.holds Try.pinned (OpenSpec.ofChange fnExactGoodOpsSpec)

/-- ITS FALSE NEIGHBOUR: 'it returns false'. Refute it at one input. -/
def fnExactGoodOpsWrong : ChangeSpec := { name := "fnExactGoodOps", fn := fun _ => fun
  | [d] => { results := [.lit (.bool false)], args := [d] }
  | _ => none }
def FnExactGoodOpsWrongFalsely : Prop := fnExactGoodOpsRow.holds Try.pinned (OpenSpec.ofChange fnExactGoodOpsWrong)

/-- 'laws.FnExactReadFrame': WHATEVER THE INPUT: true; the input reads as it did. -/
def fnExactReadFrameSpec : ChangeSpec := { name := "fnExactReadFrame", fn := fun _ => fun
  | [d1, d2] => { results := [.lit (.bool true)], args := [d1, d2] }
  | _ => none }
def fnExactReadFrameRow : OpenClaim := { program := "ytkgnogdbojefkaa", sum := "177dbeaecfed46a9587959623e5a2d2f2ebddbcb7570b5c54a74217898aea5e0", func := "loop.example/g00850/laws.FnExactReadFrame", spec := "fnExactReadFrame", apart := false }
def FnExactReadFrameSaid : Prop := fnExactReadFrameRow.holds Try.pinned (OpenSpec.ofChange fnExactReadFrameSpec)

/-- ITS FALSE NEIGHBOUR: 'it returns false'. Refute it at one input. -/
def fnExactReadFrameWrong : ChangeSpec := { name := "fnExactReadFrame", fn := fun _ => fun
  | [d1, d2] => { results := [.lit (.bool false)], args := [d1, d2] }
  | _ => none }
def FnExactReadFrameWrongFalsely : Prop := fnExactReadFrameRow.holds Try.pinned (OpenSpec.ofChange fnExactReadFrameWrong)

/-- 'laws.FnExactSameCells': WHATEVER THE INPUT: true; the input reads as it did. -/
def fnExactSameCellsSpec : ChangeSpec := { name := "fnExactSameCells", fn := fun _ => fun
  | [d1, d2] => { results := [.lit (.bool true)], args := [d1, d2] }
  | _ => none }
def fnExactSameCellsRow : OpenClaim := { program := "ytkgnogdbojefkaa", sum := "177dbeaecfed46a9587959623e5a2d2f2ebddbcb7570b5c54a74217898aea5e0", func := "loop.example/g00850/laws.FnExactSameCells", spec := "fnExactSameCells", unfollowed := true, recurses := true, apart := false }
def FnExactSameCellsSaid : Prop := fnExactSameCellsRow.holds Try.pinned (OpenSpec.ofChange fnExactSameCellsSpec)

/-- ITS FALSE NEIGHBOUR: 'it returns false'. Refute it at one input. -/
def fnExactSameCellsWrong : ChangeSpec := { name := "fnExactSameCells", fn := fun _ => fun
  | [d1, d2] => { results := [.lit (.bool false)], args := [d1, d2] }
  | _ => none }
def FnExactSameCellsWrongFalsely : Prop := fnExactSameCellsRow.holds Try.pinned (OpenSpec.ofChange fnExactSameCellsWrong)

/-- 'laws.FnExactSameRec': WHATEVER THE INPUT: true; the input reads as it did. -/
def fnExactSameRecSpec : ChangeSpec := { name := "fnExactSameRec", fn := fun _ => fun
  | [d1, d2] => { results := [.lit (.bool true)], args := [d1, d2] }
  | _ => none }
def fnExactSameRecRow : OpenClaim := { program := "ytkgnogdbojefkaa", sum := "177dbeaecfed46a9587959623e5a2d2f2ebddbcb7570b5c54a74217898aea5e0", func := "loop.example/g00850/laws.FnExactSameRec", spec := "fnExactSameRec", apart := false }
def FnExactSameRecSaid : Prop := fnExactSameRecRow.holds Try.pinned (OpenSpec.ofChange fnExactSameRecSpec)

/-- ITS FALSE NEIGHBOUR: 'it returns false'. Refute it at one input. -/
def fnExactSameRecWrong : ChangeSpec := { name := "fnExactSameRec", fn := fun _ => fun
  | [d1, d2] => { results := [.lit (.bool false)], args := [d1, d2] }
  | _ => none }
def FnExactSameRecWrongFalsely : Prop := fnExactSameRecRow.holds Try.pinned (OpenSpec.ofChange fnExactSameRecWrong)

/-- 'laws.FnExactReadTexts': WHATEVER THE INPUT: true; the input reads as it did. -/
def fnExactReadTextsSpec : ChangeSpec := { name := "fnExactReadTexts", fn := fun _ => fun
  | [d1, d2] => { results := [.lit (.bool true)], args := [d1, d2] }
  | _ => none }
def fnExactReadTextsRow : OpenClaim := { program := "ytkgnogdbojefkaa", sum := "177dbeaecfed46a9587959623e5a2d2f2ebddbcb7570b5c54a74217898aea5e0", func := "loop.example/g00850/laws.FnExactReadTexts", spec := "fnExactReadTexts", apart := false }
def FnExactReadTextsSaid : Prop := fnExactReadTextsRow.holds Try.pinned (OpenSpec.ofChange fnExactReadTextsSpec)

/-- ITS FALSE NEIGHBOUR: 'it returns false'. Refute it at one input. -/
def fnExactReadTextsWrong : ChangeSpec := { name := "fnExactReadTexts", fn := fun _ => fun
  | [d1, d2] => { results := [.lit (.bool false)], args := [d1, d2] }
  | _ => none }
def FnExactReadTextsWrongFalsely : Prop := fnExactReadTextsRow.holds Try.pinned (OpenSpec.ofChange fnExactReadTextsWrong)

/-- 'laws.FnExactMendDisk': WHATEVER THE INPUT: true; the input reads as it did. -/
def fnExactMendDiskSpec : ChangeSpec := { name := "fnExactMendDisk", fn := fun _ => fun
  | [d] => { results := [.lit (.bool true)], args := [d] }
  | _ => none }
def fnExactMendDiskRow : OpenClaim := { program := "ytkgnogdbojefkaa", sum := "177dbeaecfed46a9587959623e5a2d2f2ebddbcb7570b5c54a74217898aea5e0", func := "loop.example/g00850/laws.FnExactMendDisk", spec := "fnExactMendDisk", apart := false }
def FnExactMendDiskSaid : Prop := fnExactMendDiskRow.holds Try.pinned (OpenSpec.ofChange fnExactMendDiskSpec)

/-- ITS FALSE NEIGHBOUR: 'it returns false'. Refute it at one input. -/
def fnExactMendDiskWrong : ChangeSpec := { name := "fnExactMendDisk", fn := fun _ => fun
  | [d] => { results := [.lit (.bool false)], args := [d] }
  | _ => none }
def FnExactMendDiskWrongFalsely : Prop := fnExactMendDiskRow.holds Try.pinned (OpenSpec.ofChange fnExactMendDiskWrong)

/-- 'laws.FnFall': WHATEVER THE INPUT: true; the input reads as it did. -/
def fnFallSpec : ChangeSpec := { name := "fnFall", fn := fun _ => fun
  | [d] => { results := [.lit (.bool true)], args := [d] }
  | _ => none }
def fnFallRow : OpenClaim := { program := "ytkgnogdbojefkaa", sum := "177dbeaecfed46a9587959623e5a2d2f2ebddbcb7570b5c54a74217898aea5e0", func := "loop.example/g00850/laws.FnFall", spec := "fnFall", apart := false }
def FnFallSaid : Prop := fnFallRow.holds Try.pinned (OpenSpec.ofChange fnFallSpec)

/-- ITS FALSE NEIGHBOUR: 'it returns false'. Refute it at one input. -/
def fnFallWrong : ChangeSpec := { name := "fnFall", fn := fun _ => fun
  | [d] => { results := [.lit (.bool false)], args := [d] }
  | _ => none }
def FnFallWrongFalsely : Prop := fnFallRow.holds Try.pinned (OpenSpec.ofChange fnFallWrong)

/- THE SECOND FORM. 'bulk': how many values and letters a reading holds, each counted each time it is reached (what is shared counts as often as it is met; a slice's spare places count too). A statement '..UptoSaid' is the law's where the arguments, and the package variables that the reading takes, are together of bulk at most 1048576: NARROWER than '..Said'. Prove '..Said' where nothing that the law and all that it calls make is longer than what came in: it says more and counts as full. Else prove '..UptoSaid'. A law counts once. -/
mutual
def uptoBulk {H : Type} : DataW H → Nat
  | .lit (.string bytes) => bytes.length + 1
  | .lit _ => 1
  | .nil => 1
  | .ptr d => uptoBulk d + 1
  | .slice elems spare => uptoBulkAll elems + uptoBulkAll spare + 1
  | .agg parts => uptoBulkAll parts + 1
  | .iface _ d => uptoBulk d + 1
  | .map entries => uptoBulkEntries entries + 1
  | .held _ => 1
def uptoBulkAll {H : Type} : List (DataW H) → Nat
  | [] => 0
  | d :: r => uptoBulk d + uptoBulkAll r
def uptoBulkEntries {H : Type} : List (Lit × DataW H) → Nat
  | [] => 0
  | x :: r => uptoBulkEntry x + uptoBulkEntries r
def uptoBulkEntry {H : Type} : Lit × DataW H → Nat
  | (.string bytes, d) => bytes.length + uptoBulk d + 1
  | (_, d) => uptoBulk d + 1
 end
def uptoSmall : (H : Type) → List (DataW H) → Bool := fun _ ds => decide (uptoBulkAll ds ≤ 1048576)
def OpenSpec.upto (s : _root_.Go.ChangeSpec) : _root_.Go.OpenSpec := { _root_.Go.OpenSpec.ofChange s with cond := some uptoSmall }

/-- 'laws.FnExactTextsBytes', WHERE WHAT IT READS IS OF BULK AT MOST 1048576: true; the input reads as it did. -/
def fnExactTextsBytesUptoRow : OpenClaim := { program := "ytkgnogdbojefkaa", sum := "177dbeaecfed46a9587959623e5a2d2f2ebddbcb7570b5c54a74217898aea5e0", func := "loop.example/g00850/laws.FnExactTextsBytes", spec := "fnExactTextsBytes", unfollowed := true, recurses := true, apart := false, narrowed := true }
def FnExactTextsBytesUptoSaid : Prop := fnExactTextsBytesUptoRow.holds Try.pinned (OpenSpec.upto fnExactTextsBytesSpec)

/-- 'laws.FnExactReadNum', WHERE WHAT IT READS IS OF BULK AT MOST 1048576: true; the input reads as it did. -/
def fnExactReadNumUptoRow : OpenClaim := { program := "ytkgnogdbojefkaa", sum := "177dbeaecfed46a9587959623e5a2d2f2ebddbcb7570b5c54a74217898aea5e0", func := "loop.example/g00850/laws.FnExactReadNum", spec := "fnExactReadNum", apart := false, narrowed := true }
def FnExactReadNumUptoSaid : Prop := fnExactReadNumUptoRow.holds Try.pinned (OpenSpec.upto fnExactReadNumSpec)

/-- 'laws.FnExactMeetSpans', WHERE WHAT IT READS IS OF BULK AT MOST 1048576: true; the input reads as it did. -/
def fnExactMeetSpansUptoRow : OpenClaim := { program := "ytkgnogdbojefkaa", sum := "177dbeaecfed46a9587959623e5a2d2f2ebddbcb7570b5c54a74217898aea5e0", func := "loop.example/g00850/laws.FnExactMeetSpans", spec := "fnExactMeetSpans", unfollowed := true, recurses := true, apart := false, narrowed := true }
def FnExactMeetSpansUptoSaid : Prop := fnExactMeetSpansUptoRow.holds Try.pinned (OpenSpec.upto fnExactMeetSpansSpec)

/-- 'laws.FnExactReadText', WHERE WHAT IT READS IS OF BULK AT MOST 1048576: true; the input reads as it did. -/
def fnExactReadTextUptoRow : OpenClaim := { program := "ytkgnogdbojefkaa", sum := "177dbeaecfed46a9587959623e5a2d2f2ebddbcb7570b5c54a74217898aea5e0", func := "loop.example/g00850/laws.FnExactReadText", spec := "fnExactReadText", apart := false, narrowed := true }
def FnExactReadTextUptoSaid : Prop := fnExactReadTextUptoRow.holds Try.pinned (OpenSpec.upto fnExactReadTextSpec)

/-- 'laws.FnExactGoodWrites', WHERE WHAT IT READS IS OF BULK AT MOST 1048576: true; the input reads as it did. -/
def fnExactGoodWritesUptoRow : OpenClaim := { program := "ytkgnogdbojefkaa", sum := "177dbeaecfed46a9587959623e5a2d2f2ebddbcb7570b5c54a74217898aea5e0", func := "loop.example/g00850/laws.FnExactGoodWrites", spec := "fnExactGoodWrites", inPlace := ["internal/bytealg.IndexByteString"], unfollowed := true, recurses := true, apart := false, narrowed := true }
def FnExactGoodWritesUptoSaid : Prop := fnExactGoodWritesUptoRow.holds Try.pinned (OpenSpec.upto fnExactGoodWritesSpec)

/-- 'laws.FnExactGoodOps', WHERE WHAT IT READS IS OF BULK AT MOST 1048576: true; the input reads as it did. -/
def fnExactGoodOpsUptoRow : OpenClaim := { program := "ytkgnogdbojefkaa", sum := "177dbeaecfed46a9587959623e5a2d2f2ebddbcb7570b5c54a74217898aea5e0", func := "loop.example/g00850/laws.FnExactGoodOps", spec := "fnExactGoodOps", inPlace := ["internal/bytealg.IndexByteString"], unfollowed := true, recurses := true, apart := false, narrowed := true }
def FnExactGoodOpsUptoSaid : Prop := fnExactGoodOpsUptoRow.holds Try.pinned (OpenSpec.upto fnExactGoodOpsSpec)

/-- 'laws.FnExactReadFrame', WHERE WHAT IT READS IS OF BULK AT MOST 1048576: true; the input reads as it did. -/
def fnExactReadFrameUptoRow : OpenClaim := { program := "ytkgnogdbojefkaa", sum := "177dbeaecfed46a9587959623e5a2d2f2ebddbcb7570b5c54a74217898aea5e0", func := "loop.example/g00850/laws.FnExactReadFrame", spec := "fnExactReadFrame", apart := false, narrowed := true }
def FnExactReadFrameUptoSaid : Prop := fnExactReadFrameUptoRow.holds Try.pinned (OpenSpec.upto fnExactReadFrameSpec)

/-- 'laws.FnExactSameCells', WHERE WHAT IT READS IS OF BULK AT MOST 1048576: true; the input reads as it did. -/
def fnExactSameCellsUptoRow : OpenClaim := { program := "ytkgnogdbojefkaa", sum := "177dbeaecfed46a9587959623e5a2d2f2ebddbcb7570b5c54a74217898aea5e0", func := "loop.example/g00850/laws.FnExactSameCells", spec := "fnExactSameCells", unfollowed := true, recurses := true, apart := false, narrowed := true }
def FnExactSameCellsUptoSaid : Prop := fnExactSameCellsUptoRow.holds Try.pinned (OpenSpec.upto fnExactSameCellsSpec)

/-- 'laws.FnExactSameRec', WHERE WHAT IT READS IS OF BULK AT MOST 1048576: true; the input reads as it did. -/
def fnExactSameRecUptoRow : OpenClaim := { program := "ytkgnogdbojefkaa", sum := "177dbeaecfed46a9587959623e5a2d2f2ebddbcb7570b5c54a74217898aea5e0", func := "loop.example/g00850/laws.FnExactSameRec", spec := "fnExactSameRec", apart := false, narrowed := true }
def FnExactSameRecUptoSaid : Prop := fnExactSameRecUptoRow.holds Try.pinned (OpenSpec.upto fnExactSameRecSpec)

/-- 'laws.FnExactReadTexts', WHERE WHAT IT READS IS OF BULK AT MOST 1048576: true; the input reads as it did. -/
def fnExactReadTextsUptoRow : OpenClaim := { program := "ytkgnogdbojefkaa", sum := "177dbeaecfed46a9587959623e5a2d2f2ebddbcb7570b5c54a74217898aea5e0", func := "loop.example/g00850/laws.FnExactReadTexts", spec := "fnExactReadTexts", apart := false, narrowed := true }
def FnExactReadTextsUptoSaid : Prop := fnExactReadTextsUptoRow.holds Try.pinned (OpenSpec.upto fnExactReadTextsSpec)

/-- 'laws.FnExactMendDisk', WHERE WHAT IT READS IS OF BULK AT MOST 1048576: true; the input reads as it did. -/
def fnExactMendDiskUptoRow : OpenClaim := { program := "ytkgnogdbojefkaa", sum := "177dbeaecfed46a9587959623e5a2d2f2ebddbcb7570b5c54a74217898aea5e0", func := "loop.example/g00850/laws.FnExactMendDisk", spec := "fnExactMendDisk", apart := false, narrowed := true }
def FnExactMendDiskUptoSaid : Prop := fnExactMendDiskUptoRow.holds Try.pinned (OpenSpec.upto fnExactMendDiskSpec)

/-- 'laws.FnFall', WHERE WHAT IT READS IS OF BULK AT MOST 1048576: true; the input reads as it did. -/
def fnFallUptoRow : OpenClaim := { program := "ytkgnogdbojefkaa", sum := "177dbeaecfed46a9587959623e5a2d2f2ebddbcb7570b5c54a74217898aea5e0", func := "loop.example/g00850/laws.FnFall", spec := "fnFall", apart := false, narrowed := true }
def FnFallUptoSaid : Prop := fnFallUptoRow.holds Try.pinned (OpenSpec.upto fnFallSpec)

end Rows
end Go.Proofs.Ytkgnogdbojefkaa
