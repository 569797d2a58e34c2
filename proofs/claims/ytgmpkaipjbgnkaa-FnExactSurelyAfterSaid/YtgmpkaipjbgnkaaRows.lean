/-
  No cell of these rows narrows 'for every input' (looked for: loops, veiled, ifaces, maps, wideKeys, modest, calm, conditions, laid).
  DERIVED. THE GIVEN ROWS OF THIS SEAT. 7 by the template 'for every input the law returns true; each argument reads behind the call as it read before'; 0 by the template 'total and deterministic' (their statements: YtgmpkaipjbgnkaaTotals.lean).
  GIVEN WITH THE SEED: the statements are not yours to turn. If you find one false, say at which input.
  Laid BY PROGRAM, IN A SANDBOX (cutbox-rows.mjs): the forced cells as the released guide's own fill.sh prints them over the translation af4d05b3efe7487f… (all of the seat's roots in one cut). By AI agents, Wed Nov 11 2026. No macro, syntax, notation, axiom, sorry.
-/
import Derived.Test.YtgmpkaipjbgnkaaChecked
import GoSem.Claim
import GoSem.ClaimJoined
import GoSem.ClaimMapViews
import Derived.JoinedTies
import Derived.KernelRfl
namespace Go.Proofs.Ytgmpkaipjbgnkaa
/- THE CELL 'sum', in the pinned program and in every row, IS THE sha256 OF THE DUMP (.gsa) THAT YtgmpkaipjbgnkaaProg.lean LOADS. Nothing in Lean hashes anything: it is a label: what it is worth is what the hold of that sum in a sandbox is worth. -/
noncomputable def Try.pinned : Pinned := { name := "ytgmpkaipjbgnkaa", sum := "af4d05b3efe7487fb4af4f0d1bf101cb6f17c16a09fbd70cc020598c182b85a1", checked := Try.checked }
namespace Rows
def none {H : Type} : Left H := { results := [], args := [] }

/-- 'laws.FnExactConstants': WHATEVER THE INPUT: true; the input reads as it did. -/
def fnExactConstantsSpec : ChangeSpec := { name := "fnExactConstants", fn := fun _ => fun
  | [] => { results := [.lit (.bool true)], args := [] }
  | _ => none }
def fnExactConstantsRow : OpenClaim := { program := "ytgmpkaipjbgnkaa", sum := "af4d05b3efe7487fb4af4f0d1bf101cb6f17c16a09fbd70cc020598c182b85a1", func := "loop.example/g00850/laws.FnExactConstants", spec := "fnExactConstants", apart := false }
def FnExactConstantsSaid : Prop := fnExactConstantsRow.holds Try.pinned (OpenSpec.ofChange fnExactConstantsSpec)

/-- ITS FALSE NEIGHBOUR: 'it returns false'. Refute it at one input. -/
def fnExactConstantsWrong : ChangeSpec := { name := "fnExactConstants", fn := fun _ => fun
  | [] => { results := [.lit (.bool false)], args := [] }
  | _ => none }
def FnExactConstantsWrongFalsely : Prop := fnExactConstantsRow.holds Try.pinned (OpenSpec.ofChange fnExactConstantsWrong)

/-- 'laws.FnExactGoodClock': WHATEVER THE INPUT: true; the input reads as it did. -/
def fnExactGoodClockSpec : ChangeSpec := { name := "fnExactGoodClock", fn := fun _ => fun
  | [d] => { results := [.lit (.bool true)], args := [d] }
  | _ => none }
def fnExactGoodClockRow : OpenClaim := { program := "ytgmpkaipjbgnkaa", sum := "af4d05b3efe7487fb4af4f0d1bf101cb6f17c16a09fbd70cc020598c182b85a1", func := "loop.example/g00850/laws.FnExactGoodClock", spec := "fnExactGoodClock", apart := false }
def FnExactGoodClockSaid : Prop := fnExactGoodClockRow.holds Try.pinned (OpenSpec.ofChange fnExactGoodClockSpec)

/-- ITS FALSE NEIGHBOUR: 'it returns false'. Refute it at one input. -/
def fnExactGoodClockWrong : ChangeSpec := { name := "fnExactGoodClock", fn := fun _ => fun
  | [d] => { results := [.lit (.bool false)], args := [d] }
  | _ => none }
def FnExactGoodClockWrongFalsely : Prop := fnExactGoodClockRow.holds Try.pinned (OpenSpec.ofChange fnExactGoodClockWrong)

/-- 'laws.FnExactGoodSpan': WHATEVER THE INPUT: true; the input reads as it did. -/
def fnExactGoodSpanSpec : ChangeSpec := { name := "fnExactGoodSpan", fn := fun _ => fun
  | [d] => { results := [.lit (.bool true)], args := [d] }
  | _ => none }
def fnExactGoodSpanRow : OpenClaim := { program := "ytgmpkaipjbgnkaa", sum := "af4d05b3efe7487fb4af4f0d1bf101cb6f17c16a09fbd70cc020598c182b85a1", func := "loop.example/g00850/laws.FnExactGoodSpan", spec := "fnExactGoodSpan", apart := false }
def FnExactGoodSpanSaid : Prop := fnExactGoodSpanRow.holds Try.pinned (OpenSpec.ofChange fnExactGoodSpanSpec)

/-- ITS FALSE NEIGHBOUR: 'it returns false'. Refute it at one input. -/
def fnExactGoodSpanWrong : ChangeSpec := { name := "fnExactGoodSpan", fn := fun _ => fun
  | [d] => { results := [.lit (.bool false)], args := [d] }
  | _ => none }
def FnExactGoodSpanWrongFalsely : Prop := fnExactGoodSpanRow.holds Try.pinned (OpenSpec.ofChange fnExactGoodSpanWrong)

/-- 'laws.FnExactGoodDisk': WHATEVER THE INPUT: true; the input reads as it did. -/
def fnExactGoodDiskSpec : ChangeSpec := { name := "fnExactGoodDisk", fn := fun _ => fun
  | [d] => { results := [.lit (.bool true)], args := [d] }
  | _ => none }
def fnExactGoodDiskRow : OpenClaim := { program := "ytgmpkaipjbgnkaa", sum := "af4d05b3efe7487fb4af4f0d1bf101cb6f17c16a09fbd70cc020598c182b85a1", func := "loop.example/g00850/laws.FnExactGoodDisk", spec := "fnExactGoodDisk", apart := false }
def FnExactGoodDiskSaid : Prop := fnExactGoodDiskRow.holds Try.pinned (OpenSpec.ofChange fnExactGoodDiskSpec)

/-- ITS FALSE NEIGHBOUR: 'it returns false'. Refute it at one input. -/
def fnExactGoodDiskWrong : ChangeSpec := { name := "fnExactGoodDisk", fn := fun _ => fun
  | [d] => { results := [.lit (.bool false)], args := [d] }
  | _ => none }
def FnExactGoodDiskWrongFalsely : Prop := fnExactGoodDiskRow.holds Try.pinned (OpenSpec.ofChange fnExactGoodDiskWrong)

/-- 'laws.FnExactIsAhead': WHATEVER THE INPUT: true; the input reads as it did. -/
def fnExactIsAheadSpec : ChangeSpec := { name := "fnExactIsAhead", fn := fun _ => fun
  | [d1, d2] => { results := [.lit (.bool true)], args := [d1, d2] }
  | _ => none }
def fnExactIsAheadRow : OpenClaim := { program := "ytgmpkaipjbgnkaa", sum := "af4d05b3efe7487fb4af4f0d1bf101cb6f17c16a09fbd70cc020598c182b85a1", func := "loop.example/g00850/laws.FnExactIsAhead", spec := "fnExactIsAhead", apart := false }
def FnExactIsAheadSaid : Prop := fnExactIsAheadRow.holds Try.pinned (OpenSpec.ofChange fnExactIsAheadSpec)

/-- ITS FALSE NEIGHBOUR: 'it returns false'. Refute it at one input. -/
def fnExactIsAheadWrong : ChangeSpec := { name := "fnExactIsAhead", fn := fun _ => fun
  | [d1, d2] => { results := [.lit (.bool false)], args := [d1, d2] }
  | _ => none }
def FnExactIsAheadWrongFalsely : Prop := fnExactIsAheadRow.holds Try.pinned (OpenSpec.ofChange fnExactIsAheadWrong)

/-- 'laws.FnExactIsPast': WHATEVER THE INPUT: true; the input reads as it did. -/
def fnExactIsPastSpec : ChangeSpec := { name := "fnExactIsPast", fn := fun _ => fun
  | [d1, d2] => { results := [.lit (.bool true)], args := [d1, d2] }
  | _ => none }
def fnExactIsPastRow : OpenClaim := { program := "ytgmpkaipjbgnkaa", sum := "af4d05b3efe7487fb4af4f0d1bf101cb6f17c16a09fbd70cc020598c182b85a1", func := "loop.example/g00850/laws.FnExactIsPast", spec := "fnExactIsPast", apart := false }
def FnExactIsPastSaid : Prop := fnExactIsPastRow.holds Try.pinned (OpenSpec.ofChange fnExactIsPastSpec)

/-- ITS FALSE NEIGHBOUR: 'it returns false'. Refute it at one input. -/
def fnExactIsPastWrong : ChangeSpec := { name := "fnExactIsPast", fn := fun _ => fun
  | [d1, d2] => { results := [.lit (.bool false)], args := [d1, d2] }
  | _ => none }
def FnExactIsPastWrongFalsely : Prop := fnExactIsPastRow.holds Try.pinned (OpenSpec.ofChange fnExactIsPastWrong)

/-- 'laws.FnExactSurelyAfter': WHATEVER THE INPUT: true; the input reads as it did. -/
def fnExactSurelyAfterSpec : ChangeSpec := { name := "fnExactSurelyAfter", fn := fun _ => fun
  | [d1, d2] => { results := [.lit (.bool true)], args := [d1, d2] }
  | _ => none }
def fnExactSurelyAfterRow : OpenClaim := { program := "ytgmpkaipjbgnkaa", sum := "af4d05b3efe7487fb4af4f0d1bf101cb6f17c16a09fbd70cc020598c182b85a1", func := "loop.example/g00850/laws.FnExactSurelyAfter", spec := "fnExactSurelyAfter", apart := false }
def FnExactSurelyAfterSaid : Prop := fnExactSurelyAfterRow.holds Try.pinned (OpenSpec.ofChange fnExactSurelyAfterSpec)

/-- ITS FALSE NEIGHBOUR: 'it returns false'. Refute it at one input. -/
def fnExactSurelyAfterWrong : ChangeSpec := { name := "fnExactSurelyAfter", fn := fun _ => fun
  | [d1, d2] => { results := [.lit (.bool false)], args := [d1, d2] }
  | _ => none }
def FnExactSurelyAfterWrongFalsely : Prop := fnExactSurelyAfterRow.holds Try.pinned (OpenSpec.ofChange fnExactSurelyAfterWrong)

/- THE SECOND FORM. 'bulk': how many values and letters a reading holds, each counted each time it is reached (what is shared counts as often as it is met; a slice's spare places count too). A statement '..UptoSaid' is the law's where the arguments, and the package variables that the reading takes, are together of bulk at most 1048576: NARROWER than '..Said'. Prove '..Said' where nothing that the law and all that it calls make is longer than what came in: it says more and counts as full. Else prove '..UptoSaid'. A law counts once. -/
mutual
def uptoBulk {H : Type} : DataW H → Nat
  | .lit (.string bytes) => bytes.length + 1
  | .lit _ => 1
  | .nil => 1
  | .ptr d => uptoBulk d + 1
  | .slice elems spare => uptoBulkAll elems + uptoBulkAll spare + 1
  | .agg parts => uptoBulkAll parts + 1
  | .iface _ d => uptoBulk d + 1
  | .map entries => uptoBulkEntries entries + 1
  | .held _ => 1
def uptoBulkAll {H : Type} : List (DataW H) → Nat
  | [] => 0
  | d :: r => uptoBulk d + uptoBulkAll r
def uptoBulkEntries {H : Type} : List (Lit × DataW H) → Nat
  | [] => 0
  | x :: r => uptoBulkEntry x + uptoBulkEntries r
def uptoBulkEntry {H : Type} : Lit × DataW H → Nat
  | (.string bytes, d) => bytes.length + uptoBulk d + 1
  | (_, d) => uptoBulk d + 1
 end
def uptoSmall : (H : Type) → List (DataW H) → Bool := fun _ ds => decide (uptoBulkAll ds ≤ 1048576)
def OpenSpec.upto (s : _root_.Go.ChangeSpec) : _root_.Go.OpenSpec := { _root_.Go.OpenSpec.ofChange s with cond := some uptoSmall }

/-- 'laws.FnExactConstants', WHERE WHAT IT READS IS OF BULK AT MOST 1048576: true; the input reads as it did. -/
def fnExactConstantsUptoRow : OpenClaim := { program := "ytgmpkaipjbgnkaa", sum := "af4d05b3efe7487fb4af4f0d1bf101cb6f17c16a09fbd70cc020598c182b85a1", func := "loop.example/g00850/laws.FnExactConstants", spec := "fnExactConstants", apart := false, narrowed := true }
def FnExactConstantsUptoSaid : Prop := fnExactConstantsUptoRow.holds Try.pinned (OpenSpec.upto fnExactConstantsSpec)

/-- 'laws.FnExactGoodClock', WHERE WHAT IT READS IS OF BULK AT MOST 1048576: true; the input reads as it did. -/
def fnExactGoodClockUptoRow : OpenClaim := { program := "ytgmpkaipjbgnkaa", sum := "af4d05b3efe7487fb4af4f0d1bf101cb6f17c16a09fbd70cc020598c182b85a1", func := "loop.example/g00850/laws.FnExactGoodClock", spec := "fnExactGoodClock", apart := false, narrowed := true }
def FnExactGoodClockUptoSaid : Prop := fnExactGoodClockUptoRow.holds Try.pinned (OpenSpec.upto fnExactGoodClockSpec)

/-- 'laws.FnExactGoodSpan', WHERE WHAT IT READS IS OF BULK AT MOST 1048576: true; the input reads as it did. -/
def fnExactGoodSpanUptoRow : OpenClaim := { program := "ytgmpkaipjbgnkaa", sum := "af4d05b3efe7487fb4af4f0d1bf101cb6f17c16a09fbd70cc020598c182b85a1", func := "loop.example/g00850/laws.FnExactGoodSpan", spec := "fnExactGoodSpan", apart := false, narrowed := true }
def FnExactGoodSpanUptoSaid : Prop := fnExactGoodSpanUptoRow.holds Try.pinned (OpenSpec.upto fnExactGoodSpanSpec)

/-- 'laws.FnExactGoodDisk', WHERE WHAT IT READS IS OF BULK AT MOST 1048576: true; the input reads as it did. -/
def fnExactGoodDiskUptoRow : OpenClaim := { program := "ytgmpkaipjbgnkaa", sum := "af4d05b3efe7487fb4af4f0d1bf101cb6f17c16a09fbd70cc020598c182b85a1", func := "loop.example/g00850/laws.FnExactGoodDisk", spec := "fnExactGoodDisk", apart := false, narrowed := true }
def FnExactGoodDiskUptoSaid : Prop := fnExactGoodDiskUptoRow.holds Try.pinned (OpenSpec.upto fnExactGoodDiskSpec)

/-- 'laws.FnExactIsAhead', WHERE WHAT IT READS IS OF BULK AT MOST 1048576: true; the input reads as it did. -/
def fnExactIsAheadUptoRow : OpenClaim := { program := "ytgmpkaipjbgnkaa", sum := "af4d05b3efe7487fb4af4f0d1bf101cb6f17c16a09fbd70cc020598c182b85a1", func := "loop.example/g00850/laws.FnExactIsAhead", spec := "fnExactIsAhead", apart := false, narrowed := true }
def FnExactIsAheadUptoSaid : Prop := fnExactIsAheadUptoRow.holds Try.pinned (OpenSpec.upto fnExactIsAheadSpec)

/-- 'laws.FnExactIsPast', WHERE WHAT IT READS IS OF BULK AT MOST 1048576: true; the input reads as it did. -/
def fnExactIsPastUptoRow : OpenClaim := { program := "ytgmpkaipjbgnkaa", sum := "af4d05b3efe7487fb4af4f0d1bf101cb6f17c16a09fbd70cc020598c182b85a1", func := "loop.example/g00850/laws.FnExactIsPast", spec := "fnExactIsPast", apart := false, narrowed := true }
def FnExactIsPastUptoSaid : Prop := fnExactIsPastUptoRow.holds Try.pinned (OpenSpec.upto fnExactIsPastSpec)

/-- 'laws.FnExactSurelyAfter', WHERE WHAT IT READS IS OF BULK AT MOST 1048576: true; the input reads as it did. -/
def fnExactSurelyAfterUptoRow : OpenClaim := { program := "ytgmpkaipjbgnkaa", sum := "af4d05b3efe7487fb4af4f0d1bf101cb6f17c16a09fbd70cc020598c182b85a1", func := "loop.example/g00850/laws.FnExactSurelyAfter", spec := "fnExactSurelyAfter", apart := false, narrowed := true }
def FnExactSurelyAfterUptoSaid : Prop := fnExactSurelyAfterUptoRow.holds Try.pinned (OpenSpec.upto fnExactSurelyAfterSpec)

end Rows
end Go.Proofs.Ytgmpkaipjbgnkaa
