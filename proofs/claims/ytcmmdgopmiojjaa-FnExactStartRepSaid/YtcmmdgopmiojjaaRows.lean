/-
  No cell of these rows narrows 'for every input' (looked for: loops, veiled, ifaces, maps, wideKeys, modest, calm, conditions, laid).
  DERIVED. THE GIVEN ROWS OF THIS SEAT. 11 by the template 'for every input the law returns true; each argument reads behind the call as it read before'; 0 by the template 'total and deterministic' (their statements: YtcmmdgopmiojjaaTotals.lean).
  GIVEN WITH THE SEED: the statements are not yours to turn. If you find one false, say at which input.
  Laid BY PROGRAM, IN A SANDBOX (cutbox-rows.mjs): the forced cells as the released guide's own fill.sh prints them over the translation 9d1ef53424231123… (all of the seat's roots in one cut). By AI agents, Wed Nov 11 2026. No macro, syntax, notation, axiom, sorry.
-/
import Derived.Test.YtcmmdgopmiojjaaChecked
import GoSem.Claim
import GoSem.ClaimJoined
import GoSem.ClaimMapViews
import Derived.JoinedTies
import Derived.KernelRfl
namespace Go.Proofs.Ytcmmdgopmiojjaa
/- THE CELL 'sum', in the pinned program and in every row, IS THE sha256 OF THE DUMP (.gsa) THAT YtcmmdgopmiojjaaProg.lean LOADS. Nothing in Lean hashes anything: it is a label: what it is worth is what the hold of that sum in a sandbox is worth. -/
noncomputable def Try.pinned : Pinned := { name := "ytcmmdgopmiojjaa", sum := "9d1ef534242311231397188729f6ec6e8a70e2bcef0e9371bf076baf1bb05ec5", checked := Try.checked }
namespace Rows
def none {H : Type} : Left H := { results := [], args := [] }

/-- 'laws.FnExactSureLog': WHATEVER THE INPUT: true; the input reads as it did. -/
def fnExactSureLogSpec : ChangeSpec := { name := "fnExactSureLog", fn := fun _ => fun
  | [d] => { results := [.lit (.bool true)], args := [d] }
  | _ => none }
def fnExactSureLogRow : OpenClaim := { program := "ytcmmdgopmiojjaa", sum := "9d1ef534242311231397188729f6ec6e8a70e2bcef0e9371bf076baf1bb05ec5", func := "loop.example/g00850/laws.FnExactSureLog", spec := "fnExactSureLog", inPlace := ["internal/bytealg.IndexByteString"], unfollowed := true, recurses := true, apart := false }
def FnExactSureLogSaid : Prop := fnExactSureLogRow.holds Try.pinned (OpenSpec.ofChange fnExactSureLogSpec)

/-- ITS FALSE NEIGHBOUR: 'it returns false'. Refute it at one input. -/
def fnExactSureLogWrong : ChangeSpec := { name := "fnExactSureLog", fn := fun _ => fun
  | [d] => { results := [.lit (.bool false)], args := [d] }
  | _ => none }
def FnExactSureLogWrongFalsely : Prop := fnExactSureLogRow.holds Try.pinned (OpenSpec.ofChange fnExactSureLogWrong)

/-- 'laws.FnExactIsSafe': WHATEVER THE INPUT: true; the input reads as it did. -/
def fnExactIsSafeSpec : ChangeSpec := { name := "fnExactIsSafe", fn := fun _ => fun
  | [d] => { results := [.lit (.bool true)], args := [d] }
  | _ => none }
def fnExactIsSafeRow : OpenClaim := { program := "ytcmmdgopmiojjaa", sum := "9d1ef534242311231397188729f6ec6e8a70e2bcef0e9371bf076baf1bb05ec5", func := "loop.example/g00850/laws.FnExactIsSafe", spec := "fnExactIsSafe", inPlace := ["internal/bytealg.IndexByteString"], unfollowed := true, recurses := true, apart := false }
def FnExactIsSafeSaid : Prop := fnExactIsSafeRow.holds Try.pinned (OpenSpec.ofChange fnExactIsSafeSpec)

/-- ITS FALSE NEIGHBOUR: 'it returns false'. Refute it at one input. -/
def fnExactIsSafeWrong : ChangeSpec := { name := "fnExactIsSafe", fn := fun _ => fun
  | [d] => { results := [.lit (.bool false)], args := [d] }
  | _ => none }
def FnExactIsSafeWrongFalsely : Prop := fnExactIsSafeRow.holds Try.pinned (OpenSpec.ofChange fnExactIsSafeWrong)

/-- 'laws.FnExactNewGroup': WHATEVER THE INPUT: true; the input reads as it did. -/
def fnExactNewGroupSpec : ChangeSpec := { name := "fnExactNewGroup", fn := fun _ => fun
  | [d] => { results := [.lit (.bool true)], args := [d] }
  | _ => none }
def fnExactNewGroupRow : OpenClaim := { program := "ytcmmdgopmiojjaa", sum := "9d1ef534242311231397188729f6ec6e8a70e2bcef0e9371bf076baf1bb05ec5", func := "loop.example/g00850/laws.FnExactNewGroup", spec := "fnExactNewGroup", apart := false }
def FnExactNewGroupSaid : Prop := fnExactNewGroupRow.holds Try.pinned (OpenSpec.ofChange fnExactNewGroupSpec)

/-- ITS FALSE NEIGHBOUR: 'it returns false'. Refute it at one input. -/
def fnExactNewGroupWrong : ChangeSpec := { name := "fnExactNewGroup", fn := fun _ => fun
  | [d] => { results := [.lit (.bool false)], args := [d] }
  | _ => none }
def FnExactNewGroupWrongFalsely : Prop := fnExactNewGroupRow.holds Try.pinned (OpenSpec.ofChange fnExactNewGroupWrong)

/-- 'laws.FnExactNewPoll': WHATEVER THE INPUT: true; the input reads as it did. -/
def fnExactNewPollSpec : ChangeSpec := { name := "fnExactNewPoll", fn := fun _ => fun
  | [d1, d2] => { results := [.lit (.bool true)], args := [d1, d2] }
  | _ => none }
def fnExactNewPollRow : OpenClaim := { program := "ytcmmdgopmiojjaa", sum := "9d1ef534242311231397188729f6ec6e8a70e2bcef0e9371bf076baf1bb05ec5", func := "loop.example/g00850/laws.FnExactNewPoll", spec := "fnExactNewPoll", unfollowed := true, recurses := true, apart := false }
def FnExactNewPollSaid : Prop := fnExactNewPollRow.holds Try.pinned (OpenSpec.ofChange fnExactNewPollSpec)

/-- ITS FALSE NEIGHBOUR: 'it returns false'. Refute it at one input. -/
def fnExactNewPollWrong : ChangeSpec := { name := "fnExactNewPoll", fn := fun _ => fun
  | [d1, d2] => { results := [.lit (.bool false)], args := [d1, d2] }
  | _ => none }
def FnExactNewPollWrongFalsely : Prop := fnExactNewPollRow.holds Try.pinned (OpenSpec.ofChange fnExactNewPollWrong)

/-- 'laws.FnExactStartRep': WHATEVER THE INPUT: true; the input reads as it did. -/
def fnExactStartRepSpec : ChangeSpec := { name := "fnExactStartRep", fn := fun _ => fun
  | [d1, d2] => { results := [.lit (.bool true)], args := [d1, d2] }
  | _ => none }
def fnExactStartRepRow : OpenClaim := { program := "ytcmmdgopmiojjaa", sum := "9d1ef534242311231397188729f6ec6e8a70e2bcef0e9371bf076baf1bb05ec5", func := "loop.example/g00850/laws.FnExactStartRep", spec := "fnExactStartRep", inPlace := ["internal/bytealg.IndexByteString"], unfollowed := true, recurses := true, apart := false }
def FnExactStartRepSaid : Prop := fnExactStartRepRow.holds Try.pinned (OpenSpec.ofChange fnExactStartRepSpec)

/-- ITS FALSE NEIGHBOUR: 'it returns false'. Refute it at one input. -/
def fnExactStartRepWrong : ChangeSpec := { name := "fnExactStartRep", fn := fun _ => fun
  | [d1, d2] => { results := [.lit (.bool false)], args := [d1, d2] }
  | _ => none }
def FnExactStartRepWrongFalsely : Prop := fnExactStartRepRow.holds Try.pinned (OpenSpec.ofChange fnExactStartRepWrong)

/-- 'laws.FnExactPutEntry': WHATEVER THE INPUT: true; the input reads as it did. -/
def fnExactPutEntrySpec : ChangeSpec := { name := "fnExactPutEntry", fn := fun _ => fun
  | [d1, d2] => { results := [.lit (.bool true)], args := [d1, d2] }
  | _ => none }
def fnExactPutEntryRow : OpenClaim := { program := "ytcmmdgopmiojjaa", sum := "9d1ef534242311231397188729f6ec6e8a70e2bcef0e9371bf076baf1bb05ec5", func := "loop.example/g00850/laws.FnExactPutEntry", spec := "fnExactPutEntry", inPlace := ["internal/bytealg.IndexByteString"], unfollowed := true, recurses := true, apart := false }
def FnExactPutEntrySaid : Prop := fnExactPutEntryRow.holds Try.pinned (OpenSpec.ofChange fnExactPutEntrySpec)

/-- ITS FALSE NEIGHBOUR: 'it returns false'. Refute it at one input. -/
def fnExactPutEntryWrong : ChangeSpec := { name := "fnExactPutEntry", fn := fun _ => fun
  | [d1, d2] => { results := [.lit (.bool false)], args := [d1, d2] }
  | _ => none }
def FnExactPutEntryWrongFalsely : Prop := fnExactPutEntryRow.holds Try.pinned (OpenSpec.ofChange fnExactPutEntryWrong)

/-- 'laws.FnMost': WHATEVER THE INPUT: true; the input reads as it did. -/
def fnMostSpec : ChangeSpec := { name := "fnMost", fn := fun _ => fun
  | [d] => { results := [.lit (.bool true)], args := [d] }
  | _ => none }
def fnMostRow : OpenClaim := { program := "ytcmmdgopmiojjaa", sum := "9d1ef534242311231397188729f6ec6e8a70e2bcef0e9371bf076baf1bb05ec5", func := "loop.example/g00850/laws.FnMost", spec := "fnMost", inPlace := ["internal/bytealg.IndexByteString"], unfollowed := true, recurses := true, apart := false }
def FnMostSaid : Prop := fnMostRow.holds Try.pinned (OpenSpec.ofChange fnMostSpec)

/-- ITS FALSE NEIGHBOUR: 'it returns false'. Refute it at one input. -/
def fnMostWrong : ChangeSpec := { name := "fnMost", fn := fun _ => fun
  | [d] => { results := [.lit (.bool false)], args := [d] }
  | _ => none }
def FnMostWrongFalsely : Prop := fnMostRow.holds Try.pinned (OpenSpec.ofChange fnMostWrong)

/-- 'laws.FnOldTerm': WHATEVER THE INPUT: true; the input reads as it did. -/
def fnOldTermSpec : ChangeSpec := { name := "fnOldTerm", fn := fun _ => fun
  | [d] => { results := [.lit (.bool true)], args := [d] }
  | _ => none }
def fnOldTermRow : OpenClaim := { program := "ytcmmdgopmiojjaa", sum := "9d1ef534242311231397188729f6ec6e8a70e2bcef0e9371bf076baf1bb05ec5", func := "loop.example/g00850/laws.FnOldTerm", spec := "fnOldTerm", inPlace := ["internal/bytealg.IndexByteString"], unfollowed := true, recurses := true, apart := false }
def FnOldTermSaid : Prop := fnOldTermRow.holds Try.pinned (OpenSpec.ofChange fnOldTermSpec)

/-- ITS FALSE NEIGHBOUR: 'it returns false'. Refute it at one input. -/
def fnOldTermWrong : ChangeSpec := { name := "fnOldTerm", fn := fun _ => fun
  | [d] => { results := [.lit (.bool false)], args := [d] }
  | _ => none }
def FnOldTermWrongFalsely : Prop := fnOldTermRow.holds Try.pinned (OpenSpec.ofChange fnOldTermWrong)

/-- 'laws.FnEver': WHATEVER THE INPUT: true; the input reads as it did. -/
def fnEverSpec : ChangeSpec := { name := "fnEver", fn := fun _ => fun
  | [d] => { results := [.lit (.bool true)], args := [d] }
  | _ => none }
def fnEverRow : OpenClaim := { program := "ytcmmdgopmiojjaa", sum := "9d1ef534242311231397188729f6ec6e8a70e2bcef0e9371bf076baf1bb05ec5", func := "loop.example/g00850/laws.FnEver", spec := "fnEver", inPlace := ["internal/bytealg.IndexByteString"], unfollowed := true, recurses := true, apart := false }
def FnEverSaid : Prop := fnEverRow.holds Try.pinned (OpenSpec.ofChange fnEverSpec)

/-- ITS FALSE NEIGHBOUR: 'it returns false'. Refute it at one input. -/
def fnEverWrong : ChangeSpec := { name := "fnEver", fn := fun _ => fun
  | [d] => { results := [.lit (.bool false)], args := [d] }
  | _ => none }
def FnEverWrongFalsely : Prop := fnEverRow.holds Try.pinned (OpenSpec.ofChange fnEverWrong)

/-- 'laws.FnSafe': WHATEVER THE INPUT: true; the input reads as it did. -/
def fnSafeSpec : ChangeSpec := { name := "fnSafe", fn := fun _ => fun
  | [d] => { results := [.lit (.bool true)], args := [d] }
  | _ => none }
def fnSafeRow : OpenClaim := { program := "ytcmmdgopmiojjaa", sum := "9d1ef534242311231397188729f6ec6e8a70e2bcef0e9371bf076baf1bb05ec5", func := "loop.example/g00850/laws.FnSafe", spec := "fnSafe", inPlace := ["internal/bytealg.IndexByteString"], unfollowed := true, recurses := true, apart := false }
def FnSafeSaid : Prop := fnSafeRow.holds Try.pinned (OpenSpec.ofChange fnSafeSpec)

/-- ITS FALSE NEIGHBOUR: 'it returns false'. Refute it at one input. -/
def fnSafeWrong : ChangeSpec := { name := "fnSafe", fn := fun _ => fun
  | [d] => { results := [.lit (.bool false)], args := [d] }
  | _ => none }
def FnSafeWrongFalsely : Prop := fnSafeRow.holds Try.pinned (OpenSpec.ofChange fnSafeWrong)

/-- 'laws.FnFall': WHATEVER THE INPUT: true; the input reads as it did. -/
def fnFallSpec : ChangeSpec := { name := "fnFall", fn := fun _ => fun
  | [d] => { results := [.lit (.bool true)], args := [d] }
  | _ => none }
def fnFallRow : OpenClaim := { program := "ytcmmdgopmiojjaa", sum := "9d1ef534242311231397188729f6ec6e8a70e2bcef0e9371bf076baf1bb05ec5", func := "loop.example/g00850/laws.FnFall", spec := "fnFall", apart := false }
def FnFallSaid : Prop := fnFallRow.holds Try.pinned (OpenSpec.ofChange fnFallSpec)

/-- ITS FALSE NEIGHBOUR: 'it returns false'. Refute it at one input. -/
def fnFallWrong : ChangeSpec := { name := "fnFall", fn := fun _ => fun
  | [d] => { results := [.lit (.bool false)], args := [d] }
  | _ => none }
def FnFallWrongFalsely : Prop := fnFallRow.holds Try.pinned (OpenSpec.ofChange fnFallWrong)

/- THE SECOND FORM. 'bulk': how many values and letters a reading holds, each counted each time it is reached (what is shared counts as often as it is met; a slice's spare places count too). A statement '..UptoSaid' is the law's where the arguments, and the package variables that the reading takes, are together of bulk at most 1048576: NARROWER than '..Said'. Prove '..Said' where nothing that the law and all that it calls make is longer than what came in: it says more and counts as full. Else prove '..UptoSaid'. A law counts once. -/
mutual
def uptoBulk {H : Type} : DataW H → Nat
  | .lit (.string bytes) => bytes.length + 1
  | .lit _ => 1
  | .nil => 1
  | .ptr d => uptoBulk d + 1
  | .slice elems spare => uptoBulkAll elems + uptoBulkAll spare + 1
  | .agg parts => uptoBulkAll parts + 1
  | .iface _ d => uptoBulk d + 1
  | .map entries => uptoBulkEntries entries + 1
  | .held _ => 1
def uptoBulkAll {H : Type} : List (DataW H) → Nat
  | [] => 0
  | d :: r => uptoBulk d + uptoBulkAll r
def uptoBulkEntries {H : Type} : List (Lit × DataW H) → Nat
  | [] => 0
  | x :: r => uptoBulkEntry x + uptoBulkEntries r
def uptoBulkEntry {H : Type} : Lit × DataW H → Nat
  | (.string bytes, d) => bytes.length + uptoBulk d + 1
  | (_, d) => uptoBulk d + 1
 end
def uptoSmall : (H : Type) → List (DataW H) → Bool := fun _ ds => decide (uptoBulkAll ds ≤ 1048576)
def OpenSpec.upto (s : _root_.Go.ChangeSpec) : _root_.Go.OpenSpec := { _root_.Go.OpenSpec.ofChange s with cond := some uptoSmall }

/-- 'laws.FnExactSureLog', WHERE WHAT IT READS IS OF BULK AT MOST 1048576: true; the input reads as it did. -/
def fnExactSureLogUptoRow : OpenClaim := { program := "ytcmmdgopmiojjaa", sum := "9d1ef534242311231397188729f6ec6e8a70e2bcef0e9371bf076baf1bb05ec5", func := "loop.example/g00850/laws.FnExactSureLog", spec := "fnExactSureLog", inPlace := ["internal/bytealg.IndexByteString"], unfollowed := true, recurses := true, apart := false, narrowed := true }
def FnExactSureLogUptoSaid : Prop := fnExactSureLogUptoRow.holds Try.pinned (OpenSpec.upto fnExactSureLogSpec)

/-- 'laws.FnExactIsSafe', WHERE WHAT IT READS IS OF BULK AT MOST 1048576: true; the input reads as it did. -/
def fnExactIsSafeUptoRow : OpenClaim := { program := "ytcmmdgopmiojjaa", sum := "9d1ef534242311231397188729f6ec6e8a70e2bcef0e9371bf076baf1bb05ec5", func := "loop.example/g00850/laws.FnExactIsSafe", spec := "fnExactIsSafe", inPlace := ["internal/bytealg.IndexByteString"], unfollowed := true, recurses := true, apart := false, narrowed := true }
def FnExactIsSafeUptoSaid : Prop := fnExactIsSafeUptoRow.holds Try.pinned (OpenSpec.upto fnExactIsSafeSpec)

/-- 'laws.FnExactNewGroup', WHERE WHAT IT READS IS OF BULK AT MOST 1048576: true; the input reads as it did. -/
def fnExactNewGroupUptoRow : OpenClaim := { program := "ytcmmdgopmiojjaa", sum := "9d1ef534242311231397188729f6ec6e8a70e2bcef0e9371bf076baf1bb05ec5", func := "loop.example/g00850/laws.FnExactNewGroup", spec := "fnExactNewGroup", apart := false, narrowed := true }
def FnExactNewGroupUptoSaid : Prop := fnExactNewGroupUptoRow.holds Try.pinned (OpenSpec.upto fnExactNewGroupSpec)

/-- 'laws.FnExactNewPoll', WHERE WHAT IT READS IS OF BULK AT MOST 1048576: true; the input reads as it did. -/
def fnExactNewPollUptoRow : OpenClaim := { program := "ytcmmdgopmiojjaa", sum := "9d1ef534242311231397188729f6ec6e8a70e2bcef0e9371bf076baf1bb05ec5", func := "loop.example/g00850/laws.FnExactNewPoll", spec := "fnExactNewPoll", unfollowed := true, recurses := true, apart := false, narrowed := true }
def FnExactNewPollUptoSaid : Prop := fnExactNewPollUptoRow.holds Try.pinned (OpenSpec.upto fnExactNewPollSpec)

/-- 'laws.FnExactStartRep', WHERE WHAT IT READS IS OF BULK AT MOST 1048576: true; the input reads as it did. -/
def fnExactStartRepUptoRow : OpenClaim := { program := "ytcmmdgopmiojjaa", sum := "9d1ef534242311231397188729f6ec6e8a70e2bcef0e9371bf076baf1bb05ec5", func := "loop.example/g00850/laws.FnExactStartRep", spec := "fnExactStartRep", inPlace := ["internal/bytealg.IndexByteString"], unfollowed := true, recurses := true, apart := false, narrowed := true }
def FnExactStartRepUptoSaid : Prop := fnExactStartRepUptoRow.holds Try.pinned (OpenSpec.upto fnExactStartRepSpec)

/-- 'laws.FnExactPutEntry', WHERE WHAT IT READS IS OF BULK AT MOST 1048576: true; the input reads as it did. -/
def fnExactPutEntryUptoRow : OpenClaim := { program := "ytcmmdgopmiojjaa", sum := "9d1ef534242311231397188729f6ec6e8a70e2bcef0e9371bf076baf1bb05ec5", func := "loop.example/g00850/laws.FnExactPutEntry", spec := "fnExactPutEntry", inPlace := ["internal/bytealg.IndexByteString"], unfollowed := true, recurses := true, apart := false, narrowed := true }
def FnExactPutEntryUptoSaid : Prop := fnExactPutEntryUptoRow.holds Try.pinned (OpenSpec.upto fnExactPutEntrySpec)

/-- 'laws.FnMost', WHERE WHAT IT READS IS OF BULK AT MOST 1048576: true; the input reads as it did. -/
def fnMostUptoRow : OpenClaim := { program := "ytcmmdgopmiojjaa", sum := "9d1ef534242311231397188729f6ec6e8a70e2bcef0e9371bf076baf1bb05ec5", func := "loop.example/g00850/laws.FnMost", spec := "fnMost", inPlace := ["internal/bytealg.IndexByteString"], unfollowed := true, recurses := true, apart := false, narrowed := true }
def FnMostUptoSaid : Prop := fnMostUptoRow.holds Try.pinned (OpenSpec.upto fnMostSpec)

/-- 'laws.FnOldTerm', WHERE WHAT IT READS IS OF BULK AT MOST 1048576: true; the input reads as it did. -/
def fnOldTermUptoRow : OpenClaim := { program := "ytcmmdgopmiojjaa", sum := "9d1ef534242311231397188729f6ec6e8a70e2bcef0e9371bf076baf1bb05ec5", func := "loop.example/g00850/laws.FnOldTerm", spec := "fnOldTerm", inPlace := ["internal/bytealg.IndexByteString"], unfollowed := true, recurses := true, apart := false, narrowed := true }
def FnOldTermUptoSaid : Prop := fnOldTermUptoRow.holds Try.pinned (OpenSpec.upto fnOldTermSpec)

/-- 'laws.FnEver', WHERE WHAT IT READS IS OF BULK AT MOST 1048576: true; the input reads as it did. -/
def fnEverUptoRow : OpenClaim := { program := "ytcmmdgopmiojjaa", sum := "9d1ef534242311231397188729f6ec6e8a70e2bcef0e9371bf076baf1bb05ec5", func := "loop.example/g00850/laws.FnEver", spec := "fnEver", inPlace := ["internal/bytealg.IndexByteString"], unfollowed := true, recurses := true, apart := false, narrowed := true }
def FnEverUptoSaid : Prop := fnEverUptoRow.holds Try.pinned (OpenSpec.upto fnEverSpec)

/-- 'laws.FnSafe', WHERE WHAT IT READS IS OF BULK AT MOST 1048576: true; the input reads as it did. -/
def fnSafeUptoRow : OpenClaim := { program := "ytcmmdgopmiojjaa", sum := "9d1ef534242311231397188729f6ec6e8a70e2bcef0e9371bf076baf1bb05ec5", func := "loop.example/g00850/laws.FnSafe", spec := "fnSafe", inPlace := ["internal/bytealg.IndexByteString"], unfollowed := true, recurses := true, apart := false, narrowed := true }
def FnSafeUptoSaid : Prop := fnSafeUptoRow.holds Try.pinned (OpenSpec.upto fnSafeSpec)

/-- 'laws.FnFall', WHERE WHAT IT READS IS OF BULK AT MOST 1048576: true; the input reads as it did. -/
def fnFallUptoRow : OpenClaim := { program := "ytcmmdgopmiojjaa", sum := "9d1ef534242311231397188729f6ec6e8a70e2bcef0e9371bf076baf1bb05ec5", func := "loop.example/g00850/laws.FnFall", spec := "fnFall", apart := false, narrowed := true }
def FnFallUptoSaid : Prop := fnFallUptoRow.holds Try.pinned (OpenSpec.upto fnFallSpec)

end Rows
end Go.Proofs.Ytcmmdgopmiojjaa
