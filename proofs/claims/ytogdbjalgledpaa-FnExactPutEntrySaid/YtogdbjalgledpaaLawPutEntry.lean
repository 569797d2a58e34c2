/- For every input the law FnExactPutEntry returns true, and each argument reads afterwards as it read before. No condition beside the row's own. -/
import Derived.Test.YtogdbjalgledpaaWalkPutEntry
import Derived.Test.YtogdbjalgledpaaCore
import Derived.Test.YtogdbjalgledpaaDArgsGrp
import Derived.Test.YtogdbjalgledpaaDArgsRec
import Derived.Test.YtogdbjalgledpaaFacts
namespace Go.Proofs.Ytogdbjalgledpaa.fnExactPutEntry
open Go.ChangeShapes Go.WideShapes Go.ChangeAt Go.RowKit

set_option maxRecDepth 100000 in
/-- What the walk gives, for every argument. -/
theorem contract {H : Type} {enc : TypeId × Value → H} (W : World) (base : Nat) (args : Array Value) (ds gs : List (DataW H)) (before : List MemPlace)
    (hval : ∀ (j : Nat) t v, Try.f5.params[j]? = some t → args[j]? = some v → Value.okWide Try.prog W .any base t v)
    (hW : DataW.Whole enc Try.prog Try.f5.params.toList Rows.fnExactPutEntrySpec.vars false W args.toList ds gs before) :
    Calls Try.prog 5 args W fun e W' => e = .returned (.bool true) ∧ Below W.heap.size W W' := by
  obtain ⟨p, q, hA0, _, _, _, _⟩ := hW
  have hA : DataW.TrodAll enc Try.prog W 0 (fun _ => true) true Try.f5.params.toList args.toList ds p := hA0
  rw [Try.params5] at hA hval
  clear hA0
  obtain ⟨v0, v1, d0, d1, p0, p1, rfl, rfl, rfl, h0, h1⟩ := trodAll_two hA
  obtain ⟨y0, uReps0, rfl, rReps0, zTerm0, zLead0⟩ := arg_group_d (hval 0 24 _ rfl rfl) h0
  obtain ⟨y1, uReads1, uWrites1, rfl, rReads1, rWrites1, zKind1, zTxn1, zTime1, zLead1⟩ := arg_recd_d (hval 1 40 _ rfl rfl) h1
  exact walk (w := W) y0 _ rReps0 zTerm0 zLead0 y1 _ _ rReads1 rWrites1 zKind1 zTxn1 zTime1 zLead1 trivial

set_option maxRecDepth 100000 in
theorem lifted (os : Os) (started : os.Started) (H : Type) (enc : TypeId × Value → H) :
    ReturnsInHanded {} Try.checked os 5 .any (Rows.fnExactPutEntrySpec.pre6 enc Try.prog Try.f5 Rows.fnExactPutEntryRow.domain false) (Rows.fnExactPutEntrySpec.post enc Try.prog Try.f5 false true false false) := by
  refine returnsInHanded_of_change (C := Try.checked) own started (by kernel_rfl) Try.func5
    (ChangeSpec.witness6 (enc := enc) (C := Try.checked) false ⟨#[], #[.agg #[.slice none 0 0, .int .i64 0, .int .i64 0], .agg #[.int .i64 0, .int .i64 0, .int .i64 0, .int .i64 0, .slice none 0 0, .slice none 0 0, .bool false]], []⟩ 8 (by kernel_rfl) (by kernel_rfl) (by kernel_rfl) (by kernel_rfl)) ?_
  intro W base args ds gs before hval hW _ _
  refine (contract W base args ds gs before hval hW).mono fun e W' ⟨he, hb⟩ => ⟨_, he, ?_⟩
  exact law_post laidOut (by kernel_rfl) rfl Try.underlying4 rfl (fun xs hx => by
    match xs, hx with
    | [d0, d1], _ => rfl) hW hb

theorem closed : joinedFacts Try.prog 5 Try.f5 Rows.fnExactPutEntrySpec Rows.fnExactPutEntryRow = true := by
  unfold joinedFacts
  rw [factEnter, factLifts, factMake]
  kernel_rfl

theorem holds : Rows.FnExactPutEntrySaid :=
  OpenClaim.holds_of_wide 5 Try.f5 rfl rfl rfl rfl rfl rfl rfl ⟨rfl, rfl, rfl, rfl, rfl⟩ rfl rfl rfl rfl rfl (by kernel_rfl) Try.func5 closed
    (of_decide_eq_true (by kernel_rfl)) (by unfold Func.isWrapper; first | (rw [if_pos (by decide +kernel)]; kernel_rfl) | (rw [if_neg (by decide +kernel)]; exact ⟨rfl, rfl⟩))
    (fun os started H enc _ => lifted os started H enc)
#print axioms holds
end Go.Proofs.Ytogdbjalgledpaa.fnExactPutEntry
