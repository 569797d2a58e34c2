/- For every input the law FnExactPutRows returns true, and each argument reads afterwards as it read before. No condition beside the row's own. -/
import Derived.Test.YtkcidneefdaaiaaWalkPutRows
import Derived.Test.YtkcidneefdaaiaaCore
import Derived.Test.YtkcidneefdaaiaaDArgs
import Derived.Test.YtkcidneefdaaiaaFacts
namespace Go.Proofs.Ytkcidneefdaaiaa.fnExactPutRows
open Go.ChangeShapes Go.WideShapes Go.ChangeAt Go.RowKit

set_option maxRecDepth 100000 in
/-- What the walk gives, for every argument. -/
theorem contract {H : Type} {enc : TypeId × Value → H} (W : World) (base : Nat) (args : Array Value) (ds gs : List (DataW H)) (before : List MemPlace)
    (hval : ∀ (j : Nat) t v, Try.f3.params[j]? = some t → args[j]? = some v → Value.okWide Try.prog W .any base t v)
    (hW : DataW.Whole enc Try.prog Try.f3.params.toList Rows.fnExactPutRowsSpec.vars false W args.toList ds gs before) :
    Calls Try.prog 3 args W fun e W' => e = .returned (.bool true) ∧ Below W.heap.size W W' := by
  obtain ⟨p, q, hA0, _, _, _, _⟩ := hW
  have hA : DataW.TrodAll enc Try.prog W 0 (fun _ => true) true Try.f3.params.toList args.toList ds p := hA0
  rw [Try.params3] at hA hval
  clear hA0
  obtain ⟨v0, v1, d0, d1, p0, p1, rfl, rfl, rfl, h0, h1⟩ := trodAll_two hA
  obtain ⟨y0, ry0⟩ := arg_rows Try.underlying22 opensWriteS (hval 0 22 _ rfl rfl) h0
  obtain ⟨y1, ry1⟩ := arg_rows Try.underlying22 opensWriteS (hval 1 22 _ rfl rfl) h1
  exact walk (w := W) v0 y0 ry0 v1 y1 ry1 trivial

set_option maxRecDepth 100000 in
theorem lifted (os : Os) (started : os.Started) (H : Type) (enc : TypeId × Value → H) :
    ReturnsInHanded {} Try.checked os 3 .any (Rows.fnExactPutRowsSpec.pre6 enc Try.prog Try.f3 Rows.fnExactPutRowsRow.domain false) (Rows.fnExactPutRowsSpec.post enc Try.prog Try.f3 false true false false) := by
  refine returnsInHanded_of_change (C := Try.checked) own started (by kernel_rfl) Try.func3
    (ChangeSpec.witness6 (enc := enc) (C := Try.checked) false ⟨#[], #[.slice none 0 0, .slice none 0 0], []⟩ 8 (by kernel_rfl) (by kernel_rfl) (by kernel_rfl) (by kernel_rfl)) ?_
  intro W base args ds gs before hval hW _ _
  refine (contract W base args ds gs before hval hW).mono fun e W' ⟨he, hb⟩ => ⟨_, he, ?_⟩
  exact law_post laidOut (by kernel_rfl) rfl Try.underlying4 rfl (fun xs hx => by
    match xs, hx with
    | [d0, d1], _ => rfl) hW hb

theorem closed : joinedFacts Try.prog 3 Try.f3 Rows.fnExactPutRowsSpec Rows.fnExactPutRowsRow = true := by
  unfold joinedFacts
  rw [factEnter, factLifts, factMake]
  kernel_rfl

theorem holds : Rows.FnExactPutRowsSaid :=
  OpenClaim.holds_of_wide 3 Try.f3 rfl rfl rfl rfl rfl rfl rfl ⟨rfl, rfl, rfl, rfl, rfl⟩ rfl rfl rfl rfl rfl (by kernel_rfl) Try.func3 closed
    (of_decide_eq_true (by kernel_rfl)) (by unfold Func.isWrapper; first | (rw [if_pos (by decide +kernel)]; kernel_rfl) | (rw [if_neg (by decide +kernel)]; exact ⟨rfl, rfl⟩))
    (fun os started H enc _ => lifted os started H enc)
#print axioms holds
end Go.Proofs.Ytkcidneefdaaiaa.fnExactPutRows
