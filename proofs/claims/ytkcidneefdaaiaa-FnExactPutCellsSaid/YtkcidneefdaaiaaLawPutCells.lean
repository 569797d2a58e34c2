/- For every input the law FnExactPutCells returns true, and each argument reads afterwards as it read before. No condition beside the row's own. -/
import Derived.Test.YtkcidneefdaaiaaWalkPutCells
import Derived.Test.YtkcidneefdaaiaaCore
import Derived.Test.YtkcidneefdaaiaaDArgs
import Derived.Test.YtkcidneefdaaiaaFacts
namespace Go.Proofs.Ytkcidneefdaaiaa.fnExactPutCells
open Go.ChangeShapes Go.WideShapes Go.ChangeAt Go.RowKit

set_option maxRecDepth 100000 in
/-- What the walk gives, for every argument. -/
theorem contract {H : Type} {enc : TypeId × Value → H} (W : World) (base : Nat) (args : Array Value) (ds gs : List (DataW H)) (before : List MemPlace)
    (hval : ∀ (j : Nat) t v, Try.f4.params[j]? = some t → args[j]? = some v → Value.okWide Try.prog W .any base t v)
    (hW : DataW.Whole enc Try.prog Try.f4.params.toList Rows.fnExactPutCellsSpec.vars false W args.toList ds gs before) :
    Calls Try.prog 4 args W fun e W' => e = .returned (.bool true) ∧ Below W.heap.size W W' := by
  obtain ⟨p, q, hA0, _, _, _, _⟩ := hW
  have hA : DataW.TrodAll enc Try.prog W 0 (fun _ => true) true Try.f4.params.toList args.toList ds p := hA0
  rw [Try.params4] at hA hval
  clear hA0
  obtain ⟨v0, v1, v2, d0, d1, d2, p0, p1, p2, rfl, rfl, rfl, h0, h1, h2⟩ := trodAll_three hA
  obtain ⟨y0, ry0⟩ := arg_rows Try.underlying31 opensCellS (hval 0 31 _ rfl rfl) h0
  obtain ⟨y1, ry1⟩ := arg_rows Try.underlying22 opensWriteS (hval 1 22 _ rfl rfl) h1
  obtain ⟨y2, rfl, iy2⟩ := arg_int (hval 2 3 _ rfl rfl) h2
  exact walk (w := W) v0 y0 ry0 v1 y1 ry1 y2 iy2 trivial

set_option maxRecDepth 100000 in
theorem lifted (os : Os) (started : os.Started) (H : Type) (enc : TypeId × Value → H) :
    ReturnsInHanded {} Try.checked os 4 .any (Rows.fnExactPutCellsSpec.pre6 enc Try.prog Try.f4 Rows.fnExactPutCellsRow.domain false) (Rows.fnExactPutCellsSpec.post enc Try.prog Try.f4 false true false false) := by
  refine returnsInHanded_of_change (C := Try.checked) own started (by kernel_rfl) Try.func4
    (ChangeSpec.witness6 (enc := enc) (C := Try.checked) false ⟨#[], #[.slice none 0 0, .slice none 0 0, .int .i64 0], []⟩ 8 (by kernel_rfl) (by kernel_rfl) (by kernel_rfl) (by kernel_rfl)) ?_
  intro W base args ds gs before hval hW _ _
  refine (contract W base args ds gs before hval hW).mono fun e W' ⟨he, hb⟩ => ⟨_, he, ?_⟩
  exact law_post laidOut (by kernel_rfl) rfl Try.underlying4 rfl (fun xs hx => by
    match xs, hx with
    | [d0, d1, d2], _ => rfl) hW hb

theorem closed : joinedFacts Try.prog 4 Try.f4 Rows.fnExactPutCellsSpec Rows.fnExactPutCellsRow = true := by
  unfold joinedFacts
  rw [factEnter, factLifts, factMake]
  kernel_rfl

theorem holds : Rows.FnExactPutCellsSaid :=
  OpenClaim.holds_of_wide 4 Try.f4 rfl rfl rfl rfl rfl rfl rfl ⟨rfl, rfl, rfl, rfl, rfl⟩ rfl rfl rfl rfl rfl (by kernel_rfl) Try.func4 closed
    (of_decide_eq_true (by kernel_rfl)) (by unfold Func.isWrapper; first | (rw [if_pos (by decide +kernel)]; kernel_rfl) | (rw [if_neg (by decide +kernel)]; exact ⟨rfl, rfl⟩))
    (fun os started H enc _ => lifted os started H enc)
#print axioms holds
end Go.Proofs.Ytkcidneefdaaiaa.fnExactPutCells
