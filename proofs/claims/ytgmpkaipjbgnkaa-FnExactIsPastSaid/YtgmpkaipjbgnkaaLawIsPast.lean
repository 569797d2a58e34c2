/- For every input the law FnExactIsPast returns true, and each argument reads afterwards as it read before. No condition beside the row's own. -/
import Derived.Test.YtgmpkaipjbgnkaaDisk1
namespace Go.Proofs.Ytgmpkaipjbgnkaa.fnExactIsPast
open Go.ChangeShapes Go.WideShapes Go.ChangeAt Go.RowKit

theorem walk (lo hi t : Int) (w : World) : Calls Try.prog 8 #[.agg #[.int .i64 lo, .int .i64 hi], .int .i64 t] w fun e w' => e = .returned (.bool true) ∧ Below w.heap.size w w' := by
  have hb := Below.refl (w.alloc (.cells #[.int .i64 lo, .int .i64 hi] 30)).heap.size (w.alloc (.cells #[.int .i64 lo, .int .i64 hi] 30))
  go_enter Try.func8, Try.ntmps8
  go_wp2_with (first | (go_at_call 14; refine (toSpan_any _ _ _).mono ?_; rintro e w1 ⟨rfl, k⟩; replace hb := below_after k hb; have hx := bcell hb; clear k) | (go_at_call 22; refine (isPastS_any _ _ _ _).mono ?_; rintro e w1 ⟨rfl, k⟩; replace hb := below_after k hb; have hx := bcell hb; clear k) | (go_at_call 23; refine (isPast_any _ _ _ _).mono ?_; rintro e w1 ⟨rfl, k⟩; replace hb := below_after k hb; have hx := bcell hb; clear k))
  go_ret
  exact ⟨rfl, below_start _ hb⟩

/-- What the walk gives, for every argument. -/
theorem contract {H : Type} {enc : TypeId × Value → H} (W : World) (base : Nat) (args : Array Value) (ds gs : List (DataW H)) (before : List MemPlace)
    (hval : ∀ (j : Nat) t v, Try.f8.params[j]? = some t → args[j]? = some v → Value.okWide Try.prog W .any base t v)
    (hW : DataW.Whole enc Try.prog Try.f8.params.toList Rows.fnExactIsPastSpec.vars false W args.toList ds gs before) :
    Calls Try.prog 8 args W fun e W' => e = .returned (.bool true) ∧ Below W.heap.size W W' := by
  obtain ⟨p, q, hA0, _, _, _, _⟩ := hW
  have hA : DataW.TrodAll enc Try.prog W 0 (fun _ => true) true Try.f8.params.toList args.toList ds p := hA0
  rw [Try.params8] at hA hval
  clear hA0
  obtain ⟨v0, v1, d0, d1, p0, p1, rfl, rfl, rfl, h0, h1⟩ := trodAll_two hA
  obtain ⟨x0, y0, rfl, bx0, by0⟩ := arg_span (hval 0 30 _ rfl rfl) h0
  obtain ⟨x1, rfl, _, _, wx1⟩ := open_int Try.underlying3 (hval 1 3 _ rfl rfl) h1
  have bx1 : -9223372036854775808 ≤ x1 ∧ x1 ≤ 9223372036854775807 := by simpa [Lit.wf, IntKind.min, IntKind.max, IntKind.signed, IntKind.bits] using wx1
  exact walk _ _ _ _


set_option maxRecDepth 100000 in
theorem lifted (os : Os) (started : os.Started) (H : Type) (enc : TypeId × Value → H) :
    ReturnsInHanded {} Try.checked os 8 .any (Rows.fnExactIsPastSpec.pre6 enc Try.prog Try.f8 Rows.fnExactIsPastRow.domain false) (Rows.fnExactIsPastSpec.post enc Try.prog Try.f8 false true false false) := by
  refine returnsInHanded_of_change (C := Try.checked) own started (by kernel_rfl) Try.func8
    (ChangeSpec.witness6 (enc := enc) (C := Try.checked) false ⟨#[], #[.agg #[.int .i64 0, .int .i64 0], .int .i64 0], []⟩ 8 (by kernel_rfl) (by kernel_rfl) (by kernel_rfl) (by kernel_rfl)) ?_
  intro W base args ds gs before hval hW _ _
  refine (contract W base args ds gs before hval hW).mono fun e W' ⟨he, hb⟩ => ⟨_, he, ?_⟩
  exact law_post laidOut (by kernel_rfl) rfl Try.underlying4 rfl (fun xs hx => by
    match xs, hx with
    | [d0, d1], _ => rfl) hW hb

theorem holds : Rows.FnExactIsPastSaid :=
  OpenClaim.holds_of_wide 8 Try.f8 rfl rfl rfl rfl rfl rfl rfl ⟨rfl, rfl, rfl, rfl, rfl⟩ rfl rfl rfl rfl rfl (by kernel_rfl) Try.func8 (by kernel_rfl)
    (of_decide_eq_true (by kernel_rfl)) (by unfold Func.isWrapper; first | (rw [if_pos (by decide +kernel)]; kernel_rfl) | (rw [if_neg (by decide +kernel)]; exact ⟨rfl, rfl⟩))
    (fun os started H enc _ => lifted os started H enc)
#print axioms holds
end Go.Proofs.Ytgmpkaipjbgnkaa.fnExactIsPast
