/- For every input the law FnExactSurelyAfter returns true, and each argument reads afterwards as it read before. No condition beside the row's own. -/
import Derived.Test.YtgmpkaipjbgnkaaDisk1
namespace Go.Proofs.Ytgmpkaipjbgnkaa.fnExactSurelyAfter
open Go.ChangeShapes Go.WideShapes Go.ChangeAt Go.RowKit

theorem walk (lo hi lo' hi' : Int) (w : World) : Calls Try.prog 9 #[.agg #[.int .i64 lo, .int .i64 hi], .agg #[.int .i64 lo', .int .i64 hi']] w fun e w' => e = .returned (.bool true) ∧ Below w.heap.size w w' := by
  obtain ⟨w0, hw0⟩ : ∃ w0 : World, w0 = (w.alloc (.cells #[.int .i64 lo, .int .i64 hi] 30)).alloc (.cells #[.int .i64 lo', .int .i64 hi'] 30) := ⟨_, rfl⟩
  have hb0 : Below w.heap.size w w0 := by rw [hw0]; exact below_alloc _ (below_new _ _)
  have hz : w0.heap.size = w.heap.size + 2 := by rw [hw0]; simp
  have c0 : w0.cell? ⟨w.heap.size, 0, none⟩ = some (.int .i64 lo) := by rw [hw0]; simp [go_sem]
  have c1 : w0.cell? ⟨w.heap.size, 1, none⟩ = some (.int .i64 hi) := by rw [hw0]; simp [go_sem]
  have c2 : w0.cell? ⟨w.heap.size + 1, 0, none⟩ = some (.int .i64 lo') := by rw [hw0]; simp [go_sem]
  have c3 : w0.cell? ⟨w.heap.size + 1, 1, none⟩ = some (.int .i64 hi') := by rw [hw0]; simp [go_sem]
  go_enter Try.func9, Try.ntmps9
  go_wp2
  rw [← hw0]
  have Hw := Lib.hid hw0
  clear hw0
  have Hz := Lib.hid hz
  have hz1 : w.heap.size + 2 ≤ w0.heap.size := by omega
  clear hz
  have hx := fun (u : World) (b o : Nat) (h : b < w.heap.size + 2) => ext_cell (B := w.heap.size + 2) w0 u b o h
  refine wp_region_ext (by kernel_rfl) (by kernel_rfl) (w.heap.size + 2) ?_
  repeat (any_goals (go_big_quiet_step (first | (go_at_call 14; exact calls_ext (by omega) (toSpan_any _ _ _)) | (go_at_call 24; exact calls_ext (by omega) (surelyAfterS_any _ _ _ _ _)))))
  refine wpQuiet_nil ?_
  intro w1 hb1
  clear hx
  have hx := bcell hb1
  go_wp2
  have hx := fun (u : World) (b o : Nat) (h : b < w.heap.size + 2) => ext_cell (B := w.heap.size + 2) w1 u b o h
  have hz2 : w.heap.size + 2 ≤ w1.heap.size := by have := hb1.size; omega
  refine wp_region_ext (by kernel_rfl) (by kernel_rfl) (w.heap.size + 2) ?_
  repeat (any_goals (go_big_quiet_step (first | (go_at_call 14; exact calls_ext (by omega) (toSpan_any _ _ _)) | (go_at_call 25; exact calls_ext (by omega) (surelyAfter_any _ _ _ _ _)))))
  refine wpQuiet_nil ?_
  intro w2 hb2
  clear hx
  go_wp2
  go_ret
  exact ⟨rfl, hb0.trans ((hb1.trans hb2).mono (by omega))⟩

/-- What the walk gives, for every argument. -/
theorem contract {H : Type} {enc : TypeId × Value → H} (W : World) (base : Nat) (args : Array Value) (ds gs : List (DataW H)) (before : List MemPlace)
    (hval : ∀ (j : Nat) t v, Try.f9.params[j]? = some t → args[j]? = some v → Value.okWide Try.prog W .any base t v)
    (hW : DataW.Whole enc Try.prog Try.f9.params.toList Rows.fnExactSurelyAfterSpec.vars false W args.toList ds gs before) :
    Calls Try.prog 9 args W fun e W' => e = .returned (.bool true) ∧ Below W.heap.size W W' := by
  obtain ⟨p, q, hA0, _, _, _, _⟩ := hW
  have hA : DataW.TrodAll enc Try.prog W 0 (fun _ => true) true Try.f9.params.toList args.toList ds p := hA0
  rw [Try.params9] at hA hval
  clear hA0
  obtain ⟨v0, v1, d0, d1, p0, p1, rfl, rfl, rfl, h0, h1⟩ := trodAll_two hA
  obtain ⟨x0, y0, rfl, bx0, by0⟩ := arg_span (hval 0 30 _ rfl rfl) h0
  obtain ⟨x1, y1, rfl, bx1, by1⟩ := arg_span (hval 1 30 _ rfl rfl) h1
  exact walk _ _ _ _ _


set_option maxRecDepth 100000 in
theorem lifted (os : Os) (started : os.Started) (H : Type) (enc : TypeId × Value → H) :
    ReturnsInHanded {} Try.checked os 9 .any (Rows.fnExactSurelyAfterSpec.pre6 enc Try.prog Try.f9 Rows.fnExactSurelyAfterRow.domain false) (Rows.fnExactSurelyAfterSpec.post enc Try.prog Try.f9 false true false false) := by
  refine returnsInHanded_of_change (C := Try.checked) own started (by kernel_rfl) Try.func9
    (ChangeSpec.witness6 (enc := enc) (C := Try.checked) false ⟨#[], #[.agg #[.int .i64 0, .int .i64 0], .agg #[.int .i64 0, .int .i64 0]], []⟩ 8 (by kernel_rfl) (by kernel_rfl) (by kernel_rfl) (by kernel_rfl)) ?_
  intro W base args ds gs before hval hW _ _
  refine (contract W base args ds gs before hval hW).mono fun e W' ⟨he, hb⟩ => ⟨_, he, ?_⟩
  exact law_post laidOut (by kernel_rfl) rfl Try.underlying4 rfl (fun xs hx => by
    match xs, hx with
    | [d0, d1], _ => rfl) hW hb

theorem holds : Rows.FnExactSurelyAfterSaid :=
  OpenClaim.holds_of_wide 9 Try.f9 rfl rfl rfl rfl rfl rfl rfl ⟨rfl, rfl, rfl, rfl, rfl⟩ rfl rfl rfl rfl rfl (by kernel_rfl) Try.func9 (by kernel_rfl)
    (of_decide_eq_true (by kernel_rfl)) (by unfold Func.isWrapper; first | (rw [if_pos (by decide +kernel)]; kernel_rfl) | (rw [if_neg (by decide +kernel)]; exact ⟨rfl, rfl⟩))
    (fun os started H enc _ => lifted os started H enc)
#print axioms holds
end Go.Proofs.Ytgmpkaipjbgnkaa.fnExactSurelyAfter
