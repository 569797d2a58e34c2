/- IsPast, IsAhead, SurelyAfter: walked. -/
import Derived.Test.YtgmpkaipjbgnkaaSpans
namespace Go.Proofs.Ytgmpkaipjbgnkaa
open Go.RowKit

/-- impl.IsPast -/
theorem isPast_any (lo hi t : Int) (w : World) : Calls Try.prog 23 #[.agg #[.int .i64 lo, .int .i64 hi], .int .i64 t] w fun e w' =>
    e = .returned (.tuple #[.bool ((spanB lo hi && inB t (-100) 100100) && decide (t < lo)), .bool (spanB lo hi && inB t (-100) 100100)]) ∧ Below w.heap.size w w' := by
  generalize hs : (spanB lo hi && inB t (-100) 100100) = q
  have hc : ∀ W : World, Calls Try.prog 30 #[.agg #[.int .i64 lo, .int .i64 hi], .int .i64 t] W fun e w' => e = .returned (.bool q) ∧ Below W.heap.size W w' := fun W => hs ▸ isAsked_any lo hi t W
  have Hc := Lib.hid hc
  clear hs hc
  cases q
  all_goals
    go_enter Try.func23, Try.ntmps23
    go_wp2
    have hx := fun (u : World) (b o : Nat) (h : b < w.heap.size + 1) => ext_cell (w.alloc (.cells #[.int .i64 lo, .int .i64 hi] 32)) u b o h
    refine wp_region_ext (by kernel_rfl) (by kernel_rfl) (w.heap.size + 1) ?_
    repeat (any_goals (go_big_quiet_step ((go_at_call 30; exact calls_ext (by simp) (Hc.out _)))))
    refine wpQuiet_nil ?_
    intro w' hb
    go_wp2
    go_ret2
    exact ⟨by simp, ((Below.refl _ _).alloc (Nat.le_refl _) _).trans (hb.mono (by simp))⟩

/-- impl.IsAhead -/
theorem isAhead_any (lo hi t : Int) (w : World) : Calls Try.prog 21 #[.agg #[.int .i64 lo, .int .i64 hi], .int .i64 t] w fun e w' =>
    e = .returned (.tuple #[.bool ((spanB lo hi && inB t (-100) 100100) && decide (hi < t)), .bool (spanB lo hi && inB t (-100) 100100)]) ∧ Below w.heap.size w w' := by
  generalize hs : (spanB lo hi && inB t (-100) 100100) = q
  have hc : ∀ W : World, Calls Try.prog 30 #[.agg #[.int .i64 lo, .int .i64 hi], .int .i64 t] W fun e w' => e = .returned (.bool q) ∧ Below W.heap.size W w' := fun W => hs ▸ isAsked_any lo hi t W
  have Hc := Lib.hid hc
  clear hs hc
  cases q
  all_goals
    go_enter Try.func21, Try.ntmps21
    go_wp2
    have hx := fun (u : World) (b o : Nat) (h : b < w.heap.size + 1) => ext_cell (w.alloc (.cells #[.int .i64 lo, .int .i64 hi] 32)) u b o h
    refine wp_region_ext (by kernel_rfl) (by kernel_rfl) (w.heap.size + 1) ?_
    repeat (any_goals (go_big_quiet_step ((go_at_call 30; exact calls_ext (by simp) (Hc.out _)))))
    refine wpQuiet_nil ?_
    intro w' hb
    go_wp2
    go_ret2
    exact ⟨by simp, ((Below.refl _ _).alloc (Nat.le_refl _) _).trans (hb.mono (by simp))⟩

/-- spec.IsPast -/
theorem isPastS_any (lo hi t : Int) (w : World) : Calls Try.prog 22 #[.agg #[.int .i64 lo, .int .i64 hi], .int .i64 t] w fun e w' =>
    e = .returned (.tuple #[.bool ((spanB lo hi && inB t (-100) 100100) && decide (t < lo)), .bool (spanB lo hi && inB t (-100) 100100)]) ∧ Below w.heap.size w w' := by
  have Hc := Lib.hid (fun W => l2Span_any lo hi W)
  have Hd := Lib.hid (fun W => l2Near_any t W)
  generalize spanB lo hi = q at *
  generalize inB t (-100) 100100 = r at *
  cases q <;> cases r
  all_goals
    go_enter Try.func22, Try.ntmps22
    go_wp2_with (first | (go_at_call 28; refine (Hc.out _).mono ?_; rintro e w1 ⟨rfl, hb⟩; have hx := bcell hb) | (go_at_call 29; refine (Hd.out _).mono ?_; rintro e w' ⟨rfl, rfl⟩))
    go_ret2
    exact ⟨by simp, ((Below.refl _ _).alloc (Nat.le_refl _) _).trans (hb.mono (by simp))⟩

/-- spec.IsAhead -/
theorem isAheadS_any (lo hi t : Int) (w : World) : Calls Try.prog 20 #[.agg #[.int .i64 lo, .int .i64 hi], .int .i64 t] w fun e w' =>
    e = .returned (.tuple #[.bool ((spanB lo hi && inB t (-100) 100100) && decide (hi < t)), .bool (spanB lo hi && inB t (-100) 100100)]) ∧ Below w.heap.size w w' := by
  have Hc := Lib.hid (fun W => l2Span_any lo hi W)
  have Hd := Lib.hid (fun W => l2Near_any t W)
  generalize spanB lo hi = q at *
  generalize inB t (-100) 100100 = r at *
  cases q <;> cases r
  all_goals
    go_enter Try.func20, Try.ntmps20
    go_wp2_with (first | (go_at_call 28; refine (Hc.out _).mono ?_; rintro e w1 ⟨rfl, hb⟩; have hx := bcell hb) | (go_at_call 29; refine (Hd.out _).mono ?_; rintro e w' ⟨rfl, rfl⟩))
    go_ret2
    exact ⟨by simp, ((Below.refl _ _).alloc (Nat.le_refl _) _).trans (hb.mono (by simp))⟩

/-- spec.SurelyAfter -/
theorem surelyAfterS_any (lo hi lo' hi' : Int) (w : World) : Calls Try.prog 24 #[.agg #[.int .i64 lo, .int .i64 hi], .agg #[.int .i64 lo', .int .i64 hi']] w fun e w' =>
    e = .returned (.tuple #[.bool ((spanB lo hi && spanB lo' hi') && decide (hi' < lo)), .bool (spanB lo hi && spanB lo' hi')]) ∧ Below w.heap.size w w' := by
  have Hc := Lib.hid (fun W => l2Span_any lo hi W)
  have Hd := Lib.hid (fun W => l2Span_any lo' hi' W)
  generalize spanB lo hi = q at *
  generalize spanB lo' hi' = r at *
  have hb := Below.refl ((w.alloc (.cells #[.int .i64 lo, .int .i64 hi] 32)).alloc (.cells #[.int .i64 lo', .int .i64 hi'] 32)).heap.size ((w.alloc (.cells #[.int .i64 lo, .int .i64 hi] 32)).alloc (.cells #[.int .i64 lo', .int .i64 hi'] 32))
  cases q <;> cases r
  all_goals
    go_enter Try.func24, Try.ntmps24
    go_wp2_with fail
    refine (Hc.out _).mono ?_; rintro e w1 ⟨rfl, k⟩; replace hb := below_after k hb; have hx := bcell hb; clear k
    go_wp2_with (go_at_call 28; refine (Hd.out _).mono ?_; rintro e w1 ⟨rfl, k⟩; replace hb := below_after k hb; have hx := bcell hb; clear k)
    go_ret2
    exact ⟨by simp, below_after hb (below_alloc _ (below_new _ _))⟩

/-- impl.SurelyAfter -/
theorem surelyAfter_any (lo hi lo' hi' : Int) (w : World) : Calls Try.prog 25 #[.agg #[.int .i64 lo, .int .i64 hi], .agg #[.int .i64 lo', .int .i64 hi']] w fun e w' =>
    e = .returned (.tuple #[.bool ((spanB lo hi && spanB lo' hi') && decide (hi' < lo)), .bool (spanB lo hi && spanB lo' hi')]) ∧ Below w.heap.size w w' := by
  have Hc := Lib.hid (fun W => goodSpan_any lo hi W)
  have Hd := Lib.hid (fun W => goodSpan_any lo' hi' W)
  generalize spanB lo hi = q at *
  generalize spanB lo' hi' = r at *
  have hb := Below.refl ((w.alloc (.cells #[.int .i64 lo, .int .i64 hi] 32)).alloc (.cells #[.int .i64 lo', .int .i64 hi'] 32)).heap.size ((w.alloc (.cells #[.int .i64 lo, .int .i64 hi] 32)).alloc (.cells #[.int .i64 lo', .int .i64 hi'] 32))
  cases q <;> cases r
  all_goals
    go_enter Try.func25, Try.ntmps25
    go_wp2_with fail
    refine (Hc.out _).mono ?_; rintro e w1 ⟨rfl, k⟩; replace hb := below_after k hb; have hx := bcell hb; clear k
    go_wp2_with (go_at_call 15; refine (Hd.out _).mono ?_; rintro e w1 ⟨rfl, k⟩; replace hb := below_after k hb; have hx := bcell hb; clear k)
    go_ret2
    exact ⟨by simp, below_after hb (below_alloc _ (below_new _ _))⟩

end Go.Proofs.Ytgmpkaipjbgnkaa
