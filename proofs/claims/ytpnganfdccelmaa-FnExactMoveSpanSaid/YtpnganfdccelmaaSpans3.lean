/- MoveSpan: walked. -/
import Derived.Test.YtpnganfdccelmaaSpans
namespace Go.Proofs.Ytpnganfdccelmaa
open Go.RowKit

/-- impl.isTrue -/
theorem isTrue_any (n : Int) (w : World) : Calls Try.prog 62 #[.int .i64 n] w fun e w' => e = .returned (.bool (inB n 0 100000)) ∧ w = w' := by
  go_enter Try.func62, Try.ntmps62
  go_wp2_with (go_at_call 48; refine (within_any _ _ _ _).mono ?_; rintro e w1 ⟨rfl, rfl⟩)
  go_ret
  exact ⟨rfl, rfl⟩

/-- spec.l2True -/
theorem l2True_any (n : Int) (w : World) : Calls Try.prog 60 #[.int .i64 n] w fun e w' => e = .returned (.bool (inB n 0 100000)) ∧ w = w' := by
  go_enter Try.func60, Try.ntmps60
  go_wp2_with (go_at_call 46; refine (l1In_any _ _ _ _).mono ?_; rintro e w1 ⟨rfl, rfl⟩)
  go_ret
  exact ⟨rfl, rfl⟩

def pickI : Bool → Int → Int
  | true, x => x
  | false, _ => 0
@[simp] theorem pickI_true (x : Int) : pickI true x = x := rfl
@[simp] theorem pickI_false (x : Int) : pickI false x = 0 := rfl

def moveQ (lo hi n : Int) : Bool := (spanB lo hi && inB n 0 100000) && spanB (lo + n) (hi + n)

theorem spanB_iff {lo hi : Int} : spanB lo hi = true ↔ lo ≤ hi ∧ -10 ≤ lo ∧ hi ≤ 100010 := by simp [spanB]; omega

/-- laws.eqSpan -/
theorem eqSpan_same (x y : Int) (w : World) : Calls Try.prog 37 #[.agg #[.int .i64 x, .int .i64 y], .agg #[.int .i64 x, .int .i64 y]] w fun e w' => e = .returned (.bool true) ∧ Below w.heap.size w w' := by
  go_enter Try.func37, Try.ntmps37
  go_wp2
  go_ret
  exact ⟨rfl, below_alloc _ (below_new _ _)⟩

/-- impl.MoveSpan -/
theorem moveSpan_any (lo hi n : Int) (w : World) : Calls Try.prog 36 #[.agg #[.int .i64 lo, .int .i64 hi], .int .i64 n] w fun e w' =>
    e = .returned (.tuple #[.agg #[.int .i64 (pickI (moveQ lo hi n) (lo + n)), .int .i64 (pickI (moveQ lo hi n) (hi + n))], .bool (moveQ lo hi n)]) ∧ Below w.heap.size w w' := by
  have Hc := Lib.hid (goodSpan_any lo hi)
  have Hd := Lib.hid (isTrue_any n)
  have He := Lib.hid (goodSpan_any (lo + n) (hi + n))
  unfold moveQ
  cases hq : spanB lo hi
  · rw [hq] at Hc
    go_enter Try.func36, Try.ntmps36
    go_wp2_with (go_at_call 61; refine (Hc.out _).mono ?_; rintro e w1 ⟨rfl, k⟩; have hx := bcell k; have hz := k.size)
    refine bodyPost_ret (v := .tuple #[.agg #[.int .i64 0, .int .i64 0], .bool false]) (by simp [results, Try.results36, go_sem, hx.1]) rfl ⟨rfl, ?_⟩
    (repeat (first | exact Below.refl _ _ | exact below_new _ _ | refine below_setCell ?_ (by first | (simp; done) | (simp; omega) | omega) | refine below_alloc _ ?_ | refine below_drewN ?_ _ | refine below_after (by assumption) ?_ | assumption))
  · rw [hq] at Hc
    obtain ⟨b0, b1, b2⟩ := spanB_iff.1 hq
    cases hr : inB n 0 100000
    · rw [hr] at Hd
      go_enter Try.func36, Try.ntmps36
      go_wp2_with (first | (go_at_call 61; refine (Hc.out _).mono ?_; rintro e w1 ⟨rfl, k⟩; have hx := bcell k; have hz := k.size) | (go_at_call 62; refine (Hd.out _).mono ?_; rintro e w1 ⟨rfl, rfl⟩))
      refine bodyPost_ret (v := .tuple #[.agg #[.int .i64 0, .int .i64 0], .bool false]) (by simp [results, Try.results36, go_sem, hx.1]) rfl ⟨rfl, ?_⟩
      (repeat (first | exact Below.refl _ _ | exact below_new _ _ | refine below_setCell ?_ (by first | (simp; done) | (simp; omega) | omega) | refine below_alloc _ ?_ | refine below_drewN ?_ _ | refine below_after (by assumption) ?_ | assumption))
    · rw [hr] at Hd
      obtain ⟨b3, b4⟩ := inB_iff.1 hr
      clear hq hr
      generalize spanB (lo + n) (hi + n) = q at *
      cases q
      all_goals
        go_enter Try.func36, Try.ntmps36
        go_wp2_with fail
        refine (Hc.out _).mono ?_
        rintro e w1 ⟨rfl, k1⟩
        have hb1 := k1
        have hx1 := bcell hb1
        have hl0 : w.heap.size < w1.heap.size := by have := hb1.size; simp at this; omega
        have hl1 : w.heap.size + 1 < w1.heap.size := by have := hb1.size; simp at this; omega
        clear k1
        go_wp2_with fail
        refine (Hd.out _).mono ?_
        rintro e w2 ⟨rfl, rfl⟩
        go_wp2_with fail
        refine (He.out _).mono ?_
        rintro e w3 ⟨rfl, k3⟩
        have hb3 := k3
        replace hb1 := below_link hb1 k3 (by (repeat (first | exact Below.refl _ _ | refine Below.setCell ?_ (by have := hb1.size; first | (simp at this ⊢; omega) | (simp; omega) | omega) _ | refine Below.alloc ?_ (by have := hb1.size; first | (simp at this ⊢; omega) | (simp; omega) | omega) _ | refine below_drewN ?_ _)))
        clear hx1
        have hx1 := bcell hb1
        have hx3 := bcell hb3
        have hm3 : w1.heap.size < w3.heap.size := by have := hb3.size; simp at this; omega
        clear hl0 hl1
        have hl0 : w.heap.size < w3.heap.size := by have := hb1.size; simp at this; omega
        have hl1 : w.heap.size + 1 < w3.heap.size := by have := hb1.size; simp at this; omega
        go_wp2
      · refine bodyPost_ret (v := .tuple #[.agg #[.int .i64 0, .int .i64 0], .bool false]) (by simp [results, Try.results36, go_sem, hx1.1, hl1]) rfl ⟨rfl, ?_⟩
        refine below_setCell (below_setCell (below_after hb1 ?_) (by simp)) (by simp)
        (repeat (first | exact Below.refl _ _ | exact below_new _ _ | refine below_setCell ?_ (by first | (simp; done) | (simp; omega) | omega) | refine below_alloc _ ?_ | refine below_drewN ?_ _ | refine below_after (by assumption) ?_ | assumption))
      · refine bodyPost_ret (v := .tuple #[.agg #[.int .i64 (lo + n), .int .i64 (hi + n)], .bool true]) (by simp [results, Try.results36, go_sem, hx1.1, hl1]) rfl ⟨rfl, ?_⟩
        refine below_setCell (below_setCell (below_after hb1 ?_) (by simp)) (by simp)
        (repeat (first | exact Below.refl _ _ | exact below_new _ _ | refine below_setCell ?_ (by first | (simp; done) | (simp; omega) | omega) | refine below_alloc _ ?_ | refine below_drewN ?_ _ | refine below_after (by assumption) ?_ | assumption))

/-- spec.MoveSpan -/
theorem moveSpanS_any (lo hi n : Int) (w : World) : Calls Try.prog 34 #[.agg #[.int .i64 lo, .int .i64 hi], .int .i64 n] w fun e w' =>
    e = .returned (.tuple #[.agg #[.int .i64 (pickI (moveQ lo hi n) (lo + n)), .int .i64 (pickI (moveQ lo hi n) (hi + n))], .bool (moveQ lo hi n)]) ∧ Below w.heap.size w w' := by
  have Hc := Lib.hid (l2Span_any lo hi)
  have Hd := Lib.hid (l2True_any n)
  have He := Lib.hid (l2Span_any (lo + n) (hi + n))
  unfold moveQ
  cases hq : spanB lo hi
  · rw [hq] at Hc
    go_enter Try.func34, Try.ntmps34
    go_wp2_with (go_at_call 59; refine (Hc.out _).mono ?_; rintro e w1 ⟨rfl, k⟩; have hx := bcell k; have hz := k.size)
    refine bodyPost_ret (v := .tuple #[.agg #[.int .i64 0, .int .i64 0], .bool false]) (by simp [results, Try.results34, go_sem, hx.1]) rfl ⟨rfl, ?_⟩
    (repeat (first | exact Below.refl _ _ | exact below_new _ _ | refine below_setCell ?_ (by first | (simp; done) | (simp; omega) | omega) | refine below_alloc _ ?_ | refine below_drewN ?_ _ | refine below_after (by assumption) ?_ | assumption))
  · rw [hq] at Hc
    obtain ⟨b0, b1, b2⟩ := spanB_iff.1 hq
    cases hr : inB n 0 100000
    · rw [hr] at Hd
      go_enter Try.func34, Try.ntmps34
      go_wp2_with (first | (go_at_call 59; refine (Hc.out _).mono ?_; rintro e w1 ⟨rfl, k⟩; have hx := bcell k; have hz := k.size) | (go_at_call 60; refine (Hd.out _).mono ?_; rintro e w1 ⟨rfl, rfl⟩))
      refine bodyPost_ret (v := .tuple #[.agg #[.int .i64 0, .int .i64 0], .bool false]) (by simp [results, Try.results34, go_sem, hx.1]) rfl ⟨rfl, ?_⟩
      (repeat (first | exact Below.refl _ _ | exact below_new _ _ | refine below_setCell ?_ (by first | (simp; done) | (simp; omega) | omega) | refine below_alloc _ ?_ | refine below_drewN ?_ _ | refine below_after (by assumption) ?_ | assumption))
    · rw [hr] at Hd
      obtain ⟨b3, b4⟩ := inB_iff.1 hr
      clear hq hr
      generalize spanB (lo + n) (hi + n) = q at *
      cases q
      all_goals
        go_enter Try.func34, Try.ntmps34
        go_wp2_with fail
        refine (Hc.out _).mono ?_
        rintro e w1 ⟨rfl, k1⟩
        have hb1 := k1
        have hx1 := bcell hb1
        have hl0 : w.heap.size < w1.heap.size := by have := hb1.size; simp at this; omega
        have hl1 : w.heap.size + 1 < w1.heap.size := by have := hb1.size; simp at this; omega
        clear k1
        go_wp2_with fail
        refine (Hd.out _).mono ?_
        rintro e w2 ⟨rfl, rfl⟩
        go_wp2_with fail
        refine (He.out _).mono ?_
        rintro e w3 ⟨rfl, k3⟩
        have hb3 := k3
        replace hb1 := below_link hb1 k3 (by (repeat (first | exact Below.refl _ _ | refine Below.setCell ?_ (by have := hb1.size; first | (simp at this ⊢; omega) | (simp; omega) | omega) _ | refine Below.alloc ?_ (by have := hb1.size; first | (simp at this ⊢; omega) | (simp; omega) | omega) _ | refine below_drewN ?_ _)))
        clear hx1
        have hx1 := bcell hb1
        have hx3 := bcell hb3
        have hm3 : w1.heap.size < w3.heap.size := by have := hb3.size; simp at this; omega
        clear hl0 hl1
        have hl0 : w.heap.size < w3.heap.size := by have := hb1.size; simp at this; omega
        have hl1 : w.heap.size + 1 < w3.heap.size := by have := hb1.size; simp at this; omega
        go_wp2
      · refine bodyPost_ret (v := .tuple #[.agg #[.int .i64 0, .int .i64 0], .bool false]) (by simp [results, Try.results34, go_sem, hx1.1, hl1]) rfl ⟨rfl, ?_⟩
        refine below_setCell (below_setCell (below_after hb1 ?_) (by simp)) (by simp)
        (repeat (first | exact Below.refl _ _ | exact below_new _ _ | refine below_setCell ?_ (by first | (simp; done) | (simp; omega) | omega) | refine below_alloc _ ?_ | refine below_drewN ?_ _ | refine below_after (by assumption) ?_ | assumption))
      · refine bodyPost_ret (v := .tuple #[.agg #[.int .i64 (lo + n), .int .i64 (hi + n)], .bool true]) (by simp [results, Try.results34, go_sem, hx1.1, hl1]) rfl ⟨rfl, ?_⟩
        refine below_setCell (below_setCell (below_after hb1 ?_) (by simp)) (by simp)
        (repeat (first | exact Below.refl _ _ | exact below_new _ _ | refine below_setCell ?_ (by first | (simp; done) | (simp; omega) | omega) | refine below_alloc _ ?_ | refine below_drewN ?_ _ | refine below_after (by assumption) ?_ | assumption))

end Go.Proofs.Ytpnganfdccelmaa
