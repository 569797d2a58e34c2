/- The law FnExactMoveSpan walked: it returns true, and nothing that was there has turned. -/
import Derived.Test.YtpnganfdccelmaaSpans3
namespace Go.Proofs.Ytpnganfdccelmaa.fnExactMoveSpan
open Go.RowKit

theorem walk (lo hi t : Int) (w : World) : Calls Try.prog 11 #[.agg #[.int .i64 lo, .int .i64 hi], .int .i64 t] w fun e w' => e = .returned (.bool true) ∧ Below w.heap.size w w' := by
  go_enter Try.func11, Try.ntmps11
  go_wp2_with fail
  refine (toSpan_any _ _ _).mono ?_
  rintro e w1 ⟨rfl, k1⟩
  have hb1 := k1
  have hx1 := bcell hb1
  have hl0 : w.heap.size < w1.heap.size := by have := hb1.size; simp at this; omega
  clear k1
  go_wp2_with fail
  refine (moveSpanS_any _ _ _ _).mono ?_
  rintro e w2 ⟨rfl, k2⟩
  clear hx1
  replace hb1 := below_link hb1 k2 (by (repeat (first | exact Below.refl _ _ | refine Below.setCell ?_ (by have := hb1.size; first | (simp at this ⊢; omega) | (simp; omega) | omega) _ | refine Below.alloc ?_ (by have := hb1.size; first | (simp at this ⊢; omega) | (simp; omega) | omega) _ | refine below_drewN ?_ _)))
  have hx1 := bcell hb1
  clear hl0
  have hl0 : w.heap.size < w2.heap.size := by have := hb1.size; simp at this; omega
  clear k2
  go_wp2_with fail
  refine (toSpan_any _ _ _).mono ?_
  rintro e w3 ⟨rfl, k3⟩
  clear hx1
  replace hb1 := below_link hb1 k3 (by (repeat (first | exact Below.refl _ _ | refine Below.setCell ?_ (by have := hb1.size; first | (simp at this ⊢; omega) | (simp; omega) | omega) _ | refine Below.alloc ?_ (by have := hb1.size; first | (simp at this ⊢; omega) | (simp; omega) | omega) _ | refine below_drewN ?_ _)))
  have hb3 := k3
  have hx1 := bcell hb1
  have hx3 := bcell hb3
  clear hl0
  have hl0 : w.heap.size < w3.heap.size := by have := hb1.size; simp at this; omega
  have hm3 : w2.heap.size < w3.heap.size := by have := hb3.size; simp at this; omega
  clear k3
  go_wp2_with fail
  refine (moveSpan_any _ _ _ _).mono ?_
  rintro e w4 ⟨rfl, k4⟩
  clear hx1 hx3
  replace hb1 := below_link hb1 k4 (by (repeat (first | exact Below.refl _ _ | refine Below.setCell ?_ (by have := hb1.size; first | (simp at this ⊢; omega) | (simp; omega) | omega) _ | refine Below.alloc ?_ (by have := hb1.size; first | (simp at this ⊢; omega) | (simp; omega) | omega) _ | refine below_drewN ?_ _)))
  replace hb3 := below_link hb3 k4 (by (repeat (first | exact Below.refl _ _ | refine Below.setCell ?_ (by have := hb3.size; first | (simp at this ⊢; omega) | (simp; omega) | omega) _ | refine Below.alloc ?_ (by have := hb3.size; first | (simp at this ⊢; omega) | (simp; omega) | omega) _ | refine below_drewN ?_ _)))
  have hx1 := bcell hb1
  have hx3 := bcell hb3
  clear hl0
  have hl0 : w.heap.size < w4.heap.size := by have := hb1.size; simp at this; omega
  clear hm3
  have hm3 : w2.heap.size < w4.heap.size := by have := hb3.size; simp at this; omega
  clear k4
  go_wp2_with fail
  refine (eqSpan_same _ _ _).mono ?_
  rintro e w5 ⟨rfl, k5⟩
  clear hx1 hx3
  replace hb1 := below_link hb1 k5 (by (repeat (first | exact Below.refl _ _ | refine Below.setCell ?_ (by have := hb1.size; first | (simp at this ⊢; omega) | (simp; omega) | omega) _ | refine Below.alloc ?_ (by have := hb1.size; first | (simp at this ⊢; omega) | (simp; omega) | omega) _ | refine below_drewN ?_ _)))
  replace hb3 := below_link hb3 k5 (by (repeat (first | exact Below.refl _ _ | refine Below.setCell ?_ (by have := hb3.size; first | (simp at this ⊢; omega) | (simp; omega) | omega) _ | refine Below.alloc ?_ (by have := hb3.size; first | (simp at this ⊢; omega) | (simp; omega) | omega) _ | refine below_drewN ?_ _)))
  have hb5 := k5
  have hx1 := bcell hb1
  have hx3 := bcell hb3
  have hx5 := bcell hb5
  clear hl0
  have hl0 : w.heap.size < w5.heap.size := by have := hb1.size; simp at this; omega
  clear hm3
  have hm3 : w2.heap.size < w5.heap.size := by have := hb3.size; simp at this; omega
  have hm5 : w4.heap.size < w5.heap.size := by have := hb5.size; simp at this; omega
  clear k5
  go_wp2
  go_ret
  exact ⟨rfl, below_after hb1 (by (repeat (first | exact Below.refl _ _ | exact below_new _ _ | refine below_setCell ?_ (by first | (simp; done) | (simp; omega) | omega) | refine below_alloc _ ?_ | refine below_drewN ?_ _ | refine below_after (by assumption) ?_ | assumption)))⟩

end Go.Proofs.Ytpnganfdccelmaa.fnExactMoveSpan
