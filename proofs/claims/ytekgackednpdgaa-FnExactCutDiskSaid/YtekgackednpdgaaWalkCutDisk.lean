/- The law FnExactCutDisk walked: it returns true, and nothing that was there has turned. -/
import Derived.Test.YtekgackednpdgaaCut3
namespace Go.Proofs.Ytekgackednpdgaa.fnExactCutDisk
open Go.RowKit

theorem walk (x y : ByteArray) (n : Int) (hx : x.size ≤ maxLen) (hy : y.size ≤ maxLen) (w : World) : Calls Try.prog 5 #[.agg #[.string x, .string y], .int .i64 n] w fun e w' => e = .returned (.bool true) ∧ Below w.heap.size w w' := by
  have Hs := Lib.hid (szDisk_any x y 1048576 hx hy (by omega))
  have hc : szDiskF x y 1048576 < 0 ∨ (0 ≤ szDiskF x y 1048576 ∧ szDiskF x y 1048576 ≤ 1048576 ∧ x.size ≤ 1048576 ∧ y.size ≤ 1048576) := by
    unfold szDiskF
    by_cases h1 : (1048576 : Int) - x.size < 0
    · rw [if_pos h1]; omega
    · rw [if_neg h1]
      by_cases h2 : (1048576 : Int) - x.size - y.size < 0
      · rw [if_pos h2]; omega
      · rw [if_neg h2]; omega
  generalize szDiskF x y 1048576 = z at *
  rcases hc with hc | ⟨h0, h3, h1, h2⟩
  · go_enter Try.func5, Try.ntmps5
    go_wp2_with (go_at_call 28; refine (Hs.out _).mono ?_; rintro e w1 ⟨rfl, k⟩; have hx := bcell k; have hz := k.size)
    go_ret
    exact ⟨rfl, by (repeat (first | exact Below.refl _ _ | exact below_new _ _ | refine below_setCell ?_ (by first | (simp; done) | (simp; omega) | omega) | refine below_alloc _ ?_ | refine below_drewN ?_ _ | refine below_after (by assumption) ?_ | assumption))⟩
  · have Hd := Lib.hid (cutDiskS_any x y n h1 h2)
    have He := Lib.hid (cutDisk_any x y n h1 h2)
    clear h1 h2
    generalize pickB (cutQ x y n) (cutF x n) = z2 at *
    generalize cutQ x y n = q at *
    go_enter Try.func5, Try.ntmps5
    go_wp2_with fail
    refine (Hs.out _).mono ?_
    rintro e w1 ⟨rfl, k1⟩
    have hb1 := k1
    have hx1 := bcell hb1
    have hl0 : w.heap.size < w1.heap.size := by have := hb1.size; simp at this; omega
    clear k1
    go_wp2_with fail
    refine (toDisk_any _ _ _).mono ?_
    rintro e w2 ⟨rfl, k2⟩
    clear hx1
    replace hb1 := below_link hb1 k2 (by (repeat (first | exact Below.refl _ _ | refine Below.setCell ?_ (by have := hb1.size; first | (simp at this ⊢; omega) | (simp; omega) | omega) _ | refine Below.alloc ?_ (by have := hb1.size; first | (simp at this ⊢; omega) | (simp; omega) | omega) _ | refine below_drewN ?_ _)))
    have hx1 := bcell hb1
    clear hl0
    have hl0 : w.heap.size < w2.heap.size := by have := hb1.size; simp at this; omega
    clear k2
    go_wp2_with fail
    refine (Hd.out _).mono ?_
    rintro e w3 ⟨rfl, k3⟩
    clear hx1
    replace hb1 := below_link hb1 k3 (by (repeat (first | exact Below.refl _ _ | refine Below.setCell ?_ (by have := hb1.size; first | (simp at this ⊢; omega) | (simp; omega) | omega) _ | refine Below.alloc ?_ (by have := hb1.size; first | (simp at this ⊢; omega) | (simp; omega) | omega) _ | refine below_drewN ?_ _)))
    have hx1 := bcell hb1
    clear hl0
    have hl0 : w.heap.size < w3.heap.size := by have := hb1.size; simp at this; omega
    clear k3
    go_wp2_with fail
    refine (toDisk_any _ _ _).mono ?_
    rintro e w4 ⟨rfl, k4⟩
    clear hx1
    replace hb1 := below_link hb1 k4 (by (repeat (first | exact Below.refl _ _ | refine Below.setCell ?_ (by have := hb1.size; first | (simp at this ⊢; omega) | (simp; omega) | omega) _ | refine Below.alloc ?_ (by have := hb1.size; first | (simp at this ⊢; omega) | (simp; omega) | omega) _ | refine below_drewN ?_ _)))
    have hb4 := k4
    have hx1 := bcell hb1
    have hx4 := bcell hb4
    clear hl0
    have hl0 : w.heap.size < w4.heap.size := by have := hb1.size; simp at this; omega
    have hm4 : w3.heap.size < w4.heap.size := by have := hb4.size; simp at this; omega
    clear k4
    go_wp2_with fail
    refine (He.out _).mono ?_
    rintro e w5 ⟨rfl, k5⟩
    clear hx1 hx4
    replace hb1 := below_link hb1 k5 (by (repeat (first | exact Below.refl _ _ | refine Below.setCell ?_ (by have := hb1.size; first | (simp at this ⊢; omega) | (simp; omega) | omega) _ | refine Below.alloc ?_ (by have := hb1.size; first | (simp at this ⊢; omega) | (simp; omega) | omega) _ | refine below_drewN ?_ _)))
    replace hb4 := below_link hb4 k5 (by (repeat (first | exact Below.refl _ _ | refine Below.setCell ?_ (by have := hb4.size; first | (simp at this ⊢; omega) | (simp; omega) | omega) _ | refine Below.alloc ?_ (by have := hb4.size; first | (simp at this ⊢; omega) | (simp; omega) | omega) _ | refine below_drewN ?_ _)))
    have hx1 := bcell hb1
    have hx4 := bcell hb4
    clear hl0
    have hl0 : w.heap.size < w5.heap.size := by have := hb1.size; simp at this; omega
    clear hm4
    have hm4 : w3.heap.size < w5.heap.size := by have := hb4.size; simp at this; omega
    clear k5
    go_wp2_with fail
    refine (eqDisk_same _ _ _).mono ?_
    rintro e w6 ⟨rfl, k6⟩
    clear hx1 hx4
    replace hb1 := below_link hb1 k6 (by (repeat (first | exact Below.refl _ _ | refine Below.setCell ?_ (by have := hb1.size; first | (simp at this ⊢; omega) | (simp; omega) | omega) _ | refine Below.alloc ?_ (by have := hb1.size; first | (simp at this ⊢; omega) | (simp; omega) | omega) _ | refine below_drewN ?_ _)))
    replace hb4 := below_link hb4 k6 (by (repeat (first | exact Below.refl _ _ | refine Below.setCell ?_ (by have := hb4.size; first | (simp at this ⊢; omega) | (simp; omega) | omega) _ | refine Below.alloc ?_ (by have := hb4.size; first | (simp at this ⊢; omega) | (simp; omega) | omega) _ | refine below_drewN ?_ _)))
    have hb6 := k6
    have hx1 := bcell hb1
    have hx4 := bcell hb4
    have hx6 := bcell hb6
    clear hl0
    have hl0 : w.heap.size < w6.heap.size := by have := hb1.size; simp at this; omega
    clear hm4
    have hm4 : w3.heap.size < w6.heap.size := by have := hb4.size; simp at this; omega
    have hm6 : w5.heap.size < w6.heap.size := by have := hb6.size; simp at this; omega
    clear k6
    go_wp2
    go_ret
    exact ⟨rfl, below_after hb1 (by (repeat (first | exact Below.refl _ _ | exact below_new _ _ | refine below_setCell ?_ (by first | (simp; done) | (simp; omega) | omega) | refine below_alloc _ ?_ | refine below_drewN ?_ _ | refine below_after (by assumption) ?_ | assumption)))⟩

end Go.Proofs.Ytekgackednpdgaa.fnExactCutDisk
