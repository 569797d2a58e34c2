/- MendDisk, both. -/
import Derived.Test.YtekgackednpdgaaFrames
import Derived.Test.YtekgackednpdgaaDisk2
namespace Go.Proofs.Ytekgackednpdgaa
open Go.RowKit

theorem bytes_nil {y : ByteArray} (h : y.size = 0) : y = ⟨#[]⟩ := by
  apply str_eq_iff.1
  rw [ByteArray.toList_eq, ByteArray.toList_eq]
  have h2 : y.data.toList.length = 0 := by rw [Array.length_toList]; exact h
  rw [List.eq_nil_of_length_eq_zero h2]

theorem not_nil {y : ByteArray} (h : ¬ y.size = 0) : y.toList.isEmpty = false := by
  rw [ByteArray.toList_eq]
  cases hl : y.data.toList with
  | nil => exact absurd (by have h2 := congrArg List.length hl; rw [Array.length_toList] at h2; exact h2) h
  | cons a l => rfl

/-- What MendDisk says. -/
def mendQ (x y : ByteArray) : Bool := diskB x y && decide (y.size = 0)
/-- What MendDisk leaves. -/
noncomputable def mendF (x : ByteArray) : ByteArray := x.extract 0 (framesF (x.size + 1) x 0).2

/-- impl.isMendable -/
theorem isMendable_any (x y : ByteArray) (hx : x.size ≤ 1048576) (hy : y.size ≤ 1048576) (w : World) :
    Calls Try.prog 86 #[.agg #[.string x, .string y]] w fun e w' => e = .returned (.bool (mendQ x y)) ∧ Below w.heap.size w w' := by
  have Hc := Lib.hid (goodDisk_any x y (by omega) (by omega))
  unfold mendQ
  generalize diskB x y = q at *
  by_cases h0 : y.size = 0
  · have hy0 := bytes_nil h0
    subst hy0
    cases q
    all_goals
      go_enter Try.func86, Try.ntmps86
      go_wp2_with (go_at_call 90; refine (Hc.out _).mono ?_; rintro e w1 ⟨rfl, k⟩; have hx := bcell k; have hz := k.size)
      go_ret
      exact ⟨ret_bool (by first | (simp; done) | (simp; rfl)), by (repeat (first | exact Below.refl _ _ | exact below_new _ _ | refine below_setCell ?_ (by first | (simp; done) | (simp; omega) | omega) | refine below_alloc _ ?_ | refine below_drewN ?_ _ | refine below_after (by assumption) ?_ | assumption))⟩
  · have hie := not_nil h0
    have hd : decide (y.size = 0) = false := by simp [h0]
    rw [hd]
    cases q
    all_goals
      go_enter Try.func86, Try.ntmps86
      go_wp2_with (go_at_call 90; refine (Hc.out _).mono ?_; rintro e w1 ⟨rfl, k⟩; have hx := bcell k; have hz := k.size)
      go_ret
      exact ⟨ret_bool (by first | (simp; done) | exact hie | (simp; exact fun h => by rw [h] at hie; cases hie)), by (repeat (first | exact Below.refl _ _ | exact below_new _ _ | refine below_setCell ?_ (by first | (simp; done) | (simp; omega) | omega) | refine below_alloc _ ?_ | refine below_drewN ?_ _ | refine below_after (by assumption) ?_ | assumption))⟩

end Go.Proofs.Ytekgackednpdgaa
