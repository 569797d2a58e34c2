/- MendDisk, both. -/
import Derived.Test.YtkgnogdbojefkaaFrames
import Derived.Test.YtkgnogdbojefkaaDisk2
namespace Go.Proofs.Ytkgnogdbojefkaa
open Go.RowKit

theorem bytes_nil {y : ByteArray} (h : y.size = 0) : y = ⟨#[]⟩ := by
  apply str_eq_iff.1
  rw [ByteArray.toList_eq, ByteArray.toList_eq]
  have h2 : y.data.toList.length = 0 := by rw [Array.length_toList]; exact h
  rw [List.eq_nil_of_length_eq_zero h2]

theorem not_nil {y : ByteArray} (h : ¬ y.size = 0) : y.toList.isEmpty = false := by
  rw [ByteArray.toList_eq]
  cases hl : y.data.toList with
  | nil => exact absurd (by have h2 := congrArg List.length hl; rw [Array.length_toList] at h2; exact h2) h
  | cons a l => rfl

/-- What MendDisk says. -/
def mendQ (x y : ByteArray) : Bool := diskB x y && decide (y.size = 0)
/-- What MendDisk leaves. -/
noncomputable def mendF (x : ByteArray) : ByteArray := x.extract 0 (framesF (x.size + 1) x 0).2

/-- impl.isMendable -/
theorem isMendable_any (x y : ByteArray) (hx : x.size ≤ 1048576) (hy : y.size ≤ 1048576) (w : World) :
    Calls Try.prog 122 #[.agg #[.string x, .string y]] w fun e w' => e = .returned (.bool (mendQ x y)) ∧ Below w.heap.size w w' := by
  have Hc := Lib.hid (goodDisk_any x y (by omega) (by omega))
  unfold mendQ
  generalize diskB x y = q at *
  by_cases h0 : y.size = 0
  · have hy0 := bytes_nil h0
    subst hy0
    cases q
    all_goals
      go_enter Try.func122, Try.ntmps122
      go_wp2_with (go_at_call 124; refine (Hc.out _).mono ?_; rintro e w1 ⟨rfl, k⟩; have hx := bcell k; have hz := k.size)
      go_ret
      exact ⟨ret_bool (by first | (simp; done) | (simp; rfl)), by (repeat (first | exact Below.refl _ _ | exact below_new _ _ | refine below_setCell ?_ (by first | (simp; done) | (simp; omega) | omega) | refine below_alloc _ ?_ | refine below_drewN ?_ _ | refine below_after (by assumption) ?_ | assumption))⟩
  · have hie := not_nil h0
    have hd : decide (y.size = 0) = false := by simp [h0]
    rw [hd]
    cases q
    all_goals
      go_enter Try.func122, Try.ntmps122
      go_wp2_with (go_at_call 124; refine (Hc.out _).mono ?_; rintro e w1 ⟨rfl, k⟩; have hx := bcell k; have hz := k.size)
      go_ret
      exact ⟨ret_bool (by first | (simp; done) | exact hie | (simp; exact fun h => by rw [h] at hie; cases hie)), by (repeat (first | exact Below.refl _ _ | exact below_new _ _ | refine below_setCell ?_ (by first | (simp; done) | (simp; omega) | omega) | refine below_alloc _ ?_ | refine below_drewN ?_ _ | refine below_after (by assumption) ?_ | assumption))⟩

set_option maxRecDepth 100000 in
/-- impl.MendDisk -/
theorem mendDisk_any (x y : ByteArray) (hx : x.size ≤ 1048576) (hy : y.size ≤ 1048576) (w : World) :
    Calls Try.prog 59 #[.agg #[.string x, .string y]] w fun e w' => e = .returned (.tuple #[.agg #[.string (pickB (mendQ x y) (mendF x)), .string ⟨#[]⟩], .bool (mendQ x y)]) ∧ Below w.heap.size w w' := by
  have Hd := Lib.hid (framesOf_any x hx)
  have hle : ((framesF (x.size + 1) x 0).2 : Int) ≤ (x.size : Int) := by have := framesF_le (B := x) (x.size + 1) 0 (Nat.zero_le _); omega
  unfold mendF
  unfold FramesPost at Hd
  generalize framesF (x.size + 1) x 0 = F at *
  obtain ⟨F1, n⟩ := F
  simp only at hle
  have Hc := Lib.hid (isMendable_any x y hx hy)
  generalize mendQ x y = q at *
  cases q
  · go_enter Try.func59, Try.ntmps59
    go_wp2_with (go_at_call 122; refine (Hc.out _).mono ?_; rintro e w1 ⟨rfl, k⟩; have hx := bcell k; have hz := k.size)
    refine bodyPost_ret (v := .tuple #[.agg #[.string ⟨#[]⟩, .string ⟨#[]⟩], .bool false]) (by simp [results, Try.results59, go_sem, hx.1]) rfl ⟨rfl, ?_⟩
    (repeat (first | exact Below.refl _ _ | exact below_new _ _ | refine below_setCell ?_ (by first | (simp; done) | (simp; omega) | omega) | refine below_alloc _ ?_ | refine below_drewN ?_ _ | refine below_after (by assumption) ?_ | assumption))
  · go_enter Try.func59, Try.ntmps59
    go_wp2_with fail
    refine (Hc.out _).mono ?_
    rintro e w1 ⟨rfl, k⟩
    have hx1 := bcell k
    have c0 : w1.cell? ⟨w.heap.size, 0, none⟩ = some (.string x) := by rw [hx1.1 _ _ (by simp; omega)]; simp [go_sem]
    have c2 : w1.cell? ⟨w.heap.size + 1, 0, none⟩ = some (.string ⟨#[]⟩) := by rw [hx1.1 _ _ (by simp)]; simp [go_sem]
    have c3 : w1.cell? ⟨w.heap.size + 1, 1, none⟩ = some (.string ⟨#[]⟩) := by rw [hx1.1 _ _ (by simp)]; simp [go_sem]
    have c4 : w1.frozen? ⟨w.heap.size + 1, 0, none⟩ = false := by rw [hx1.2 _ _ (by simp)]; simp [go_sem]
    have c5 : w1.frozen? ⟨w.heap.size + 1, 1, none⟩ = false := by rw [hx1.2 _ _ (by simp)]; simp [go_sem]
    have c6 : Below w.heap.size w w1 := below_after k (by (repeat (first | exact Below.refl _ _ | exact below_new _ _ | refine below_setCell ?_ (by first | (simp; done) | (simp; omega) | omega) | refine below_alloc _ ?_ | refine below_drewN ?_ _ | refine below_after (by assumption) ?_ | assumption)))
    clear hx1 k
    go_wp2_with fail
    refine (Hd.out _).mono ?_
    rintro e w2 ⟨v, rfl, hown, k2⟩
    have d0 := cell_step k2 c0
    have d2 := cell_step k2 c2
    have d3 := cell_step k2 c3
    have d4 := frozen_step k2 c2 c4
    have d5 := frozen_step k2 c3 c5
    have d6 := below_after k2 c6
    clear c0 c2 c3 c4 c5 c6 k2 hown
    go_wp2
    have hr := set2_cells (W := w2) (b := w.heap.size + 1) (u0 := .string (x.extract 0 n)) (u1 := .string ⟨#[]⟩) (World.cell?_setCell_other _ _ _ _ (by simp) |>.trans (World.cell?_setCell_same _ _ _ d2)) (World.cell?_setCell_same _ _ _ ((World.cell?_setCell_other _ _ _ _ (by simp)).trans d3))
    refine bodyPost_ret (v := .tuple #[.agg #[.string (x.extract 0 n), .string ⟨#[]⟩], .bool true]) (by simp [results, Try.results59, go_sem, hr.1, hr.2]) rfl ⟨rfl, ?_⟩
    exact below_setCell (below_setCell d6 (by simp)) (by simp)

set_option maxRecDepth 100000 in
/-- spec.MendDisk -/
theorem mendDiskS_any (x y : ByteArray) (hx : x.size ≤ 1048576) (hy : y.size ≤ 1048576) (w : World) :
    Calls Try.prog 57 #[.agg #[.string x, .string y]] w fun e w' => e = .returned (.tuple #[.agg #[.string (pickB (mendQ x y) (mendF x)), .string ⟨#[]⟩], .bool (mendQ x y)]) ∧ Below w.heap.size w w' := by
  have Hd := Lib.hid (l6Frames_any x hx)
  have hle : ((framesF (x.size + 1) x 0).2 : Int) ≤ (x.size : Int) := by have := framesF_le (B := x) (x.size + 1) 0 (Nat.zero_le _); omega
  unfold mendF
  unfold FramesPost at Hd
  generalize framesF (x.size + 1) x 0 = F at *
  obtain ⟨F1, n⟩ := F
  simp only at hle
  have Hc := Lib.hid (goodDiskS_any x y (by omega) (by omega))
  unfold mendQ
  generalize diskB x y = q at *
  cases q
  · go_enter Try.func57, Try.ntmps57
    go_wp2_with (go_at_call 120; refine (Hc.out _).mono ?_; rintro e w1 ⟨rfl, k⟩; have hx := bcell k; have hz := k.size)
    refine bodyPost_ret (v := .tuple #[.agg #[.string ⟨#[]⟩, .string ⟨#[]⟩], .bool false]) (by simp [results, Try.results57, go_sem, hx.1]) rfl ⟨rfl, ?_⟩
    (repeat (first | exact Below.refl _ _ | exact below_new _ _ | refine below_setCell ?_ (by first | (simp; done) | (simp; omega) | omega) | refine below_alloc _ ?_ | refine below_drewN ?_ _ | refine below_after (by assumption) ?_ | assumption))
  by_cases h0 : y.size = 0
  · have hy0 := bytes_nil h0
    subst hy0
    clear h0
    go_enter Try.func57, Try.ntmps57
    go_wp2_with fail
    refine (Hc.out _).mono ?_
    rintro e w1 ⟨rfl, k⟩
    have hx1 := bcell k
    have c0 : w1.cell? ⟨w.heap.size, 0, none⟩ = some (.string x) := by rw [hx1.1 _ _ (by simp; omega)]; simp [go_sem]
    have c2 : w1.cell? ⟨w.heap.size + 1, 0, none⟩ = some (.string ⟨#[]⟩) := by rw [hx1.1 _ _ (by simp)]; simp [go_sem]
    have c3 : w1.cell? ⟨w.heap.size + 1, 1, none⟩ = some (.string ⟨#[]⟩) := by rw [hx1.1 _ _ (by simp)]; simp [go_sem]
    have c4 : w1.frozen? ⟨w.heap.size + 1, 0, none⟩ = false := by rw [hx1.2 _ _ (by simp)]; simp [go_sem]
    have c5 : w1.frozen? ⟨w.heap.size + 1, 1, none⟩ = false := by rw [hx1.2 _ _ (by simp)]; simp [go_sem]
    have c6 : Below w.heap.size w w1 := below_after k (by (repeat (first | exact Below.refl _ _ | exact below_new _ _ | refine below_setCell ?_ (by first | (simp; done) | (simp; omega) | omega) | refine below_alloc _ ?_ | refine below_drewN ?_ _ | refine below_after (by assumption) ?_ | assumption)))
    have c1 : w1.cell? ⟨w.heap.size, 1, none⟩ = some (.string ⟨#[]⟩) := by rw [hx1.1 _ _ (by simp; omega)]; simp [go_sem]
    clear hx1 k
    go_wp2_with fail
    refine (Hd.out _).mono ?_
    rintro e w2 ⟨v, rfl, hown, k2⟩
    have d0 := cell_step k2 c0
    have d2 := cell_step k2 c2
    have d3 := cell_step k2 c3
    have d4 := frozen_step k2 c2 c4
    have d5 := frozen_step k2 c3 c5
    have d6 := below_after k2 c6
    clear c0 c2 c3 c4 c5 c6 k2 hown
    go_wp2
    have hr := set2_cells (W := w2) (b := w.heap.size + 1) (u0 := .string (x.extract 0 n)) (u1 := .string ⟨#[]⟩) (World.cell?_setCell_other _ _ _ _ (by simp) |>.trans (World.cell?_setCell_same _ _ _ d2)) (World.cell?_setCell_same _ _ _ ((World.cell?_setCell_other _ _ _ _ (by simp)).trans d3))
    refine bodyPost_ret (v := .tuple #[.agg #[.string (x.extract 0 n), .string ⟨#[]⟩], .bool true]) (by simp [results, Try.results57, go_sem, hr.1, hr.2]) rfl ⟨rfl, ?_⟩
    exact below_setCell (below_setCell d6 (by simp)) (by simp)
  · have hie := not_nil h0
    have hd : decide (y.size = 0) = false := by simp [h0]
    rw [hd]
    go_enter Try.func57, Try.ntmps57
    go_wp2_with (go_at_call 120; refine (Hc.out _).mono ?_; rintro e w1 ⟨rfl, k⟩; have hx := bcell k; have hz := k.size)
    refine bodyPost_ret (v := .tuple #[.agg #[.string ⟨#[]⟩, .string ⟨#[]⟩], .bool false]) (by simp [results, Try.results57, go_sem, hx.1]) rfl ⟨rfl, ?_⟩
    (repeat (first | exact Below.refl _ _ | exact below_new _ _ | refine below_setCell ?_ (by first | (simp; done) | (simp; omega) | omega) | refine below_alloc _ ?_ | refine below_drewN ?_ _ | refine below_after (by assumption) ?_ | assumption))

end Go.Proofs.Ytkgnogdbojefkaa
